/- Parts of a proof, printed short. No condition. -/
import Derived.Test.YtkeeaccnnljimaaGreatDoorProg
import Derived.Test.YtkeeaccnnljimaaGreatDoorHiQ3
set_option maxRecDepth 100000
namespace Go.AM
open Go Go.Proofs
def Zjl (a:(List Int)) (b:List Value) (r:(Int × Int)):PV→List Blk→Prop:=fun p K=>p=(.tup [(i64 r.1),(i64 r.2)])∧K=[.cells (cel Zd a b)]
theorem Zjm (g:Nat) (d:(List Int)) (f:List Value) (a:Int) (b:Int) (r:(Int × Int)) (hF:Zca g d a b=some r):ACall Tryz.prog glob 163 [(.vw 0 0 g),(i64 a),(i64 b)] [.cells (cel Zd d f)] (Zjl d f r):=by
 refine ACall.body Tryz.func163 rfl (by kernel_rfl) ?_
 unfold Zca at hF
 refine AWP.seq (AWP.rg0 [] [(0,(.vw 0 0 g)),(1,(i64 a)),(2,(i64 b))] (AWP.seq (AWP.rg0 [] [(0,(.vw 0 0 g)),(1,(i64 a)),(8,(i64 (ZI (b - a))))] (AWP.seq (AWP.rg [] [(0,(.vw 0 0 g)),(1,(i64 a)),(8,(i64 (ZI (b - a)))),(9,(.ptr 1 0))] [.cells (cel Zd d f),.cells (Zaj (0:Int))] (AWP.seq ?_))))))
 refine AWP.rg0 [] [(0,(.vw 0 0 g)),(1,(i64 a)),(8,(i64 (ZI (b - a)))),(9,(.ptr 1 0)),(10,(i64 (ZI (a + (ZI ((ZI (Int.tdiv (ZI (b - a)) (4:Int))) * (1:Int)))))))] (AWP.seq (AWP.rg0 [] [(0,(.vw 0 0 g)),(1,(i64 a)),(8,(i64 (ZI (b - a)))),(9,(.ptr 1 0)),(10,(i64 (ZI (a + (ZI ((ZI (Int.tdiv (ZI (b - a)) (4:Int))) * (1:Int))))))),(11,(i64 (ZI (a + (ZI ((ZI (Int.tdiv (ZI (b - a)) (4:Int))) * (2:Int)))))))] (AWP.seq (AWP.rg0 [] [(0,(.vw 0 0 g)),(8,(i64 (ZI (b - a)))),(9,(.ptr 1 0)),(10,(i64 (ZI (a + (ZI ((ZI (Int.tdiv (ZI (b - a)) (4:Int))) * (1:Int))))))),(11,(i64 (ZI (a + (ZI ((ZI (Int.tdiv (ZI (b - a)) (4:Int))) * (2:Int))))))),(12,(i64 (ZI (a + (ZI ((ZI (Int.tdiv (ZI (b - a)) (4:Int))) * (3:Int)))))))] ?_))))
 obtain⟨u,v,hF⟩:=bindb hF
 refine AWP.seq ?_
 refine AWP.mid (fun e st H=>(e=.normal∧∃ l,∃ i,u=(l,i)∧st=[(9,(.ptr 1 0)),(11,(i64 i))]∧H=[.cells (cel Zd d f),.cells (Zaj l)])) ?_ ?_
 ·clear hF
  have hF:=v
  refine AWP.seq (AWP.rg0 [] [(0,(.vw 0 0 g)),(8,(i64 (ZI (b - a)))),(9,(.ptr 1 0)),(10,(i64 (ZI (a + (ZI ((ZI (Int.tdiv (ZI (b - a)) (4:Int))) * (1:Int))))))),(11,(i64 (ZI (a + (ZI ((ZI (Int.tdiv (ZI (b - a)) (4:Int))) * (2:Int))))))),(12,(i64 (ZI (a + (ZI ((ZI (Int.tdiv (ZI (b - a)) (4:Int))) * (3:Int))))))),(32,(vb (decide ((ZI (b - a)) ≥ (8:Int)))))] ?_)
  refine AWP.cif hF (fun w hF=>?_) (fun w hF=>?_)
  ·obtain⟨x,y,hF⟩:=bindb hF
   refine AWP.seq ?_
   refine AWP.mid (fun e st H=>(e=.normal∧∃ p,∃ q,∃ s,∃ t,x=(p,q,s,t)∧st=[(0,(.vw 0 0 g)),(9,(.ptr 1 0)),(10,(i64 q)),(11,(i64 s)),(12,(i64 t))]∧H=[.cells (cel Zd d f),.cells (Zaj p)])) ?_ ?_
   ·clear hF
    have hF:=y
    refine AWP.seq (AWP.rg0 [] [(0,(.vw 0 0 g)),(9,(.ptr 1 0)),(10,(i64 (ZI (a + (ZI ((ZI (Int.tdiv (ZI (b - a)) (4:Int))) * (1:Int))))))),(11,(i64 (ZI (a + (ZI ((ZI (Int.tdiv (ZI (b - a)) (4:Int))) * (2:Int))))))),(12,(i64 (ZI (a + (ZI ((ZI (Int.tdiv (ZI (b - a)) (4:Int))) * (3:Int))))))),(34,(vb (decide ((ZI (b - a)) ≥ (50:Int)))))] ?_)
    refine AWP.cif hF (fun z hF=>?_) (fun z hF=>?_)
    ·refine AWP.seq ?_
     obtain⟨j,a0,hF⟩:=bindb hF
     refine AWP.rg [(2,.callC Tryz.func174 [] (closedH.c (Zz (row:=Zd) (fun _=>rfl) d f) (closedH.c (cs:=Zaj (0:Int)) rfl closedH.n)) (closedH.c (Zz (row:=Zd) (fun _=>rfl) d f) (closedH.c (cs:=Zaj j.2) rfl closedH.n)) (Zd6 g d f (ZI (a + (ZI ((ZI (Int.tdiv (ZI (b - a)) (4:Int))) * (1:Int))))) (0:Int) j a0))] [(0,(.vw 0 0 g)),(9,(.ptr 1 0)),(10,(i64 j.1)),(11,(i64 (ZI (a + (ZI ((ZI (Int.tdiv (ZI (b - a)) (4:Int))) * (2:Int))))))),(12,(i64 (ZI (a + (ZI ((ZI (Int.tdiv (ZI (b - a)) (4:Int))) * (3:Int)))))))] [.cells (cel Zd d f),.cells (Zaj j.2)] (AWP.seq ?_)
     obtain⟨k,a1,hF⟩:=bindb hF
     refine AWP.rg [(2,.callC Tryz.func174 [] (closedH.c (Zz (row:=Zd) (fun _=>rfl) d f) (closedH.c (cs:=Zaj j.2) rfl closedH.n)) (closedH.c (Zz (row:=Zd) (fun _=>rfl) d f) (closedH.c (cs:=Zaj k.2) rfl closedH.n)) (Zd6 g d f (ZI (a + (ZI ((ZI (Int.tdiv (ZI (b - a)) (4:Int))) * (2:Int))))) j.2 k a1))] [(0,(.vw 0 0 g)),(9,(.ptr 1 0)),(10,(i64 j.1)),(11,(i64 k.1)),(12,(i64 (ZI (a + (ZI ((ZI (Int.tdiv (ZI (b - a)) (4:Int))) * (3:Int)))))))] [.cells (cel Zd d f),.cells (Zaj k.2)] ?_
     obtain⟨m,a2,hF⟩:=bindb hF
     refine AWP.rg [(2,.callC Tryz.func174 [] (closedH.c (Zz (row:=Zd) (fun _=>rfl) d f) (closedH.c (cs:=Zaj k.2) rfl closedH.n)) (closedH.c (Zz (row:=Zd) (fun _=>rfl) d f) (closedH.c (cs:=Zaj m.2) rfl closedH.n)) (Zd6 g d f (ZI (a + (ZI ((ZI (Int.tdiv (ZI (b - a)) (4:Int))) * (3:Int))))) k.2 m a2))] [(0,(.vw 0 0 g)),(9,(.ptr 1 0)),(10,(i64 j.1)),(11,(i64 k.1)),(12,(i64 m.1))] [.cells (cel Zd d f),.cells (Zaj m.2)] (LeQ.start (LeQ.pk [0,9,10,11,12] 2 ?_))
     exact⟨rfl,m.2,j.1,k.1,m.1,(someb hF).symm,by kernel_rfl,by kernel_rfl⟩
    ·refine AWP.skip (LeQ.start (LeQ.pk [0,9,10,11,12] 2 ?_))
     exact⟨rfl,(0:Int),(ZI (a + (ZI ((ZI (Int.tdiv (ZI (b - a)) (4:Int))) * (1:Int))))),(ZI (a + (ZI ((ZI (Int.tdiv (ZI (b - a)) (4:Int))) * (2:Int))))),(ZI (a + (ZI ((ZI (Int.tdiv (ZI (b - a)) (4:Int))) * (3:Int))))),(someb hF).symm,by kernel_rfl,by kernel_rfl⟩
   ·rintro _ _ _ ⟨rfl,p,q,s,t,rfl,rfl,rfl⟩
    obtain⟨o,a3,hF⟩:=bindb hF
    refine AWP.rg [(4,.callC Tryz.func175 [] (closedH.c (Zz (row:=Zd) (fun _=>rfl) d f) (closedH.c (cs:=Zaj p) rfl closedH.n)) (closedH.c (Zz (row:=Zd) (fun _=>rfl) d f) (closedH.c (cs:=Zaj o.2) rfl closedH.n)) (Zh4 g d f q s t p o a3))] [(9,(.ptr 1 0)),(11,(i64 o.1))] [.cells (cel Zd d f),.cells (Zaj o.2)] (LeQ.start (LeQ.pk [9,11] 2 ?_))
    exact⟨rfl,o.2,o.1,(someb hF).symm,by kernel_rfl,by kernel_rfl⟩
  ·refine AWP.skip (LeQ.start (LeQ.pk [9,11] 2 ?_))
   exact⟨rfl,(0:Int),(ZI (a + (ZI ((ZI (Int.tdiv (ZI (b - a)) (4:Int))) * (2:Int))))),(someb hF).symm,by kernel_rfl,by kernel_rfl⟩
 ·rintro _ _ _ ⟨rfl,l,i,rfl,rfl,rfl⟩
  refine AWP.seq (AWP.rg0 [] [(11,(i64 i)),(49,(i64 l))] (AWP.block (AWP.seq (AWP.rg0 [] [(11,(i64 i)),(49,(i64 l)),(51,(vb (l == (0:Int))))] ?_))))
  refine AWP.cif hF (fun a4 hF=>?_) (fun a4 hF=>?_)
  ·refine AWP.seq (AWP.rg0 [] [(6,(i64 i)),(7,(i64 (1:Int)))] (AWP.ret ?_))
   have hr:=someb hF
   subst hr
   exact(FnQ.f0 1 (.inr rfl))
  ·refine AWP.seq (AWP.rg0 [] [(11,(i64 i)),(54,(vb (l == (12:Int))))] ?_)
   refine AWP.cif hF (fun a5 hF=>?_) (fun a5 hF=>?_)
   ·refine AWP.seq (AWP.rg0 [] [(6,(i64 i)),(7,(i64 (2:Int)))] (AWP.ret ?_))
    have hr:=someb hF
    subst hr
    exact(FnQ.f0 1 (.inr rfl))
   ·refine AWP.seq (AWP.rg0 [] [(6,(i64 i)),(7,(i64 (0:Int)))] (AWP.ret ?_))
    have hr:=someb hF
    subst hr
    exact(FnQ.f0 1 (.inr rfl))
def Zje (a:List Value) (r:(List Int)):PV→List Blk→Prop:=fun p K=>p=(.tup [])∧K=[.cells (cel Zd r a)]
theorem Zjf (c:Nat) (j:(List Int)) (d:List Value) (f:Int) (g:Int) (r:(List Int)) (hF:Zbf c j f g=some r):ACall Tryz.prog glob 164 [(.vw 0 0 c),(i64 f),(i64 g)] [.cells (cel Zd j d)] (Zje d r):=by
 refine ACall.body Tryz.func164 rfl (by kernel_rfl) ?_
 unfold Zbf at hF
 refine AWP.seq (AWP.rg0 [] [(0,(.vw 0 0 c)),(2,(i64 g)),(6,(i64 f))] (AWP.seq (AWP.rg0 [] [(0,(.vw 0 0 c)),(6,(i64 f)),(7,(i64 (ZI (g - (1:Int)))))] ?_)))
 obtain⟨o,v,hF⟩:=bindb hF
 refine AWP.mid (fun e st H=>e=.normal∧st=[]∧H=[.cells (cel Zd o d)]) ?_ ?_
 ·clear hF
  refine AWP.kp [0,6,7] 1 ?_
  refine AWP.bround (fun n st H=>∃ i,∃ a,∃ b,Zao c n i a b=some o∧st=[(0,(.vw 0 0 c)),(6,(i64 a)),(7,(i64 b))]∧H=[.cells (cel Zd i d)]) fuel ⟨j,f,(ZI (g - (1:Int))),v,by kernel_rfl,by kernel_rfl⟩ ?_
  rintro k st H ⟨i,a,b,hF,rfl,rfl⟩
  cases k with
  | zero=>exact noneb hF
  | succ k=>
   rw [Zao] at hF
   refine AWP.seq (AWP.seq (AWP.rg0 [] [(0,(.vw 0 0 c)),(6,(i64 a)),(7,(i64 b)),(13,(vb (decide (a<b))))] ?_))
   refine AWP.cif hF (fun w hF=>?_) (fun w hF=>?_)
   ·refine AWP.skip (AWP.block (AWP.seq ?_))
    obtain⟨l,p,hF⟩:=bindb hF
    obtain⟨m,q,hF⟩:=bindb hF
    obtain⟨x,t,hF⟩:=bindb hF
    obtain⟨y,u,hF⟩:=bindb hF
    refine AWP.dr [(6,.idxV (Zt p)),(7,.ldV Zd (s:=1) (fun _=>rfl) d (Zp p) (0 + Int.toNat b * 1) (Nat.zero_add _) []),(10,.idxV (Zt q)),(11,.ldV Zd (s:=1) (fun _=>rfl) d (Zp q) (0 + Int.toNat a * 1) (Nat.zero_add _) []),(12,.idxV (Zt t)),(13,.stV Zd (s:=1) (fun _=>rfl) d (Zp t) l (0 + Int.toNat a * 1) (Nat.zero_add _) []),(14,.idxV (Zt u)),(15,.stV Zd (s:=1) (fun _=>rfl) d (Zp u) m (0 + Int.toNat b * 1) (Nat.zero_add _) [])] 14 [] [13] [] [(0,(.vw 0 0 c)),(6,(i64 a)),(7,(i64 b))] [.cells (cel Zd (List.set (List.set i (Int.toNat a) l) (Int.toNat b) m) d)] (AWP.seq (AWP.rg0 [] [(0,(.vw 0 0 c)),(6,(i64 (ZI (a + (1:Int))))),(7,(i64 b))] (AWP.rg0 [] [(0,(.vw 0 0 c)),(6,(i64 (ZI (a + (1:Int))))),(7,(i64 (ZI (b - (1:Int)))))] (LeQ.start (LeQ.pk [0,6,7] 1 ?_)))))
    exact⟨k,Nat.lt_succ_self _,(List.set (List.set i (Int.toNat a) l) (Int.toNat b) m),(ZI (a + (1:Int))),(ZI (b - (1:Int))),hF,by kernel_rfl,by kernel_rfl⟩
   ·refine AWP.exit (LeQ.start (LeQ.pk [] 1 ?_))
    have hr:=someb hF
    subst hr
    exact⟨rfl,by kernel_rfl,by kernel_rfl⟩
 ·rintro _ _ _ ⟨rfl,rfl,rfl⟩
  have hr:=someb hF
  subst hr
  exact(FnQ.f0 1 (.inl rfl))
def Ze1 (a:List Value) (r:(Bool × (List Int))):PV→List Blk→Prop:=fun p K=>p=(vb r.1)∧K=[.cells (cel Zd r.2 a)]
abbrev Ze2 (a:List Value) (r:(Bool × (List Int))):Exit→St→List Blk→Prop:=FnQ Tryz.prog Tryz.f165.results 1 (Ze1 a r)
theorem Zh6 (f:Nat) (w:(List Int)) (d:List Value) (b:Int) (a:Int) (r:(Bool × (List Int))) (hF:Zap f w b a=some r):ACall Tryz.prog glob 165 [(.vw 0 0 f),(i64 b),(i64 a)] [.cells (cel Zd w d)] (Ze1 d r):=by
 refine ACall.body Tryz.func165 rfl (by kernel_rfl) ?_
 unfold Zap at hF
 refine AWP.seq (AWP.rg0 [] [(0,(.vw 0 0 f)),(1,(i64 b)),(2,(i64 a))] (AWP.seq (AWP.rg0 [] [(0,(.vw 0 0 f)),(1,(i64 b)),(2,(i64 a)),(7,(i64 (ZI (b + (1:Int)))))] (AWP.seq (AWP.seq (AWP.rg0 [] [(0,(.vw 0 0 f)),(1,(i64 b)),(2,(i64 a)),(7,(i64 (ZI (b + (1:Int))))),(8,(i64 (0:Int)))] ?_))))))
 obtain⟨x,d4,hF⟩:=bindb hF
 refine AWP.mid (fun e st H=>(e=.normal∧∃ y,x=(.inl y)∧st=[]∧H=[.cells (cel Zd y d)])∨(e=.ret∧∃ r,x=(.inr r)∧Ze2 d r e st H)) ?_ ?_
 ·clear hF
  refine AWP.kp [0,1,2,7,8] 1 ?_
  refine AWP.bround (fun n st H=>∃ k,∃ q,∃ g,Zac f b a n k q g=some x∧st=[(0,(.vw 0 0 f)),(1,(i64 b)),(2,(i64 a)),(7,(i64 q)),(8,(i64 g))]∧H=[.cells (cel Zd k d)]) fuel ⟨w,(ZI (b + (1:Int))),(0:Int),d4,by kernel_rfl,by kernel_rfl⟩ ?_
  rintro z st H ⟨k,q,g,hF,rfl,rfl⟩
  cases z with
  | zero=>exact noneb hF
  | succ z=>
   rw [Zac] at hF
   refine AWP.seq (AWP.seq (AWP.rg0 [] [(0,(.vw 0 0 f)),(1,(i64 b)),(2,(i64 a)),(7,(i64 q)),(8,(i64 g)),(14,(vb (decide (g<(5:Int)))))] ?_))
   refine AWP.cif hF (fun d5 hF=>?_) (fun d5 hF=>?_)
   ·refine AWP.skip ?_
    obtain⟨b1,d6,hF⟩:=bindb hF
    refine AWP.seq ?_
    refine AWP.mid (fun e st H=>(e=.normal∧∃ u,∃ t,b1=(.inl (u,t))∧st=[(0,(.vw 0 0 f)),(1,(i64 b)),(2,(i64 a)),(7,(i64 t)),(8,(i64 g))]∧H=[.cells (cel Zd u d)])∨(e=.ret∧∃ r,b1=(.inr r)∧Ze2 d r e st H)) ?_ ?_
    ·clear hF
     have hF:=d6
     refine AWP.block (AWP.seq ?_)
     obtain⟨c,d7,hF⟩:=bindb hF
     refine AWP.mid (fun e st H=>e=.normal∧st=[(0,(.vw 0 0 f)),(1,(i64 b)),(2,(i64 a)),(7,(i64 c)),(8,(i64 g))]∧H=[.cells (cel Zd k d)]) ?_ ?_
     ·clear hF
      refine AWP.kp [0,1,2,7,8] 1 ?_
      refine AWP.bround (fun n st H=>∃ m,Zaa f a k n m=some c∧st=[(0,(.vw 0 0 f)),(1,(i64 b)),(2,(i64 a)),(7,(i64 m)),(8,(i64 g))]∧H=[.cells (cel Zd k d)]) fuel ⟨q,d7,by kernel_rfl,by kernel_rfl⟩ ?_
      rintro a0 st H ⟨m,hF,rfl,rfl⟩
      cases a0 with
      | zero=>exact noneb hF
      | succ a0=>
       rw [Zaa] at hF
       refine AWP.seq (AWP.seq ?_)
       obtain⟨d8,v,hF⟩:=bindb hF
       replace v:=someb v
       obtain⟨d9,b2,hF⟩:=bindb hF
       refine AWP.to [(0,(.vw 0 0 f)),(1,(i64 b)),(2,(i64 a)),(7,(i64 m)),(8,(i64 g)),(32,(vb d9))] [.cells (cel Zd k d)] ?_ ?_
       ·cases d8 with
        | false=>
         have e0:=someb (ifF b2 rfl)
         subst e0
         exact AWP.drT [(3,.bool v)] 16 [] [] []
        | true=>
         have l:=ifT b2 rfl
         obtain⟨e1,b3,l⟩:=bindb l
         obtain⟨e2,b4,l⟩:=bindb l
         obtain⟨e3,e4,l⟩:=bindb l
         replace l:=someb l
         subst l
         exact AWP.drT [(3,.bool v),(6,.idxV (Zt b3)),(7,.ldV Zd (s:=1) (fun _=>rfl) d (Zp b3) (0 + Int.toNat m * 1) (Nat.zero_add _) []),(11,.idxV (Zt b4)),(12,.ldV Zd (s:=1) (fun _=>rfl) d (Zp b4) (0 + Int.toNat (ZI (m - (1:Int))) * 1) (Nat.zero_add _) []),(13,.call Tryz.func166 [] (Zba e1 e2 e3 e4))] 16 [] [] []
       refine AWP.cif hF (fun e5 hF=>?_) (fun e5 hF=>?_)
       ·refine AWP.skip (AWP.block (AWP.rg0 [] [(0,(.vw 0 0 f)),(1,(i64 b)),(2,(i64 a)),(7,(i64 (ZI (m + (1:Int))))),(8,(i64 g))] (LeQ.start (LeQ.pk [0,1,2,7,8] 1 ?_))))
        exact⟨a0,Nat.lt_succ_self _,(ZI (m + (1:Int))),hF,by kernel_rfl,by kernel_rfl⟩
       ·refine AWP.exit (LeQ.start (LeQ.pk [0,1,2,7,8] 1 ?_))
        have hr:=someb hF
        subst hr
        exact⟨rfl,by kernel_rfl,by kernel_rfl⟩
     ·rintro _ _ _ ⟨rfl,rfl,rfl⟩
      refine AWP.seq (AWP.seq (AWP.rg0 [] [(0,(.vw 0 0 f)),(1,(i64 b)),(2,(i64 a)),(7,(i64 c)),(8,(i64 g)),(37,(vb (c == a)))] ?_))
      refine AWP.cif hF (fun e6 hF=>?_) (fun e6 hF=>?_)
      ·refine AWP.seq (AWP.rg0 [] [(6,(vb true))] (AWP.ret ?_))
       exact LeQ.of (.inr ⟨rfl,(true,k),(someb hF).symm,(FnQ.f0 1 (.inr rfl))⟩)
      ·refine AWP.skip (AWP.seq (AWP.seq (AWP.rg0 [] [(0,(.vw 0 0 f)),(1,(i64 b)),(2,(i64 a)),(7,(i64 c)),(8,(i64 g)),(41,(vb (decide ((ZI (a - b))<(50:Int)))))] ?_)))
       refine AWP.cif hF (fun e7 hF=>?_) (fun e7 hF=>?_)
       ·refine AWP.seq (AWP.rg0 [] [(6,(vb false))] (AWP.ret ?_))
        exact LeQ.of (.inr ⟨rfl,(false,k),(someb hF).symm,(FnQ.f0 1 (.inr rfl))⟩)
       ·refine AWP.skip (AWP.seq ?_)
        obtain⟨a1,b5,hF⟩:=bindb hF
        obtain⟨a2,b6,hF⟩:=bindb hF
        obtain⟨g5,b7,hF⟩:=bindb hF
        obtain⟨g6,b8,hF⟩:=bindb hF
        refine AWP.dr [(8,.idxV (Zt b5)),(9,.ldV Zd (s:=1) (fun _=>rfl) d (Zp b5) (0 + Int.toNat (ZI (c - (1:Int))) * 1) (Nat.zero_add _) []),(12,.idxV (Zt b6)),(13,.ldV Zd (s:=1) (fun _=>rfl) d (Zp b6) (0 + Int.toNat c * 1) (Nat.zero_add _) []),(14,.idxV (Zt b7)),(15,.stV Zd (s:=1) (fun _=>rfl) d (Zp b7) a1 (0 + Int.toNat c * 1) (Nat.zero_add _) []),(16,.idxV (Zt b8)),(17,.stV Zd (s:=1) (fun _=>rfl) d (Zp b8) a2 (0 + Int.toNat (ZI (c - (1:Int))) * 1) (Nat.zero_add _) [])] 16 [] [15] [] [(0,(.vw 0 0 f)),(1,(i64 b)),(2,(i64 a)),(7,(i64 c)),(8,(i64 g))] [.cells (cel Zd (List.set (List.set k (Int.toNat c) a1) (Int.toNat (ZI (c - (1:Int)))) a2) d)] ?_
        obtain⟨a3,e8,hF⟩:=bindb hF
        refine AWP.seq ?_
        refine AWP.mid (fun e st H=>e=.normal∧st=[(0,(.vw 0 0 f)),(1,(i64 b)),(2,(i64 a)),(7,(i64 c)),(8,(i64 g))]∧H=[.cells (cel Zd a3 d)]) ?_ ?_
        ·clear hF
         have hF:=e8
         refine AWP.seq (AWP.rg0 [] [(0,(.vw 0 0 f)),(1,(i64 b)),(2,(i64 a)),(7,(i64 c)),(8,(i64 g)),(61,(vb (decide ((ZI (c - b)) ≥ (2:Int)))))] ?_)
         refine AWP.cif hF (fun e9 hF=>?_) (fun e9 hF=>?_)
         ·refine AWP.seq (AWP.rg0 [] [(0,(.vw 0 0 f)),(1,(i64 b)),(2,(i64 a)),(7,(i64 c)),(8,(i64 g)),(9,(i64 (ZI (c - (1:Int)))))] ?_)
          obtain⟨b9,f1,hF⟩:=bindb hF
          refine AWP.mid (fun e st H=>e=.normal∧st=[(0,(.vw 0 0 f)),(1,(i64 b)),(2,(i64 a)),(7,(i64 c)),(8,(i64 g))]∧H=[.cells (cel Zd b9 d)]) ?_ ?_
          ·clear hF
           refine AWP.kp [0,1,2,7,8,9] 1 ?_
           refine AWP.bround (fun n st H=>∃ o,∃ i,Z7 f n o i=some b9∧st=[(0,(.vw 0 0 f)),(1,(i64 b)),(2,(i64 a)),(7,(i64 c)),(8,(i64 g)),(9,(i64 i))]∧H=[.cells (cel Zd o d)]) fuel ⟨(List.set (List.set k (Int.toNat c) a1) (Int.toNat (ZI (c - (1:Int)))) a2),(ZI (c - (1:Int))),f1,by kernel_rfl,by kernel_rfl⟩ ?_
           rintro a4 st H ⟨o,i,hF,rfl,rfl⟩
           cases a4 with
           | zero=>exact noneb hF
           | succ a4=>
            rw [Z7] at hF
            refine AWP.seq (AWP.seq (AWP.rg0 [] [(0,(.vw 0 0 f)),(1,(i64 b)),(2,(i64 a)),(7,(i64 c)),(8,(i64 g)),(9,(i64 i)),(65,(vb (decide (i ≥ (1:Int)))))] ?_))
            refine AWP.cif hF (fun f2 hF=>?_) (fun f2 hF=>?_)
            ·refine AWP.skip (AWP.seq (AWP.block (AWP.seq (AWP.seq ?_))))
             obtain⟨f3,c0,hF⟩:=bindb hF
             obtain⟨f4,c1,hF⟩:=bindb hF
             obtain⟨c2,f5,hF⟩:=bindb hF
             refine AWP.dr [(2,.idxV (Zt c0)),(3,.ldV Zd (s:=1) (fun _=>rfl) d (Zp c0) (0 + Int.toNat i * 1) (Nat.zero_add _) []),(7,.idxV (Zt c1)),(8,.ldV Zd (s:=1) (fun _=>rfl) d (Zp c1) (0 + Int.toNat (ZI (i - (1:Int))) * 1) (Nat.zero_add _) []),(9,.call Tryz.func166 [] (Zba f3 f4 c2 f5))] 11 [] [] [] [(0,(.vw 0 0 f)),(1,(i64 b)),(2,(i64 a)),(7,(i64 c)),(8,(i64 g)),(9,(i64 i)),(78,(vb (!c2)))] [.cells (cel Zd o d)] ?_
             refine AWP.cif hF (fun f6 hF=>?_) (fun f6 hF=>?_)
             ·refine AWP.exit (LeQ.start (LeQ.pk [0,1,2,7,8] 1 ?_))
              have hr:=someb hF
              subst hr
              exact⟨rfl,by kernel_rfl,by kernel_rfl⟩
             ·refine AWP.skip ?_
              obtain⟨a5,c3,hF⟩:=bindb hF
              obtain⟨a6,c4,hF⟩:=bindb hF
              obtain⟨g7,c5,hF⟩:=bindb hF
              obtain⟨g8,c6,hF⟩:=bindb hF
              refine AWP.dr [(8,.idxV (Zt c3)),(9,.ldV Zd (s:=1) (fun _=>rfl) d (Zp c3) (0 + Int.toNat (ZI (i - (1:Int))) * 1) (Nat.zero_add _) []),(12,.idxV (Zt c4)),(13,.ldV Zd (s:=1) (fun _=>rfl) d (Zp c4) (0 + Int.toNat i * 1) (Nat.zero_add _) []),(14,.idxV (Zt c5)),(15,.stV Zd (s:=1) (fun _=>rfl) d (Zp c5) a5 (0 + Int.toNat i * 1) (Nat.zero_add _) []),(16,.idxV (Zt c6)),(17,.stV Zd (s:=1) (fun _=>rfl) d (Zp c6) a6 (0 + Int.toNat (ZI (i - (1:Int))) * 1) (Nat.zero_add _) [])] 16 [] [15] [] [(0,(.vw 0 0 f)),(1,(i64 b)),(2,(i64 a)),(7,(i64 c)),(8,(i64 g)),(9,(i64 i))] [.cells (cel Zd (List.set (List.set o (Int.toNat i) a5) (Int.toNat (ZI (i - (1:Int)))) a6) d)] (AWP.rg0 [] [(0,(.vw 0 0 f)),(1,(i64 b)),(2,(i64 a)),(7,(i64 c)),(8,(i64 g)),(9,(i64 (ZI (i - (1:Int)))))] (LeQ.start (LeQ.pk [0,1,2,7,8,9] 1 ?_)))
              exact⟨a4,Nat.lt_succ_self _,(List.set (List.set o (Int.toNat i) a5) (Int.toNat (ZI (i - (1:Int)))) a6),(ZI (i - (1:Int))),hF,by kernel_rfl,by kernel_rfl⟩
            ·refine AWP.exit (LeQ.start (LeQ.pk [0,1,2,7,8] 1 ?_))
             have hr:=someb hF
             subst hr
             exact⟨rfl,by kernel_rfl,by kernel_rfl⟩
          ·rintro _ _ _ ⟨rfl,rfl,rfl⟩
           refine LeQ.start (LeQ.pk [0,1,2,7,8] 1 ?_)
           have hr:=someb hF
           subst hr
           exact⟨rfl,by kernel_rfl,by kernel_rfl⟩
         ·refine AWP.skip (LeQ.start (LeQ.pk [0,1,2,7,8] 1 ?_))
          have hr:=someb hF
          subst hr
          exact⟨rfl,by kernel_rfl,by kernel_rfl⟩
        ·rintro _ _ _ ⟨rfl,rfl,rfl⟩
         refine AWP.seq (AWP.rg0 [] [(0,(.vw 0 0 f)),(1,(i64 b)),(2,(i64 a)),(7,(i64 c)),(8,(i64 g)),(98,(vb (decide ((ZI (a - c)) ≥ (2:Int)))))] ?_)
         refine AWP.cif hF (fun f7 hF=>?_) (fun f7 hF=>?_)
         ·refine AWP.seq (AWP.rg0 [] [(0,(.vw 0 0 f)),(1,(i64 b)),(2,(i64 a)),(7,(i64 c)),(8,(i64 g)),(10,(i64 (ZI (c + (1:Int)))))] ?_)
          obtain⟨a7,f8,hF⟩:=bindb hF
          refine AWP.mid (fun e st H=>e=.normal∧st=[(0,(.vw 0 0 f)),(1,(i64 b)),(2,(i64 a)),(7,(i64 c)),(8,(i64 g))]∧H=[.cells (cel Zd a7 d)]) ?_ ?_
          ·clear hF
           refine AWP.kp [0,1,2,7,8,10] 1 ?_
           refine AWP.bround (fun n st H=>∃ p,∃ j,Zab f a n p j=some a7∧st=[(0,(.vw 0 0 f)),(1,(i64 b)),(2,(i64 a)),(7,(i64 c)),(8,(i64 g)),(10,(i64 j))]∧H=[.cells (cel Zd p d)]) fuel ⟨a3,(ZI (c + (1:Int))),f8,by kernel_rfl,by kernel_rfl⟩ ?_
           rintro a8 st H ⟨p,j,hF,rfl,rfl⟩
           cases a8 with
           | zero=>exact noneb hF
           | succ a8=>
            rw [Zab] at hF
            refine AWP.seq (AWP.seq (AWP.rg0 [] [(0,(.vw 0 0 f)),(1,(i64 b)),(2,(i64 a)),(7,(i64 c)),(8,(i64 g)),(10,(i64 j)),(103,(vb (decide (j<a))))] ?_))
            refine AWP.cif hF (fun f9 hF=>?_) (fun f9 hF=>?_)
            ·refine AWP.skip (AWP.seq (AWP.block (AWP.seq (AWP.seq ?_))))
             obtain⟨g0,c7,hF⟩:=bindb hF
             obtain⟨g1,c8,hF⟩:=bindb hF
             obtain⟨c9,g2,hF⟩:=bindb hF
             refine AWP.dr [(2,.idxV (Zt c7)),(3,.ldV Zd (s:=1) (fun _=>rfl) d (Zp c7) (0 + Int.toNat j * 1) (Nat.zero_add _) []),(7,.idxV (Zt c8)),(8,.ldV Zd (s:=1) (fun _=>rfl) d (Zp c8) (0 + Int.toNat (ZI (j - (1:Int))) * 1) (Nat.zero_add _) []),(9,.call Tryz.func166 [] (Zba g0 g1 c9 g2))] 11 [] [] [] [(0,(.vw 0 0 f)),(1,(i64 b)),(2,(i64 a)),(7,(i64 c)),(8,(i64 g)),(10,(i64 j)),(116,(vb (!c9)))] [.cells (cel Zd p d)] ?_
             refine AWP.cif hF (fun g3 hF=>?_) (fun g3 hF=>?_)
             ·refine AWP.exit (LeQ.start (LeQ.pk [0,1,2,7,8] 1 ?_))
              have hr:=someb hF
              subst hr
              exact⟨rfl,by kernel_rfl,by kernel_rfl⟩
             ·refine AWP.skip ?_
              obtain⟨a9,d0,hF⟩:=bindb hF
              obtain⟨b0,d1,hF⟩:=bindb hF
              obtain⟨g9,d2,hF⟩:=bindb hF
              obtain⟨h0,d3,hF⟩:=bindb hF
              refine AWP.dr [(8,.idxV (Zt d0)),(9,.ldV Zd (s:=1) (fun _=>rfl) d (Zp d0) (0 + Int.toNat (ZI (j - (1:Int))) * 1) (Nat.zero_add _) []),(12,.idxV (Zt d1)),(13,.ldV Zd (s:=1) (fun _=>rfl) d (Zp d1) (0 + Int.toNat j * 1) (Nat.zero_add _) []),(14,.idxV (Zt d2)),(15,.stV Zd (s:=1) (fun _=>rfl) d (Zp d2) a9 (0 + Int.toNat j * 1) (Nat.zero_add _) []),(16,.idxV (Zt d3)),(17,.stV Zd (s:=1) (fun _=>rfl) d (Zp d3) b0 (0 + Int.toNat (ZI (j - (1:Int))) * 1) (Nat.zero_add _) [])] 16 [] [15] [] [(0,(.vw 0 0 f)),(1,(i64 b)),(2,(i64 a)),(7,(i64 c)),(8,(i64 g)),(10,(i64 j))] [.cells (cel Zd (List.set (List.set p (Int.toNat j) a9) (Int.toNat (ZI (j - (1:Int)))) b0) d)] (AWP.rg0 [] [(0,(.vw 0 0 f)),(1,(i64 b)),(2,(i64 a)),(7,(i64 c)),(8,(i64 g)),(10,(i64 (ZI (j + (1:Int)))))] (LeQ.start (LeQ.pk [0,1,2,7,8,10] 1 ?_)))
              exact⟨a8,Nat.lt_succ_self _,(List.set (List.set p (Int.toNat j) a9) (Int.toNat (ZI (j - (1:Int)))) b0),(ZI (j + (1:Int))),hF,by kernel_rfl,by kernel_rfl⟩
            ·refine AWP.exit (LeQ.start (LeQ.pk [0,1,2,7,8] 1 ?_))
             have hr:=someb hF
             subst hr
             exact⟨rfl,by kernel_rfl,by kernel_rfl⟩
          ·rintro _ _ _ ⟨rfl,rfl,rfl⟩
           refine LeQ.start (LeQ.pk [0,1,2,7,8] 1 ?_)
           exact(.inl ⟨rfl,a7,c,(someb hF).symm,by kernel_rfl,by kernel_rfl⟩)
         ·refine AWP.skip (LeQ.start (LeQ.pk [0,1,2,7,8] 1 ?_))
          exact(.inl ⟨rfl,a3,c,(someb hF).symm,by kernel_rfl,by kernel_rfl⟩)
    ·rintro _ _ _ (⟨rfl,u,t,rfl,rfl,rfl⟩ | ⟨rfl,g4,rfl,hq⟩)
     ·refine AWP.rg0 [] [(0,(.vw 0 0 f)),(1,(i64 b)),(2,(i64 a)),(7,(i64 t)),(8,(i64 (ZI (g + (1:Int)))))] (LeQ.start (LeQ.pk [0,1,2,7,8] 1 ?_))
      exact⟨z,Nat.lt_succ_self _,u,t,(ZI (g + (1:Int))),hF,by kernel_rfl,by kernel_rfl⟩
     ·exact LeQ.of (.inr ⟨rfl,g4,(someb hF).symm,hq⟩)
   ·refine AWP.exit (LeQ.start (LeQ.pk [] 1 ?_))
    exact(.inl ⟨rfl,k,(someb hF).symm,by kernel_rfl,by kernel_rfl⟩)
 ·rintro _ _ _ (⟨rfl,y,rfl,rfl,rfl⟩ | ⟨rfl,h1,rfl,hq⟩)
  ·refine AWP.seq (AWP.rg0 [] [(6,(vb false))] (AWP.ret ?_))
   have hr:=someb hF
   subst hr
   exact(FnQ.f0 1 (.inr rfl))
  ·have hr:=someb hF
   subst hr
   exact hq
def Ziv (a:List Value) (r:(Int × (List Int))):PV→List Blk→Prop:=fun p K=>p=(i64 r.1)∧K=[.cells (cel Zd r.2 a)]
theorem Ziw (c:Nat) (q:(List Int)) (b:List Value) (a:Int) (p:Int) (l:Int) (r:(Int × (List Int))) (hF:Zbx c q a p l=some r):ACall Tryz.prog glob 167 [(.vw 0 0 c),(i64 a),(i64 p),(i64 l)] [.cells (cel Zd q b)] (Ziv b r):=by
 refine ACall.body Tryz.func167 rfl (by kernel_rfl) ?_
 unfold Zbx at hF
 refine AWP.seq (AWP.rg0 [] [(0,(.vw 0 0 c)),(1,(i64 a)),(2,(i64 p)),(3,(i64 l))] (AWP.seq ?_))
 obtain⟨x,a5,hF⟩:=bindb hF
 obtain⟨y,a6,hF⟩:=bindb hF
 obtain⟨e0,a7,hF⟩:=bindb hF
 obtain⟨e1,a8,hF⟩:=bindb hF
 refine AWP.dr [(6,.idxV (Zt a5)),(7,.ldV Zd (s:=1) (fun _=>rfl) b (Zp a5) (0 + Int.toNat l * 1) (Nat.zero_add _) []),(10,.idxV (Zt a6)),(11,.ldV Zd (s:=1) (fun _=>rfl) b (Zp a6) (0 + Int.toNat a * 1) (Nat.zero_add _) []),(12,.idxV (Zt a7)),(13,.stV Zd (s:=1) (fun _=>rfl) b (Zp a7) x (0 + Int.toNat a * 1) (Nat.zero_add _) []),(14,.idxV (Zt a8)),(15,.stV Zd (s:=1) (fun _=>rfl) b (Zp a8) y (0 + Int.toNat l * 1) (Nat.zero_add _) [])] 14 [] [13] [] [(0,(.vw 0 0 c)),(1,(i64 a)),(2,(i64 p))] [.cells (cel Zd (List.set (List.set q (Int.toNat a) x) (Int.toNat l) y) b)] (AWP.seq (AWP.rg0 [] [(0,(.vw 0 0 c)),(1,(i64 a)),(9,(i64 (ZI (a + (1:Int))))),(10,(i64 (ZI (p - (1:Int)))))] (AWP.seq ?_)))
 obtain⟨a9,c0,hF⟩:=bindb hF
 refine AWP.mid (fun e st H=>(e=.normal∧∃ z,∃ t,a9=(z,t)∧st=[(9,(i64 t))]∧H=[.cells (cel Zd z b)])) ?_ ?_
 ·clear hF
  refine AWP.kp [0,1,9,10] 1 ?_
  refine AWP.bround (fun n st H=>∃ f,∃ u,∃ i,Zak c a n f u i=some a9∧st=[(0,(.vw 0 0 c)),(1,(i64 a)),(9,(i64 u)),(10,(i64 i))]∧H=[.cells (cel Zd f b)]) fuel ⟨(List.set (List.set q (Int.toNat a) x) (Int.toNat l) y),(ZI (a + (1:Int))),(ZI (p - (1:Int))),c0,by kernel_rfl,by kernel_rfl⟩ ?_
  rintro a0 st H ⟨f,u,i,hF,rfl,rfl⟩
  cases a0 with
  | zero=>exact noneb hF
  | succ a0=>
   rw [Zak] at hF
   refine AWP.block (AWP.seq ?_)
   obtain⟨d,c1,hF⟩:=bindb hF
   refine AWP.mid (fun e st H=>e=.normal∧st=[(0,(.vw 0 0 c)),(1,(i64 a)),(9,(i64 d)),(10,(i64 i))]∧H=[.cells (cel Zd f b)]) ?_ ?_
   ·clear hF
    refine AWP.kp [0,1,9,10] 1 ?_
    refine AWP.bround (fun n st H=>∃ m,Zau c a f i n m=some d∧st=[(0,(.vw 0 0 c)),(1,(i64 a)),(9,(i64 m)),(10,(i64 i))]∧H=[.cells (cel Zd f b)]) fuel ⟨u,c1,by kernel_rfl,by kernel_rfl⟩ ?_
    rintro a1 st H ⟨m,hF,rfl,rfl⟩
    cases a1 with
    | zero=>exact noneb hF
    | succ a1=>
     rw [Zau] at hF
     refine AWP.seq (AWP.seq ?_)
     obtain⟨c2,v,hF⟩:=bindb hF
     replace v:=someb v
     obtain⟨c3,b0,hF⟩:=bindb hF
     refine AWP.to [(0,(.vw 0 0 c)),(1,(i64 a)),(9,(i64 m)),(10,(i64 i)),(43,(vb c3))] [.cells (cel Zd f b)] ?_ ?_
     ·cases c2 with
      | false=>
       have c4:=someb (ifF b0 rfl)
       subst c4
       exact AWP.drT [(3,.bool v)] 15 [] [] []
      | true=>
       have j:=ifT b0 rfl
       obtain⟨c5,b1,j⟩:=bindb j
       obtain⟨c6,b2,j⟩:=bindb j
       obtain⟨c7,c8,j⟩:=bindb j
       replace j:=someb j
       subst j
       exact AWP.drT [(3,.bool v),(6,.idxV (Zt b1)),(7,.ldV Zd (s:=1) (fun _=>rfl) b (Zp b1) (0 + Int.toNat a * 1) (Nat.zero_add _) []),(10,.idxV (Zt b2)),(11,.ldV Zd (s:=1) (fun _=>rfl) b (Zp b2) (0 + Int.toNat m * 1) (Nat.zero_add _) []),(12,.call Tryz.func166 [] (Zba c5 c6 c7 c8))] 15 [] [] []
     refine AWP.cif hF (fun c9 hF=>?_) (fun c9 hF=>?_)
     ·refine AWP.skip (AWP.block (AWP.rg0 [] [(0,(.vw 0 0 c)),(1,(i64 a)),(9,(i64 (ZI (m + (1:Int))))),(10,(i64 i))] (LeQ.start (LeQ.pk [0,1,9,10] 1 ?_))))
      exact⟨a1,Nat.lt_succ_self _,(ZI (m + (1:Int))),hF,by kernel_rfl,by kernel_rfl⟩
     ·refine AWP.exit (LeQ.start (LeQ.pk [0,1,9,10] 1 ?_))
      have hr:=someb hF
      subst hr
      exact⟨rfl,by kernel_rfl,by kernel_rfl⟩
   ·rintro _ _ _ ⟨rfl,rfl,rfl⟩
    refine AWP.seq ?_
    obtain⟨g,d0,hF⟩:=bindb hF
    refine AWP.mid (fun e st H=>e=.normal∧st=[(0,(.vw 0 0 c)),(1,(i64 a)),(9,(i64 d)),(10,(i64 g))]∧H=[.cells (cel Zd f b)]) ?_ ?_
    ·clear hF
     refine AWP.kp [0,1,9,10] 1 ?_
     refine AWP.bround (fun n st H=>∃ o,Zav c a f d n o=some g∧st=[(0,(.vw 0 0 c)),(1,(i64 a)),(9,(i64 d)),(10,(i64 o))]∧H=[.cells (cel Zd f b)]) fuel ⟨i,d0,by kernel_rfl,by kernel_rfl⟩ ?_
     rintro a2 st H ⟨o,hF,rfl,rfl⟩
     cases a2 with
     | zero=>exact noneb hF
     | succ a2=>
      rw [Zav] at hF
      refine AWP.seq (AWP.seq ?_)
      obtain⟨d1,w,hF⟩:=bindb hF
      replace w:=someb w
      obtain⟨d2,b3,hF⟩:=bindb hF
      refine AWP.to [(0,(.vw 0 0 c)),(1,(i64 a)),(9,(i64 d)),(10,(i64 o)),(59,(vb d2))] [.cells (cel Zd f b)] ?_ ?_
      ·cases d1 with
       | false=>
        have d3:=someb (ifF b3 rfl)
        subst d3
        exact AWP.drT [(3,.bool w)] 14 [] [] []
       | true=>
        have k:=ifT b3 rfl
        obtain⟨d4,b4,k⟩:=bindb k
        obtain⟨d5,b5,k⟩:=bindb k
        obtain⟨d6,d7,k⟩:=bindb k
        replace k:=someb k
        subst k
        exact AWP.drT [(3,.bool w),(6,.idxV (Zt b4)),(7,.ldV Zd (s:=1) (fun _=>rfl) b (Zp b4) (0 + Int.toNat a * 1) (Nat.zero_add _) []),(10,.idxV (Zt b5)),(11,.ldV Zd (s:=1) (fun _=>rfl) b (Zp b5) (0 + Int.toNat o * 1) (Nat.zero_add _) []),(12,.call Tryz.func166 [] (Zba d4 d5 d6 d7))] 14 [] [] []
      refine AWP.cif hF (fun d8 hF=>?_) (fun d8 hF=>?_)
      ·refine AWP.skip (AWP.block (AWP.rg0 [] [(0,(.vw 0 0 c)),(1,(i64 a)),(9,(i64 d)),(10,(i64 (ZI (o - (1:Int)))))] (LeQ.start (LeQ.pk [0,1,9,10] 1 ?_))))
       exact⟨a2,Nat.lt_succ_self _,(ZI (o - (1:Int))),hF,by kernel_rfl,by kernel_rfl⟩
      ·refine AWP.exit (LeQ.start (LeQ.pk [0,1,9,10] 1 ?_))
       have hr:=someb hF
       subst hr
       exact⟨rfl,by kernel_rfl,by kernel_rfl⟩
    ·rintro _ _ _ ⟨rfl,rfl,rfl⟩
     refine AWP.seq (AWP.seq (AWP.rg0 [] [(0,(.vw 0 0 c)),(1,(i64 a)),(9,(i64 d)),(10,(i64 g)),(64,(vb (decide (d > g))))] ?_))
     refine AWP.cif hF (fun d9 hF=>?_) (fun d9 hF=>?_)
     ·refine AWP.exit (LeQ.start (LeQ.pk [9] 1 ?_))
      exact⟨rfl,f,d,(someb hF).symm,by kernel_rfl,by kernel_rfl⟩
     ·refine AWP.skip (AWP.seq ?_)
      obtain⟨a3,b6,hF⟩:=bindb hF
      obtain⟨a4,b7,hF⟩:=bindb hF
      obtain⟨e2,b8,hF⟩:=bindb hF
      obtain⟨e3,b9,hF⟩:=bindb hF
      refine AWP.dr [(6,.idxV (Zt b6)),(7,.ldV Zd (s:=1) (fun _=>rfl) b (Zp b6) (0 + Int.toNat g * 1) (Nat.zero_add _) []),(10,.idxV (Zt b7)),(11,.ldV Zd (s:=1) (fun _=>rfl) b (Zp b7) (0 + Int.toNat d * 1) (Nat.zero_add _) []),(12,.idxV (Zt b8)),(13,.stV Zd (s:=1) (fun _=>rfl) b (Zp b8) a3 (0 + Int.toNat d * 1) (Nat.zero_add _) []),(14,.idxV (Zt b9)),(15,.stV Zd (s:=1) (fun _=>rfl) b (Zp b9) a4 (0 + Int.toNat g * 1) (Nat.zero_add _) [])] 14 [] [13] [] [(0,(.vw 0 0 c)),(1,(i64 a)),(9,(i64 d)),(10,(i64 g))] [.cells (cel Zd (List.set (List.set f (Int.toNat d) a3) (Int.toNat g) a4) b)] (AWP.seq (AWP.rg0 [] [(0,(.vw 0 0 c)),(1,(i64 a)),(9,(i64 (ZI (d + (1:Int))))),(10,(i64 g))] (AWP.rg0 [] [(0,(.vw 0 0 c)),(1,(i64 a)),(9,(i64 (ZI (d + (1:Int))))),(10,(i64 (ZI (g - (1:Int)))))] (LeQ.start (LeQ.pk [0,1,9,10] 1 ?_)))))
      exact⟨a0,Nat.lt_succ_self _,(List.set (List.set f (Int.toNat d) a3) (Int.toNat g) a4),(ZI (d + (1:Int))),(ZI (g - (1:Int))),hF,by kernel_rfl,by kernel_rfl⟩
 ·rintro _ _ _ ⟨rfl,z,t,rfl,rfl,rfl⟩
  refine AWP.seq (AWP.rg0 [] [(8,(i64 t))] (AWP.ret ?_))
  have hr:=someb hF
  subst hr
  exact(FnQ.f0 1 (.inr rfl))
def Zjw (a:List Value) (r:(Int × Bool × (List Int))):PV→List Blk→Prop:=fun p K=>p=(.tup [(i64 r.1),(vb r.2.1)])∧K=[.cells (cel Zd r.2.2 a)]
theorem Zjx (c:Nat) (j:(List Int)) (b:List Value) (a:Int) (p:Int) (d:Int) (r:(Int × Bool × (List Int))) (hF:Zcm c j a p d=some r):ACall Tryz.prog glob 168 [(.vw 0 0 c),(i64 a),(i64 p),(i64 d)] [.cells (cel Zd j b)] (Zjw b r):=by
 refine ACall.body Tryz.func168 rfl (by kernel_rfl) ?_
 unfold Zcm at hF
 refine AWP.seq (AWP.rg0 [] [(0,(.vw 0 0 c)),(1,(i64 a)),(2,(i64 p)),(3,(i64 d))] (AWP.seq ?_))
 obtain⟨l,b7,hF⟩:=bindb hF
 obtain⟨m,b8,hF⟩:=bindb hF
 obtain⟨j4,b9,hF⟩:=bindb hF
 obtain⟨j5,c0,hF⟩:=bindb hF
 refine AWP.dr [(6,.idxV (Zt b7)),(7,.ldV Zd (s:=1) (fun _=>rfl) b (Zp b7) (0 + Int.toNat d * 1) (Nat.zero_add _) []),(10,.idxV (Zt b8)),(11,.ldV Zd (s:=1) (fun _=>rfl) b (Zp b8) (0 + Int.toNat a * 1) (Nat.zero_add _) []),(12,.idxV (Zt b9)),(13,.stV Zd (s:=1) (fun _=>rfl) b (Zp b9) l (0 + Int.toNat a * 1) (Nat.zero_add _) []),(14,.idxV (Zt c0)),(15,.stV Zd (s:=1) (fun _=>rfl) b (Zp c0) m (0 + Int.toNat d * 1) (Nat.zero_add _) [])] 14 [] [13] [] [(0,(.vw 0 0 c)),(1,(i64 a)),(2,(i64 p))] [.cells (cel Zd (List.set (List.set j (Int.toNat a) l) (Int.toNat d) m) b)] (AWP.seq (AWP.rg0 [] [(0,(.vw 0 0 c)),(1,(i64 a)),(10,(i64 (ZI (a + (1:Int))))),(11,(i64 (ZI (p - (1:Int)))))] (AWP.seq ?_)))
 obtain⟨f,f5,hF⟩:=bindb hF
 refine AWP.mid (fun e st H=>e=.normal∧st=[(0,(.vw 0 0 c)),(1,(i64 a)),(10,(i64 f)),(11,(i64 (ZI (p - (1:Int)))))]∧H=[.cells (cel Zd (List.set (List.set j (Int.toNat a) l) (Int.toNat d) m) b)]) ?_ ?_
 ·clear hF
  refine AWP.kp [0,1,10,11] 1 ?_
  refine AWP.bround (fun n st H=>∃ y,Zbg c j a p d l m n y=some f∧st=[(0,(.vw 0 0 c)),(1,(i64 a)),(10,(i64 y)),(11,(i64 (ZI (p - (1:Int)))))]∧H=[.cells (cel Zd (List.set (List.set j (Int.toNat a) l) (Int.toNat d) m) b)]) fuel ⟨(ZI (a + (1:Int))),f5,by kernel_rfl,by kernel_rfl⟩ ?_
  rintro a8 st H ⟨y,hF,rfl,rfl⟩
  cases a8 with
  | zero=>exact noneb hF
  | succ a8=>
   rw [Zbg] at hF
   refine AWP.seq (AWP.seq ?_)
   obtain⟨f6,a2,hF⟩:=bindb hF
   replace a2:=someb a2
   obtain⟨f7,c1,hF⟩:=bindb hF
   refine AWP.to [(0,(.vw 0 0 c)),(1,(i64 a)),(10,(i64 y)),(11,(i64 (ZI (p - (1:Int))))),(43,(vb f7))] [.cells (cel Zd (List.set (List.set j (Int.toNat a) l) (Int.toNat d) m) b)] ?_ ?_
   ·cases f6 with
    | false=>
     have f8:=someb (ifF c1 rfl)
     subst f8
     exact AWP.drT [(3,.bool a2)] 14 [] [] []
    | true=>
     have q:=ifT c1 rfl
     obtain⟨f9,c2,q⟩:=bindb q
     obtain⟨g0,c3,q⟩:=bindb q
     obtain⟨g1,g2,q⟩:=bindb q
     replace q:=someb q
     subst q
     exact AWP.drT [(3,.bool a2),(6,.idxV (Zt c2)),(7,.ldV Zd (s:=1) (fun _=>rfl) b (Zp c2) (0 + Int.toNat y * 1) (Nat.zero_add _) []),(10,.idxV (Zt c3)),(11,.ldV Zd (s:=1) (fun _=>rfl) b (Zp c3) (0 + Int.toNat a * 1) (Nat.zero_add _) []),(12,.call Tryz.func166 [] (Zba f9 g0 g1 g2))] 14 [] [] []
   refine AWP.cif hF (fun g3 hF=>?_) (fun g3 hF=>?_)
   ·refine AWP.skip (AWP.block (AWP.rg0 [] [(0,(.vw 0 0 c)),(1,(i64 a)),(10,(i64 (ZI (y + (1:Int))))),(11,(i64 (ZI (p - (1:Int)))))] (LeQ.start (LeQ.pk [0,1,10,11] 1 ?_))))
    exact⟨a8,Nat.lt_succ_self _,(ZI (y + (1:Int))),hF,by kernel_rfl,by kernel_rfl⟩
   ·refine AWP.exit (LeQ.start (LeQ.pk [0,1,10,11] 1 ?_))
    have hr:=someb hF
    subst hr
    exact⟨rfl,by kernel_rfl,by kernel_rfl⟩
 ·rintro _ _ _ ⟨rfl,rfl,rfl⟩
  refine AWP.seq ?_
  obtain⟨g,g4,hF⟩:=bindb hF
  refine AWP.mid (fun e st H=>e=.normal∧st=[(0,(.vw 0 0 c)),(1,(i64 a)),(10,(i64 f)),(11,(i64 g))]∧H=[.cells (cel Zd (List.set (List.set j (Int.toNat a) l) (Int.toNat d) m) b)]) ?_ ?_
  ·clear hF
   refine AWP.kp [0,1,10,11] 1 ?_
   refine AWP.bround (fun n st H=>∃ z,Zbh c j a d l m f n z=some g∧st=[(0,(.vw 0 0 c)),(1,(i64 a)),(10,(i64 f)),(11,(i64 z))]∧H=[.cells (cel Zd (List.set (List.set j (Int.toNat a) l) (Int.toNat d) m) b)]) fuel ⟨(ZI (p - (1:Int))),g4,by kernel_rfl,by kernel_rfl⟩ ?_
   rintro a9 st H ⟨z,hF,rfl,rfl⟩
   cases a9 with
   | zero=>exact noneb hF
   | succ a9=>
    rw [Zbh] at hF
    refine AWP.seq (AWP.seq ?_)
    obtain⟨g5,a3,hF⟩:=bindb hF
    replace a3:=someb a3
    obtain⟨g6,c4,hF⟩:=bindb hF
    refine AWP.to [(0,(.vw 0 0 c)),(1,(i64 a)),(10,(i64 f)),(11,(i64 z)),(60,(vb g6))] [.cells (cel Zd (List.set (List.set j (Int.toNat a) l) (Int.toNat d) m) b)] ?_ ?_
    ·cases g5 with
     | false=>
      have g7:=someb (ifF c4 rfl)
      subst g7
      exact AWP.drT [(3,.bool a3)] 15 [] [] []
     | true=>
      have t:=ifT c4 rfl
      obtain⟨g8,c5,t⟩:=bindb t
      obtain⟨g9,c6,t⟩:=bindb t
      obtain⟨h0,h1,t⟩:=bindb t
      replace t:=someb t
      subst t
      exact AWP.drT [(3,.bool a3),(6,.idxV (Zt c5)),(7,.ldV Zd (s:=1) (fun _=>rfl) b (Zp c5) (0 + Int.toNat z * 1) (Nat.zero_add _) []),(10,.idxV (Zt c6)),(11,.ldV Zd (s:=1) (fun _=>rfl) b (Zp c6) (0 + Int.toNat a * 1) (Nat.zero_add _) []),(12,.call Tryz.func166 [] (Zba g8 g9 h0 h1))] 15 [] [] []
    refine AWP.cif hF (fun h2 hF=>?_) (fun h2 hF=>?_)
    ·refine AWP.skip (AWP.block (AWP.rg0 [] [(0,(.vw 0 0 c)),(1,(i64 a)),(10,(i64 f)),(11,(i64 (ZI (z - (1:Int)))))] (LeQ.start (LeQ.pk [0,1,10,11] 1 ?_))))
     exact⟨a9,Nat.lt_succ_self _,(ZI (z - (1:Int))),hF,by kernel_rfl,by kernel_rfl⟩
    ·refine AWP.exit (LeQ.start (LeQ.pk [0,1,10,11] 1 ?_))
     have hr:=someb hF
     subst hr
     exact⟨rfl,by kernel_rfl,by kernel_rfl⟩
  ·rintro _ _ _ ⟨rfl,rfl,rfl⟩
   refine AWP.seq (AWP.seq (AWP.rg0 [] [(0,(.vw 0 0 c)),(1,(i64 a)),(10,(i64 f)),(11,(i64 g)),(65,(vb (decide (f > g))))] ?_))
   refine AWP.cif hF (fun h3 hF=>?_) (fun h3 hF=>?_)
   ·refine AWP.seq ?_
    obtain⟨c7,c8,hF⟩:=bindb hF
    obtain⟨c9,d0,hF⟩:=bindb hF
    obtain⟨j6,d1,hF⟩:=bindb hF
    obtain⟨j7,d2,hF⟩:=bindb hF
    refine AWP.dr [(6,.idxV (Zt c8)),(7,.ldV Zd (s:=1) (fun _=>rfl) b (Zp c8) (0 + Int.toNat a * 1) (Nat.zero_add _) []),(10,.idxV (Zt d0)),(11,.ldV Zd (s:=1) (fun _=>rfl) b (Zp d0) (0 + Int.toNat g * 1) (Nat.zero_add _) []),(12,.idxV (Zt d1)),(13,.stV Zd (s:=1) (fun _=>rfl) b (Zp d1) c7 (0 + Int.toNat g * 1) (Nat.zero_add _) []),(14,.idxV (Zt d2)),(15,.stV Zd (s:=1) (fun _=>rfl) b (Zp d2) c9 (0 + Int.toNat a * 1) (Nat.zero_add _) [])] 14 [] [13] [] [(11,(i64 g))] [.cells (cel Zd (List.set (List.set (List.set (List.set j (Int.toNat a) l) (Int.toNat d) m) (Int.toNat g) c7) (Int.toNat a) c9) b)] (AWP.seq (AWP.rg0 [] [(8,(i64 g)),(9,(vb true))] (AWP.ret ?_)))
    have hr:=someb hF
    subst hr
    exact(FnQ.f0 1 (.inr rfl))
   ·refine AWP.skip (AWP.seq ?_)
    obtain⟨b0,d3,hF⟩:=bindb hF
    obtain⟨b1,d4,hF⟩:=bindb hF
    obtain⟨j8,d5,hF⟩:=bindb hF
    obtain⟨j9,d6,hF⟩:=bindb hF
    refine AWP.dr [(6,.idxV (Zt d3)),(7,.ldV Zd (s:=1) (fun _=>rfl) b (Zp d3) (0 + Int.toNat g * 1) (Nat.zero_add _) []),(10,.idxV (Zt d4)),(11,.ldV Zd (s:=1) (fun _=>rfl) b (Zp d4) (0 + Int.toNat f * 1) (Nat.zero_add _) []),(12,.idxV (Zt d5)),(13,.stV Zd (s:=1) (fun _=>rfl) b (Zp d5) b0 (0 + Int.toNat f * 1) (Nat.zero_add _) []),(14,.idxV (Zt d6)),(15,.stV Zd (s:=1) (fun _=>rfl) b (Zp d6) b1 (0 + Int.toNat g * 1) (Nat.zero_add _) [])] 14 [] [13] [] [(0,(.vw 0 0 c)),(1,(i64 a)),(10,(i64 f)),(11,(i64 g))] [.cells (cel Zd (List.set (List.set (List.set (List.set j (Int.toNat a) l) (Int.toNat d) m) (Int.toNat f) b0) (Int.toNat g) b1) b)] (AWP.seq (AWP.rg0 [] [(0,(.vw 0 0 c)),(1,(i64 a)),(10,(i64 (ZI (f + (1:Int))))),(11,(i64 g))] (AWP.seq (AWP.rg0 [] [(0,(.vw 0 0 c)),(1,(i64 a)),(10,(i64 (ZI (f + (1:Int))))),(11,(i64 (ZI (g - (1:Int)))))] (AWP.seq ?_)))))
    obtain⟨d7,h4,hF⟩:=bindb hF
    refine AWP.mid (fun e st H=>(e=.normal∧∃ a4,∃ x,d7=(a4,x)∧st=[(0,(.vw 0 0 c)),(1,(i64 a)),(11,(i64 x))]∧H=[.cells (cel Zd a4 b)])) ?_ ?_
    ·clear hF
     refine AWP.kp [0,1,10,11] 1 ?_
     refine AWP.bround (fun n st H=>∃ k,∃ a5,∃ u,Zaw c a n k a5 u=some d7∧st=[(0,(.vw 0 0 c)),(1,(i64 a)),(10,(i64 a5)),(11,(i64 u))]∧H=[.cells (cel Zd k b)]) fuel ⟨(List.set (List.set (List.set (List.set j (Int.toNat a) l) (Int.toNat d) m) (Int.toNat f) b0) (Int.toNat g) b1),(ZI (f + (1:Int))),(ZI (g - (1:Int))),h4,by kernel_rfl,by kernel_rfl⟩ ?_
     rintro b2 st H ⟨k,a5,u,hF,rfl,rfl⟩
     cases b2 with
     | zero=>exact noneb hF
     | succ b2=>
      rw [Zaw] at hF
      refine AWP.block (AWP.seq ?_)
      obtain⟨i,h5,hF⟩:=bindb hF
      refine AWP.mid (fun e st H=>e=.normal∧st=[(0,(.vw 0 0 c)),(1,(i64 a)),(10,(i64 i)),(11,(i64 u))]∧H=[.cells (cel Zd k b)]) ?_ ?_
      ·clear hF
       refine AWP.kp [0,1,10,11] 1 ?_
       refine AWP.bround (fun n st H=>∃ a0,Zbi c a k u n a0=some i∧st=[(0,(.vw 0 0 c)),(1,(i64 a)),(10,(i64 a0)),(11,(i64 u))]∧H=[.cells (cel Zd k b)]) fuel ⟨a5,h5,by kernel_rfl,by kernel_rfl⟩ ?_
       rintro b3 st H ⟨a0,hF,rfl,rfl⟩
       cases b3 with
       | zero=>exact noneb hF
       | succ b3=>
        rw [Zbi] at hF
        refine AWP.seq (AWP.seq ?_)
        obtain⟨h6,a6,hF⟩:=bindb hF
        replace a6:=someb a6
        obtain⟨h7,d8,hF⟩:=bindb hF
        refine AWP.to [(0,(.vw 0 0 c)),(1,(i64 a)),(10,(i64 a0)),(11,(i64 u)),(112,(vb h7))] [.cells (cel Zd k b)] ?_ ?_
        ·cases h6 with
         | false=>
          have h8:=someb (ifF d8 rfl)
          subst h8
          exact AWP.drT [(3,.bool a6)] 14 [] [] []
         | true=>
          have v:=ifT d8 rfl
          obtain⟨h9,d9,v⟩:=bindb v
          obtain⟨i0,e0,v⟩:=bindb v
          obtain⟨i1,i2,v⟩:=bindb v
          replace v:=someb v
          subst v
          exact AWP.drT [(3,.bool a6),(6,.idxV (Zt d9)),(7,.ldV Zd (s:=1) (fun _=>rfl) b (Zp d9) (0 + Int.toNat a0 * 1) (Nat.zero_add _) []),(10,.idxV (Zt e0)),(11,.ldV Zd (s:=1) (fun _=>rfl) b (Zp e0) (0 + Int.toNat a * 1) (Nat.zero_add _) []),(12,.call Tryz.func166 [] (Zba h9 i0 i1 i2))] 14 [] [] []
        refine AWP.cif hF (fun i3 hF=>?_) (fun i3 hF=>?_)
        ·refine AWP.skip (AWP.block (AWP.rg0 [] [(0,(.vw 0 0 c)),(1,(i64 a)),(10,(i64 (ZI (a0 + (1:Int))))),(11,(i64 u))] (LeQ.start (LeQ.pk [0,1,10,11] 1 ?_))))
         exact⟨b3,Nat.lt_succ_self _,(ZI (a0 + (1:Int))),hF,by kernel_rfl,by kernel_rfl⟩
        ·refine AWP.exit (LeQ.start (LeQ.pk [0,1,10,11] 1 ?_))
         have hr:=someb hF
         subst hr
         exact⟨rfl,by kernel_rfl,by kernel_rfl⟩
      ·rintro _ _ _ ⟨rfl,rfl,rfl⟩
       refine AWP.seq ?_
       obtain⟨o,i4,hF⟩:=bindb hF
       refine AWP.mid (fun e st H=>e=.normal∧st=[(0,(.vw 0 0 c)),(1,(i64 a)),(10,(i64 i)),(11,(i64 o))]∧H=[.cells (cel Zd k b)]) ?_ ?_
       ·clear hF
        refine AWP.kp [0,1,10,11] 1 ?_
        refine AWP.bround (fun n st H=>∃ a1,Zbj c a k i n a1=some o∧st=[(0,(.vw 0 0 c)),(1,(i64 a)),(10,(i64 i)),(11,(i64 a1))]∧H=[.cells (cel Zd k b)]) fuel ⟨u,i4,by kernel_rfl,by kernel_rfl⟩ ?_
        rintro b4 st H ⟨a1,hF,rfl,rfl⟩
        cases b4 with
        | zero=>exact noneb hF
        | succ b4=>
         rw [Zbj] at hF
         refine AWP.seq (AWP.seq ?_)
         obtain⟨i5,a7,hF⟩:=bindb hF
         replace a7:=someb a7
         obtain⟨i6,e1,hF⟩:=bindb hF
         refine AWP.to [(0,(.vw 0 0 c)),(1,(i64 a)),(10,(i64 i)),(11,(i64 a1)),(129,(vb i6))] [.cells (cel Zd k b)] ?_ ?_
         ·cases i5 with
          | false=>
           have i7:=someb (ifF e1 rfl)
           subst i7
           exact AWP.drT [(3,.bool a7)] 15 [] [] []
          | true=>
           have w:=ifT e1 rfl
           obtain⟨i8,e2,w⟩:=bindb w
           obtain⟨i9,e3,w⟩:=bindb w
           obtain⟨j0,j1,w⟩:=bindb w
           replace w:=someb w
           subst w
           exact AWP.drT [(3,.bool a7),(6,.idxV (Zt e2)),(7,.ldV Zd (s:=1) (fun _=>rfl) b (Zp e2) (0 + Int.toNat a1 * 1) (Nat.zero_add _) []),(10,.idxV (Zt e3)),(11,.ldV Zd (s:=1) (fun _=>rfl) b (Zp e3) (0 + Int.toNat a * 1) (Nat.zero_add _) []),(12,.call Tryz.func166 [] (Zba i8 i9 j0 j1))] 15 [] [] []
         refine AWP.cif hF (fun j2 hF=>?_) (fun j2 hF=>?_)
         ·refine AWP.skip (AWP.block (AWP.rg0 [] [(0,(.vw 0 0 c)),(1,(i64 a)),(10,(i64 i)),(11,(i64 (ZI (a1 - (1:Int)))))] (LeQ.start (LeQ.pk [0,1,10,11] 1 ?_))))
          exact⟨b4,Nat.lt_succ_self _,(ZI (a1 - (1:Int))),hF,by kernel_rfl,by kernel_rfl⟩
         ·refine AWP.exit (LeQ.start (LeQ.pk [0,1,10,11] 1 ?_))
          have hr:=someb hF
          subst hr
          exact⟨rfl,by kernel_rfl,by kernel_rfl⟩
       ·rintro _ _ _ ⟨rfl,rfl,rfl⟩
        refine AWP.seq (AWP.seq (AWP.rg0 [] [(0,(.vw 0 0 c)),(1,(i64 a)),(10,(i64 i)),(11,(i64 o)),(134,(vb (decide (i > o))))] ?_))
        refine AWP.cif hF (fun j3 hF=>?_) (fun j3 hF=>?_)
        ·refine AWP.exit (LeQ.start (LeQ.pk [0,1,11] 1 ?_))
         exact⟨rfl,k,o,(someb hF).symm,by kernel_rfl,by kernel_rfl⟩
        ·refine AWP.skip (AWP.seq ?_)
         obtain⟨b5,e4,hF⟩:=bindb hF
         obtain⟨b6,e5,hF⟩:=bindb hF
         obtain⟨k0,e6,hF⟩:=bindb hF
         obtain⟨k1,e7,hF⟩:=bindb hF
         refine AWP.dr [(6,.idxV (Zt e4)),(7,.ldV Zd (s:=1) (fun _=>rfl) b (Zp e4) (0 + Int.toNat o * 1) (Nat.zero_add _) []),(10,.idxV (Zt e5)),(11,.ldV Zd (s:=1) (fun _=>rfl) b (Zp e5) (0 + Int.toNat i * 1) (Nat.zero_add _) []),(12,.idxV (Zt e6)),(13,.stV Zd (s:=1) (fun _=>rfl) b (Zp e6) b5 (0 + Int.toNat i * 1) (Nat.zero_add _) []),(14,.idxV (Zt e7)),(15,.stV Zd (s:=1) (fun _=>rfl) b (Zp e7) b6 (0 + Int.toNat o * 1) (Nat.zero_add _) [])] 14 [] [13] [] [(0,(.vw 0 0 c)),(1,(i64 a)),(10,(i64 i)),(11,(i64 o))] [.cells (cel Zd (List.set (List.set k (Int.toNat i) b5) (Int.toNat o) b6) b)] (AWP.seq (AWP.rg0 [] [(0,(.vw 0 0 c)),(1,(i64 a)),(10,(i64 (ZI (i + (1:Int))))),(11,(i64 o))] (AWP.rg0 [] [(0,(.vw 0 0 c)),(1,(i64 a)),(10,(i64 (ZI (i + (1:Int))))),(11,(i64 (ZI (o - (1:Int)))))] (LeQ.start (LeQ.pk [0,1,10,11] 1 ?_)))))
         exact⟨b2,Nat.lt_succ_self _,(List.set (List.set k (Int.toNat i) b5) (Int.toNat o) b6),(ZI (i + (1:Int))),(ZI (o - (1:Int))),hF,by kernel_rfl,by kernel_rfl⟩
    ·rintro _ _ _ ⟨rfl,a4,x,rfl,rfl,rfl⟩
     refine AWP.seq ?_
     obtain⟨e8,e9,hF⟩:=bindb hF
     obtain⟨f1,f2,hF⟩:=bindb hF
     obtain⟨k2,f3,hF⟩:=bindb hF
     obtain⟨k3,f4,hF⟩:=bindb hF
     refine AWP.dr [(6,.idxV (Zt e9)),(7,.ldV Zd (s:=1) (fun _=>rfl) b (Zp e9) (0 + Int.toNat a * 1) (Nat.zero_add _) []),(10,.idxV (Zt f2)),(11,.ldV Zd (s:=1) (fun _=>rfl) b (Zp f2) (0 + Int.toNat x * 1) (Nat.zero_add _) []),(12,.idxV (Zt f3)),(13,.stV Zd (s:=1) (fun _=>rfl) b (Zp f3) e8 (0 + Int.toNat x * 1) (Nat.zero_add _) []),(14,.idxV (Zt f4)),(15,.stV Zd (s:=1) (fun _=>rfl) b (Zp f4) f1 (0 + Int.toNat a * 1) (Nat.zero_add _) [])] 14 [] [13] [] [(11,(i64 x))] [.cells (cel Zd (List.set (List.set a4 (Int.toNat x) e8) (Int.toNat a) f1) b)] (AWP.seq (AWP.rg0 [] [(8,(i64 x)),(9,(vb false))] (AWP.ret ?_)))
     have hr:=someb hF
     subst hr
     exact(FnQ.f0 1 (.inr rfl))
def Zfr (a:List Value) (r:(List Int)):PV→List Blk→Prop:=fun p K=>p=(.tup [])∧K=[.cells (cel Zd r a)]
abbrev Zhy (a:List Value) (r:(List Int)):Exit→St→List Blk→Prop:=FnQ Tryz.prog Tryz.f157.results 1 (Zfr a r)
theorem Zjy:∀(nr:Nat) (g:Nat) (a1:(List Int)) (d:List Value) (v:Int) (w:Int) (x:Int) (r:(List Int)) (hF:Z4 nr g a1 v w x=some r),ACall Tryz.prog glob 157 [(.vw 0 0 g),(i64 v),(i64 w),(i64 x)] [.cells (cel Zd a1 d)] (Zfr d r):=by
 intro nr
 induction nr with
 | zero=>intro g a1 d v w x r hF; exact noneb (by rw [Z4] at hF; exact hF)
 | succ nr ih=>
  intro g a1 d v w x r hF
  refine ACall.body Tryz.func157 rfl (by kernel_rfl) ?_
  rw [Z4] at hF
  refine AWP.seq (AWP.rg0 [] [(0,(.vw 0 0 g)),(1,(i64 v)),(2,(i64 w)),(3,(i64 x)),(8,(vb true))] (AWP.seq (AWP.rg0 [] [(0,(.vw 0 0 g)),(1,(i64 v)),(2,(i64 w)),(3,(i64 x)),(8,(vb true)),(9,(vb true))] ?_)))
  obtain⟨b3,b9,hF⟩:=bindb hF
  refine AWP.mid (fun e st H=>(e=.ret∧∃ r,b3=r∧Zhy d r e st H)) ?_ ?_
  ·clear hF
   refine AWP.kp [0,1,2,3,8,9] 1 ?_
   refine AWP.bround (fun n st H=>∃ o,∃ b,∃ a,∃ l,∃ j,∃ k,Zar g (Z4 nr) n o b a l j k=some b3∧st=[(0,(.vw 0 0 g)),(1,(i64 b)),(2,(i64 a)),(3,(i64 l)),(8,(vb j)),(9,(vb k))]∧H=[.cells (cel Zd o d)]) fuel ⟨a1,v,w,x,true,true,b9,by kernel_rfl,by kernel_rfl⟩ ?_
   rintro a2 st H ⟨o,b,a,l,j,k,hF,rfl,rfl⟩
   cases a2 with
   | zero=>exact noneb hF
   | succ a2=>
    rw [Zar] at hF
    refine AWP.block (AWP.seq (AWP.rg0 [] [(0,(.vw 0 0 g)),(1,(i64 b)),(2,(i64 a)),(3,(i64 l)),(8,(vb j)),(9,(vb k)),(10,(i64 (ZI (a - b))))] (AWP.seq (AWP.seq (AWP.rg0 [] [(0,(.vw 0 0 g)),(1,(i64 b)),(2,(i64 a)),(3,(i64 l)),(8,(vb j)),(9,(vb k)),(10,(i64 (ZI (a - b)))),(23,(vb (decide ((ZI (a - b))≤(12:Int)))))] ?_)))))
    refine AWP.cif hF (fun c0 hF=>?_) (fun c0 hF=>?_)
    ·refine AWP.seq ?_
     obtain⟨a5,c1,hF⟩:=bindb hF
     refine AWP.rg [(3,.callC Tryz.func160 [] (closedH.c (Zz (row:=Zd) (fun _=>rfl) o d) closedH.n) (closedH.c (Zz (row:=Zd) (fun _=>rfl) a5 d) closedH.n) (Zi4 g o d b a a5 c1))] [] [.cells (cel Zd a5 d)] (AWP.ret ?_)
     exact LeQ.of ⟨rfl,a5,(someb hF).symm,(FnQ.f0 1 (.inr rfl))⟩
    ·refine AWP.skip (AWP.seq (AWP.seq (AWP.rg0 [] [(0,(.vw 0 0 g)),(1,(i64 b)),(2,(i64 a)),(3,(i64 l)),(8,(vb j)),(9,(vb k)),(10,(i64 (ZI (a - b)))),(29,(vb (l == (0:Int))))] ?_)))
     refine AWP.cif hF (fun c2 hF=>?_) (fun c2 hF=>?_)
     ·refine AWP.seq ?_
      obtain⟨a6,c3,hF⟩:=bindb hF
      refine AWP.rg [(3,.callC Tryz.func161 [] (closedH.c (Zz (row:=Zd) (fun _=>rfl) o d) closedH.n) (closedH.c (Zz (row:=Zd) (fun _=>rfl) a6 d) closedH.n) (Zj9 g o d b a a6 c3))] [] [.cells (cel Zd a6 d)] (AWP.ret ?_)
      exact LeQ.of ⟨rfl,a6,(someb hF).symm,(FnQ.f0 1 (.inr rfl))⟩
     ·refine AWP.skip ?_
      obtain⟨c4,c5,hF⟩:=bindb hF
      refine AWP.seq ?_
      refine AWP.mid (fun e st H=>(e=.normal∧∃ q,∃ i,c4=(q,i)∧st=[(0,(.vw 0 0 g)),(1,(i64 b)),(2,(i64 a)),(3,(i64 i)),(8,(vb j)),(9,(vb k)),(10,(i64 (ZI (a - b))))]∧H=[.cells (cel Zd q d)])) ?_ ?_
      ·clear hF
       have hF:=c5
       refine AWP.seq (AWP.rg0 [] [(0,(.vw 0 0 g)),(1,(i64 b)),(2,(i64 a)),(3,(i64 l)),(8,(vb j)),(9,(vb k)),(10,(i64 (ZI (a - b)))),(35,(vb (!j)))] ?_)
       refine AWP.cif hF (fun c6 hF=>?_) (fun c6 hF=>?_)
       ·refine AWP.seq ?_
        obtain⟨a7,c7,hF⟩:=bindb hF
        refine AWP.rg [(3,.callC Tryz.func162 [] (closedH.c (Zz (row:=Zd) (fun _=>rfl) o d) closedH.n) (closedH.c (Zz (row:=Zd) (fun _=>rfl) a7 d) closedH.n) (Zi6 g o d b a a7 c7))] [(0,(.vw 0 0 g)),(1,(i64 b)),(2,(i64 a)),(3,(i64 l)),(8,(vb j)),(9,(vb k)),(10,(i64 (ZI (a - b))))] [.cells (cel Zd a7 d)] (AWP.rg0 [] [(0,(.vw 0 0 g)),(1,(i64 b)),(2,(i64 a)),(3,(i64 (ZI (l - (1:Int))))),(8,(vb j)),(9,(vb k)),(10,(i64 (ZI (a - b))))] (LeQ.start (LeQ.pk [0,1,2,3,8,9,10] 1 ?_)))
        exact⟨rfl,a7,(ZI (l - (1:Int))),(someb hF).symm,by kernel_rfl,by kernel_rfl⟩
       ·refine AWP.skip (LeQ.start (LeQ.pk [0,1,2,3,8,9,10] 1 ?_))
        exact⟨rfl,o,l,(someb hF).symm,by kernel_rfl,by kernel_rfl⟩
      ·rintro _ _ _ ⟨rfl,q,i,rfl,rfl,rfl⟩
       refine AWP.seq ?_
       obtain⟨m,c8,hF⟩:=bindb hF
       refine AWP.rg0 [(3,.callC Tryz.func163 [] (closedH.c (Zz (row:=Zd) (fun _=>rfl) q d) closedH.n) (closedH.c (Zz (row:=Zd) (fun _=>rfl) q d) closedH.n) (Zjm g q d b a m c8))] [(0,(.vw 0 0 g)),(1,(i64 b)),(2,(i64 a)),(3,(i64 i)),(8,(vb j)),(9,(vb k)),(10,(i64 (ZI (a - b)))),(11,(i64 m.1)),(12,(i64 m.2))] ?_
       obtain⟨c9,d0,hF⟩:=bindb hF
       refine AWP.seq ?_
       refine AWP.mid (fun e st H=>(e=.normal∧∃ y,∃ p,∃ a8,c9=(y,p,a8)∧st=[(0,(.vw 0 0 g)),(1,(i64 b)),(2,(i64 a)),(3,(i64 i)),(8,(vb j)),(9,(vb k)),(10,(i64 (ZI (a - b)))),(11,(i64 p)),(12,(i64 a8))]∧H=[.cells (cel Zd y d)])) ?_ ?_
       ·clear hF
        have hF:=d0
        refine AWP.seq (AWP.rg0 [] [(0,(.vw 0 0 g)),(1,(i64 b)),(2,(i64 a)),(3,(i64 i)),(8,(vb j)),(9,(vb k)),(10,(i64 (ZI (a - b)))),(11,(i64 m.1)),(12,(i64 m.2)),(50,(vb (m.2 == (2:Int))))] ?_)
        refine AWP.cif hF (fun d1 hF=>?_) (fun d1 hF=>?_)
        ·refine AWP.seq ?_
         obtain⟨a9,d2,hF⟩:=bindb hF
         refine AWP.rg [(3,.callC Tryz.func164 [] (closedH.c (Zz (row:=Zd) (fun _=>rfl) q d) closedH.n) (closedH.c (Zz (row:=Zd) (fun _=>rfl) a9 d) closedH.n) (Zjf g q d b a a9 d2))] [(0,(.vw 0 0 g)),(1,(i64 b)),(2,(i64 a)),(3,(i64 i)),(8,(vb j)),(9,(vb k)),(10,(i64 (ZI (a - b)))),(11,(i64 m.1))] [.cells (cel Zd a9 d)] (AWP.seq (AWP.rg0 [] [(0,(.vw 0 0 g)),(1,(i64 b)),(2,(i64 a)),(3,(i64 i)),(8,(vb j)),(9,(vb k)),(10,(i64 (ZI (a - b)))),(11,(i64 (ZI ((ZI (a - (1:Int))) - (ZI (m.1 - b))))))] (AWP.rg0 [] [(0,(.vw 0 0 g)),(1,(i64 b)),(2,(i64 a)),(3,(i64 i)),(8,(vb j)),(9,(vb k)),(10,(i64 (ZI (a - b)))),(11,(i64 (ZI ((ZI (a - (1:Int))) - (ZI (m.1 - b)))))),(12,(i64 (1:Int)))] (LeQ.start (LeQ.pk [0,1,2,3,8,9,10,11,12] 1 ?_)))))
         exact⟨rfl,a9,(ZI ((ZI (a - (1:Int))) - (ZI (m.1 - b)))),(1:Int),(someb hF).symm,by kernel_rfl,by kernel_rfl⟩
        ·refine AWP.skip (LeQ.start (LeQ.pk [0,1,2,3,8,9,10,11,12] 1 ?_))
         exact⟨rfl,q,m.1,m.2,(someb hF).symm,by kernel_rfl,by kernel_rfl⟩
       ·rintro _ _ _ ⟨rfl,y,p,a8,rfl,rfl,rfl⟩
        obtain⟨b4,d3,hF⟩:=bindb hF
        refine AWP.seq ?_
        refine AWP.mid (fun e st H=>(e=.normal∧∃ u,b4=(.inl u)∧st=[(0,(.vw 0 0 g)),(1,(i64 b)),(2,(i64 a)),(3,(i64 i)),(8,(vb j)),(9,(vb k)),(10,(i64 (ZI (a - b)))),(11,(i64 p))]∧H=[.cells (cel Zd u d)])∨(e=.ret∧∃ r,b4=(.inr r)∧Zhy d r e st H)) ?_ ?_
        ·clear hF
         have hF:=d3
         refine AWP.seq ?_
         obtain⟨d4,a3,hF⟩:=bindb hF
         replace a3:=someb a3
         obtain⟨b5,a4,hF⟩:=bindb hF
         replace a4:=someb a4
         refine AWP.to [(0,(.vw 0 0 g)),(1,(i64 b)),(2,(i64 a)),(3,(i64 i)),(8,(vb j)),(9,(vb k)),(10,(i64 (ZI (a - b)))),(11,(i64 p)),(68,(vb (b5 && (a8 == (1:Int)))))] [.cells (cel Zd y d)] ?_ ?_
         ·cases d4 with
          | false=>
           subst a4
           exact AWP.rgT [(1,.bool a3)]
          | true=>
           cases b5 with
           | false=>
            exact AWP.rgT [(1,.bool a3),(4,.bool a4)]
           | true=>
            exact AWP.rgT [(1,.bool a3),(4,.bool a4)]
         refine AWP.cif hF (fun d5 hF=>?_) (fun d5 hF=>?_)
         ·refine AWP.seq ?_
          obtain⟨a0,d6,hF⟩:=bindb hF
          refine AWP.rg [(3,.callC Tryz.func165 [] (closedH.c (Zz (row:=Zd) (fun _=>rfl) y d) closedH.n) (closedH.c (Zz (row:=Zd) (fun _=>rfl) a0.2 d) closedH.n) (Zh6 g y d b a a0 d6))] [(0,(.vw 0 0 g)),(1,(i64 b)),(2,(i64 a)),(3,(i64 i)),(8,(vb j)),(9,(vb k)),(10,(i64 (ZI (a - b)))),(11,(i64 p)),(72,(vb a0.1))] [.cells (cel Zd a0.2 d)] ?_
          refine AWP.cif hF (fun d7 hF=>?_) (fun d7 hF=>?_)
          ·refine AWP.ret ?_
           exact LeQ.of (.inr ⟨rfl,a0.2,(someb hF).symm,(FnQ.f0 1 (.inr rfl))⟩)
          ·refine AWP.skip (LeQ.start (LeQ.pk [0,1,2,3,8,9,10,11] 1 ?_))
           exact(.inl ⟨rfl,a0.2,(someb hF).symm,by kernel_rfl,by kernel_rfl⟩)
         ·refine AWP.skip (LeQ.start (LeQ.pk [0,1,2,3,8,9,10,11] 1 ?_))
          exact(.inl ⟨rfl,y,(someb hF).symm,by kernel_rfl,by kernel_rfl⟩)
        ·rintro _ _ _ (⟨rfl,u,rfl,rfl,rfl⟩ | ⟨rfl,d8,rfl,hq⟩)
         ·refine AWP.seq (AWP.seq ?_)
          obtain⟨d9,b0,hF⟩:=bindb hF
          replace b0:=someb b0
          obtain⟨e0,b6,hF⟩:=bindb hF
          refine AWP.to [(0,(.vw 0 0 g)),(1,(i64 b)),(2,(i64 a)),(3,(i64 i)),(8,(vb j)),(9,(vb k)),(10,(i64 (ZI (a - b)))),(11,(i64 p)),(87,(vb e0))] [.cells (cel Zd u d)] ?_ ?_
          ·cases d9 with
           | false=>
            have e1:=someb (ifF b6 rfl)
            subst e1
            exact AWP.drT [(2,.bool b0)] 15 [] [] []
           | true=>
            have t:=ifT b6 rfl
            obtain⟨e2,b7,t⟩:=bindb t
            obtain⟨e3,b8,t⟩:=bindb t
            obtain⟨e4,e5,t⟩:=bindb t
            replace t:=someb t
            subst t
            exact AWP.drT [(2,.bool b0),(6,.idxV (Zt b7)),(7,.ldV Zd (s:=1) (fun _=>rfl) d (Zp b7) (0 + Int.toNat (ZI (b - (1:Int))) * 1) (Nat.zero_add _) []),(10,.idxV (Zt b8)),(11,.ldV Zd (s:=1) (fun _=>rfl) d (Zp b8) (0 + Int.toNat p * 1) (Nat.zero_add _) []),(12,.call Tryz.func166 [] (Zba e2 e3 e4 e5))] 15 [] [] []
          refine AWP.cif hF (fun e6 hF=>?_) (fun e6 hF=>?_)
          ·refine AWP.seq ?_
           obtain⟨z,e7,hF⟩:=bindb hF
           refine AWP.rg [(4,.callC Tryz.func167 [] (closedH.c (Zz (row:=Zd) (fun _=>rfl) u d) closedH.n) (closedH.c (Zz (row:=Zd) (fun _=>rfl) z.2 d) closedH.n) (Ziw g u d b a p z e7))] [(0,(.vw 0 0 g)),(2,(i64 a)),(3,(i64 i)),(8,(vb j)),(9,(vb k)),(13,(i64 z.1))] [.cells (cel Zd z.2 d)] (AWP.seq (AWP.rg0 [] [(0,(.vw 0 0 g)),(1,(i64 z.1)),(2,(i64 a)),(3,(i64 i)),(8,(vb j)),(9,(vb k))] (AWP.exit (LeQ.start (LeQ.pk [0,1,2,3,8,9] 1 ?_)))))
           exact⟨a2,Nat.lt_succ_self _,z.2,z.1,a,i,j,k,hF,by kernel_rfl,by kernel_rfl⟩
          ·refine AWP.skip (AWP.seq ?_)
           obtain⟨f,e8,hF⟩:=bindb hF
           refine AWP.rg [(4,.callC Tryz.func168 [] (closedH.c (Zz (row:=Zd) (fun _=>rfl) u d) closedH.n) (closedH.c (Zz (row:=Zd) (fun _=>rfl) f.2.2 d) closedH.n) (Zjx g u d b a p f e8))] [(0,(.vw 0 0 g)),(1,(i64 b)),(2,(i64 a)),(3,(i64 i)),(10,(i64 (ZI (a - b)))),(14,(i64 f.1)),(15,(vb f.2.1))] [.cells (cel Zd f.2.2 d)] (AWP.seq (AWP.rg0 [] [(0,(.vw 0 0 g)),(1,(i64 b)),(2,(i64 a)),(3,(i64 i)),(9,(vb f.2.1)),(10,(i64 (ZI (a - b)))),(14,(i64 f.1))] (AWP.seq (AWP.rg0 [] [(0,(.vw 0 0 g)),(1,(i64 b)),(2,(i64 a)),(3,(i64 i)),(9,(vb f.2.1)),(10,(i64 (ZI (a - b)))),(14,(i64 f.1)),(16,(i64 (ZI (f.1 - b)))),(17,(i64 (ZI (a - f.1))))] (AWP.seq (AWP.rg0 [] [(0,(.vw 0 0 g)),(1,(i64 b)),(2,(i64 a)),(3,(i64 i)),(9,(vb f.2.1)),(14,(i64 f.1)),(16,(i64 (ZI (f.1 - b)))),(17,(i64 (ZI (a - f.1)))),(18,(i64 (ZI (Int.tdiv (ZI (a - b)) (8:Int)))))] ?_))))))
           refine AWP.seq (AWP.rg0 [] [(0,(.vw 0 0 g)),(1,(i64 b)),(2,(i64 a)),(3,(i64 i)),(9,(vb f.2.1)),(14,(i64 f.1)),(16,(i64 (ZI (f.1 - b)))),(17,(i64 (ZI (a - f.1)))),(18,(i64 (ZI (Int.tdiv (ZI (a - b)) (8:Int))))),(113,(vb (decide ((ZI (f.1 - b))<(ZI (a - f.1))))))] ?_)
           refine AWP.cif hF (fun e9 hF=>?_) (fun e9 hF=>?_)
           ·refine AWP.seq (AWP.rg0 [] [(0,(.vw 0 0 g)),(1,(i64 b)),(2,(i64 a)),(3,(i64 i)),(8,(vb (decide ((ZI (f.1 - b)) ≥ (ZI (Int.tdiv (ZI (a - b)) (8:Int))))))),(9,(vb f.2.1)),(14,(i64 f.1))] (AWP.seq ?_))
            obtain⟨b1,f1,hF⟩:=bindb hF
            refine AWP.rg [(4,.callC Tryz.func157 [] (closedH.c (Zz (row:=Zd) (fun _=>rfl) f.2.2 d) closedH.n) (closedH.c (Zz (row:=Zd) (fun _=>rfl) b1 d) closedH.n) (ih g f.2.2 d b f.1 i b1 f1))] [(0,(.vw 0 0 g)),(2,(i64 a)),(3,(i64 i)),(8,(vb (decide ((ZI (f.1 - b)) ≥ (ZI (Int.tdiv (ZI (a - b)) (8:Int))))))),(9,(vb f.2.1)),(14,(i64 f.1))] [.cells (cel Zd b1 d)] (AWP.rg0 [] [(0,(.vw 0 0 g)),(1,(i64 (ZI (f.1 + (1:Int))))),(2,(i64 a)),(3,(i64 i)),(8,(vb (decide ((ZI (f.1 - b)) ≥ (ZI (Int.tdiv (ZI (a - b)) (8:Int))))))),(9,(vb f.2.1))] (LeQ.start (LeQ.pk [0,1,2,3,8,9] 1 ?_)))
            exact⟨a2,Nat.lt_succ_self _,b1,(ZI (f.1 + (1:Int))),a,i,(decide ((ZI (f.1 - b)) ≥ (ZI (Int.tdiv (ZI (a - b)) (8:Int))))),f.2.1,hF,by kernel_rfl,by kernel_rfl⟩
           ·refine AWP.seq (AWP.rg0 [] [(0,(.vw 0 0 g)),(1,(i64 b)),(2,(i64 a)),(3,(i64 i)),(8,(vb (decide ((ZI (a - f.1)) ≥ (ZI (Int.tdiv (ZI (a - b)) (8:Int))))))),(9,(vb f.2.1)),(14,(i64 f.1))] (AWP.seq ?_))
            obtain⟨b2,f2,hF⟩:=bindb hF
            refine AWP.rg [(5,.callC Tryz.func157 [] (closedH.c (Zz (row:=Zd) (fun _=>rfl) f.2.2 d) closedH.n) (closedH.c (Zz (row:=Zd) (fun _=>rfl) b2 d) closedH.n) (ih g f.2.2 d (ZI (f.1 + (1:Int))) a i b2 f2))] [(0,(.vw 0 0 g)),(1,(i64 b)),(3,(i64 i)),(8,(vb (decide ((ZI (a - f.1)) ≥ (ZI (Int.tdiv (ZI (a - b)) (8:Int))))))),(9,(vb f.2.1)),(14,(i64 f.1))] [.cells (cel Zd b2 d)] (AWP.rg0 [] [(0,(.vw 0 0 g)),(1,(i64 b)),(2,(i64 f.1)),(3,(i64 i)),(8,(vb (decide ((ZI (a - f.1)) ≥ (ZI (Int.tdiv (ZI (a - b)) (8:Int))))))),(9,(vb f.2.1))] (LeQ.start (LeQ.pk [0,1,2,3,8,9] 1 ?_)))
            exact⟨a2,Nat.lt_succ_self _,b2,b,f.1,i,(decide ((ZI (a - f.1)) ≥ (ZI (Int.tdiv (ZI (a - b)) (8:Int))))),f.2.1,hF,by kernel_rfl,by kernel_rfl⟩
         ·exact LeQ.of ⟨rfl,d8,(someb hF).symm,hq⟩
  ·rintro _ _ _ ⟨rfl,f3,rfl,hq⟩
   have hr:=someb hF
   subst hr
   exact hq
theorem Zkk (a:Nat) (b:(List Int)) (c:List Value) (d:Int) (f:Int) (g:Int) (r:(List Int)) (hF:Z4 fuel a b d f g=some r):ACall Tryz.prog glob 157 [(.vw 0 0 a),(i64 d),(i64 f),(i64 g)] [.cells (cel Zd b c)] (Zfr c r):=Zjy fuel a b c d f g r hF
def Zlj (a:List Value) (r:(List Int)):PV→List Blk→Prop:=fun p K=>p=(.tup [])∧K=[.cells (cel Zd r a)]
theorem Zlk (a:Nat) (d:(List Int)) (b:List Value) (r:(List Int)) (hF:Zdh a d=some r):ACall Tryz.prog glob 154 [(.vw 0 0 a)] [.cells (cel Zd d b)] (Zlj b r):=by
 refine ACall.body Tryz.func154 rfl (by kernel_rfl) ?_
 unfold Zdh at hF
 refine AWP.seq (AWP.rg0 [(1,.lenV a)] [(0,(.vw 0 0 a)),(2,(i64 (a:Int)))] ?_)
 obtain⟨g,i,hF⟩:=bindb hF
 obtain⟨f,j,hF⟩:=bindb hF
 refine AWP.rg [(4,.call Tryz.func158 [] (Zmz (IntKind.wrap .u64 (a:Int)) g i)),(5,.callC Tryz.func157 [] (closedH.c (Zz (row:=Zd) (fun _=>rfl) d b) closedH.n) (closedH.c (Zz (row:=Zd) (fun _=>rfl) f b) closedH.n) (Zkk a d b (0:Int) (a:Int) g f j))] [] [.cells (cel Zd f b)] ?_
 have hr:=someb hF
 subst hr
 exact(FnQ.f0 1 (.inl rfl))
def Zhz (a:List Value) (r:(Nat × (List Int))):PV→List Blk→Prop:=fun p K=>p=(.vw 0 0 r.1)∧K=[.cells (cel Zd r.2 a)]
abbrev Zkl (a:List Value) (r:(Nat × (List Int))):Exit→St→List Blk→Prop:=FnQ Tryz.prog Tryz.f155.results 1 (Zhz a r)
theorem Zkm (a:Nat) (k:(List Int)) (c:List Value) (r:(Nat × (List Int))) (hF:Zc0 a k=some r):ACall Tryz.prog glob 155 [(.vw 0 0 a)] [.cells (cel Zd k c)] (Zhz c r):=by
 refine ACall.body Tryz.func155 rfl (by kernel_rfl) ?_
 unfold Zc0 at hF
 refine AWP.seq (AWP.rg0 [] [(0,(.vw 0 0 a))] (AWP.seq (AWP.seq (AWP.rg0 [(1,.lenV a)] [(0,(.vw 0 0 a)),(8,(vb (decide ((a:Int)<(2:Int)))))] ?_))))
 refine AWP.cif hF (fun a2 hF=>?_) (fun a2 hF=>?_)
 ·refine AWP.seq (AWP.rg0 [] [(2,(.vw 0 0 a))] (AWP.ret ?_))
  have hr:=someb hF
  subst hr
  exact(FnQ.f0 1 (.inr rfl))
 ·refine AWP.skip (AWP.seq (AWP.seq (AWP.rg0 [] [(0,(.vw 0 0 a)),(3,(i64 (1:Int)))] ?_)))
  obtain⟨p,a3,hF⟩:=bindb hF
  refine AWP.mid (fun e st H=>(e=.normal∧p=(.inl ())∧st=[(0,(.vw 0 0 a))]∧H=[.cells (cel Zd k c)])∨(e=.ret∧∃ r,p=(.inr r)∧Zkl c r e st H)) ?_ ?_
  ·clear hF
   refine AWP.kp [0,3] 1 ?_
   refine AWP.bround (fun n st H=>∃ b,Za5 a k n b=some p∧st=[(0,(.vw 0 0 a)),(3,(i64 b))]∧H=[.cells (cel Zd k c)]) fuel ⟨(1:Int),a3,by kernel_rfl,by kernel_rfl⟩ ?_
   rintro q st H ⟨b,hF,rfl,rfl⟩
   cases q with
   | zero=>exact noneb hF
   | succ q=>
    rw [Za5] at hF
    refine AWP.seq (AWP.seq (AWP.rg0 [(2,.lenV a)] [(0,(.vw 0 0 a)),(3,(i64 b)),(13,(vb (decide (b<(a:Int)))))] ?_))
    refine AWP.cif hF (fun a4 hF=>?_) (fun a4 hF=>?_)
    ·refine AWP.skip (AWP.seq (AWP.block (AWP.seq ?_)))
     obtain⟨a5,y,hF⟩:=bindb hF
     obtain⟨a6,z,hF⟩:=bindb hF
     refine AWP.dr [(2,.idxV (Zt y)),(3,.ldV Zd (s:=1) (fun _=>rfl) c (Zp y) (0 + Int.toNat b * 1) (Nat.zero_add _) []),(7,.idxV (Zt z)),(8,.ldV Zd (s:=1) (fun _=>rfl) c (Zp z) (0 + Int.toNat (ZI (b - (1:Int))) * 1) (Nat.zero_add _) [])] 10 [] [] [] [(0,(.vw 0 0 a)),(3,(i64 b)),(25,(vb (a5 == a6)))] [.cells (cel Zd k c)] ?_
     refine AWP.cif hF (fun a7 hF=>?_) (fun a7 hF=>?_)
     ·refine AWP.seq ?_
      obtain⟨m,hF⟩:=chkb hF
      refine AWP.rg0 [(2,.sliceV m)] [(0,(.vw 0 0 a)),(3,(i64 b)),(4,(.vw 0 (0 + Int.toNat b * 1) (Int.toNat (a:Int) - Int.toNat b)))] (AWP.seq (AWP.seq (AWP.rg0 [] [(0,(.vw 0 0 a)),(3,(i64 b)),(4,(.vw 0 (0 + Int.toNat b * 1) (Int.toNat (a:Int) - Int.toNat b))),(5,(i64 (1:Int)))] ?_)))
      obtain⟨a0,a8,hF⟩:=bindb hF
      refine AWP.mid (fun e st H=>(e=.normal∧∃ i,∃ d,a0=(i,d)∧st=[(0,(.vw 0 0 a)),(3,(i64 d))]∧H=[.cells (cel Zd i c)])) ?_ ?_
      ·clear hF
       refine AWP.kp [0,3,4,5] 1 ?_
       refine AWP.bround (fun n st H=>∃ j,∃ g,∃ f,Za4 a b n j g f=some a0∧st=[(0,(.vw 0 0 a)),(3,(i64 g)),(4,(.vw 0 (0 + Int.toNat b * 1) (Int.toNat (a:Int) - Int.toNat b))),(5,(i64 f))]∧H=[.cells (cel Zd j c)]) fuel ⟨k,b,(1:Int),a8,by kernel_rfl,by kernel_rfl⟩ ?_
       rintro t st H ⟨j,g,f,hF,rfl,rfl⟩
       cases t with
       | zero=>exact noneb hF
       | succ t=>
        rw [Za4] at hF
        refine AWP.seq (AWP.seq (AWP.rg0 [(2,.lenV (Int.toNat (a:Int) - Int.toNat b))] [(0,(.vw 0 0 a)),(3,(i64 g)),(4,(.vw 0 (0 + Int.toNat b * 1) (Int.toNat (a:Int) - Int.toNat b))),(5,(i64 f)),(32,(vb (decide (f<(((Int.toNat (a:Int) - Int.toNat b):Nat):Int)))))] ?_))
        refine AWP.cif hF (fun a9 hF=>?_) (fun a9 hF=>?_)
        ·refine AWP.skip ?_
         obtain⟨b0,b1,hF⟩:=bindb hF
         refine AWP.seq ?_
         refine AWP.mid (fun e st H=>(e=.normal∧∃ o,∃ l,b0=(o,l)∧st=[(0,(.vw 0 0 a)),(3,(i64 l)),(4,(.vw 0 (0 + Int.toNat b * 1) (Int.toNat (a:Int) - Int.toNat b))),(5,(i64 f))]∧H=[.cells (cel Zd o c)])) ?_ ?_
         ·clear hF
          have hF:=b1
          refine AWP.block (AWP.seq ?_)
          obtain⟨b2,u,hF⟩:=bindb hF
          obtain⟨b3,v,hF⟩:=bindb hF
          refine AWP.dr [(2,.idxV (Zl1 u)),(3,.ldV Zd (s:=1) (fun _=>rfl) c (Zsh u) ((0 + Int.toNat b * 1) + Int.toNat f * 1) (Zu0 m.1 (Zl1 u).1 _) []),(7,.idxV (Zl1 v)),(8,.ldV Zd (s:=1) (fun _=>rfl) c (Zsh v) ((0 + Int.toNat b * 1) + Int.toNat (ZI (f - (1:Int))) * 1) (Zu0 m.1 (Zl1 v).1 _) [])] 10 [] [] [] [(0,(.vw 0 0 a)),(3,(i64 g)),(4,(.vw 0 (0 + Int.toNat b * 1) (Int.toNat (a:Int) - Int.toNat b))),(5,(i64 f)),(44,(vb (b2 != b3)))] [.cells (cel Zd j c)] ?_
          refine AWP.cif hF (fun b4 hF=>?_) (fun b4 hF=>?_)
          ·refine AWP.seq ?_
           obtain⟨w,x,hF⟩:=bindb hF
           obtain⟨b8,a1,hF⟩:=bindb hF
           refine AWP.rg [(4,.idxV (Zl1 x)),(5,.ldV Zd (s:=1) (fun _=>rfl) c (Zsh x) ((0 + Int.toNat b * 1) + Int.toNat f * 1) (Zu0 m.1 (Zl1 x).1 _) []),(6,.idxV (Zt a1)),(7,.stV Zd (s:=1) (fun _=>rfl) c (Zp a1) w (0 + Int.toNat g * 1) (Nat.zero_add _) [])] [(0,(.vw 0 0 a)),(3,(i64 g)),(4,(.vw 0 (0 + Int.toNat b * 1) (Int.toNat (a:Int) - Int.toNat b))),(5,(i64 f))] [.cells (cel Zd (List.set j (Int.toNat g) w) c)] (AWP.rg0 [] [(0,(.vw 0 0 a)),(3,(i64 (ZI (g + (1:Int))))),(4,(.vw 0 (0 + Int.toNat b * 1) (Int.toNat (a:Int) - Int.toNat b))),(5,(i64 f))] (LeQ.start (LeQ.pk [0,3,4,5] 1 ?_)))
           exact⟨rfl,(List.set j (Int.toNat g) w),(ZI (g + (1:Int))),(someb hF).symm,by kernel_rfl,by kernel_rfl⟩
          ·refine AWP.skip (LeQ.start (LeQ.pk [0,3,4,5] 1 ?_))
           exact⟨rfl,j,g,(someb hF).symm,by kernel_rfl,by kernel_rfl⟩
         ·rintro _ _ _ ⟨rfl,o,l,rfl,rfl,rfl⟩
          refine AWP.rg0 [] [(0,(.vw 0 0 a)),(3,(i64 l)),(4,(.vw 0 (0 + Int.toNat b * 1) (Int.toNat (a:Int) - Int.toNat b))),(5,(i64 (ZI (f + (1:Int)))))] (LeQ.start (LeQ.pk [0,3,4,5] 1 ?_))
          exact⟨t,Nat.lt_succ_self _,o,l,(ZI (f + (1:Int))),hF,by kernel_rfl,by kernel_rfl⟩
        ·refine AWP.exit (LeQ.start (LeQ.pk [0,3] 1 ?_))
         exact⟨rfl,j,g,(someb hF).symm,by kernel_rfl,by kernel_rfl⟩
      ·rintro _ _ _ ⟨rfl,i,d,rfl,rfl,rfl⟩
       refine AWP.seq ?_
       obtain⟨b5,hF⟩:=chkb hF
       obtain⟨b6,hF⟩:=chkb hF
       refine AWP.rg [(2,.sliceV b5),(3,.clrV Zd (s:=1) (fun _=>rfl) (fun _=>rfl) c i (0:Int) (lo:=Int.toNat d) (n:=(Int.toNat (a:Int) - Int.toNat d)) b6 (0 + Int.toNat d * 1) (Nat.zero_add _))] [(0,(.vw 0 0 a)),(3,(i64 d))] [.cells (cel Zd (List.take (Int.toNat d) i++List.replicate (Int.toNat (a:Int) - Int.toNat d) (0:Int)++List.drop (Int.toNat d + (Int.toNat (a:Int) - Int.toNat d)) i) c)] (AWP.seq ?_)
       obtain⟨b7,hF⟩:=chkb hF
       refine AWP.rg0 [(2,.sliceV b7)] [(2,(.vw 0 0 (Int.toNat d)))] (AWP.ret ?_)
       exact LeQ.of (.inr ⟨rfl,((Int.toNat d),(List.take (Int.toNat d) i++List.replicate (Int.toNat (a:Int) - Int.toNat d) (0:Int)++List.drop (Int.toNat d + (Int.toNat (a:Int) - Int.toNat d)) i)),(someb hF).symm,(FnQ.f0 1 (.inr rfl))⟩)
     ·refine AWP.skip (AWP.rg0 [] [(0,(.vw 0 0 a)),(3,(i64 (ZI (b + (1:Int)))))] (LeQ.start (LeQ.pk [0,3] 1 ?_)))
      exact⟨q,Nat.lt_succ_self _,(ZI (b + (1:Int))),hF,by kernel_rfl,by kernel_rfl⟩
    ·refine AWP.exit (LeQ.start (LeQ.pk [0] 1 ?_))
     exact(.inl ⟨rfl,(someb hF).symm,by kernel_rfl,by kernel_rfl⟩)
  ·rintro _ _ _ (⟨rfl,rfl,rfl,rfl⟩ | ⟨rfl,b9,rfl,hq⟩)
   ·refine AWP.seq (AWP.rg0 [] [(2,(.vw 0 0 a))] (AWP.ret ?_))
    have hr:=someb hF
    subst hr
    exact(FnQ.f0 1 (.inr rfl))
   ·have hr:=someb hF
    subst hr
    exact hq
def Zgj (r:(List Int)):PV→List Blk→Prop:=fun p K=>p=(slc 1 Zd r)∧K=[]
abbrev Zi7 (r:(List Int)):Exit→St→List Blk→Prop:=FnQ Tryz.prog Tryz.f155.results 0 (Zgj r)
theorem Zi8 (r:(List Int)) (hF:Zc1=some r):ACall Tryz.prog glob 155 [(slc 1 Zd ([]:(List Int)))] [] (Zgj r):=by
 refine ACall.body Tryz.func155 rfl (by kernel_rfl) ?_
 unfold Zc1 at hF
 refine AWP.seq (AWP.rg0 [] [(0,(slc 1 Zd ([]:(List Int))))] (AWP.seq (AWP.seq (AWP.rg0 [(1,.len Zd ([]:(List Int)))] [(0,(slc 1 Zd ([]:(List Int)))),(8,(vb (decide ((List.length ([]:(List Int)):Int)<(2:Int)))))] ?_))))
 refine AWP.cif hF (fun j hF=>?_) (fun j hF=>?_)
 ·refine AWP.seq (AWP.rg0 [] [(2,(slc 1 Zd ([]:(List Int))))] (AWP.ret ?_))
  have hr:=someb hF
  subst hr
  exact(FnQ.f0 0 (.inr rfl))
 ·refine AWP.skip (AWP.seq (AWP.seq (AWP.rg0 [] [(0,(slc 1 Zd ([]:(List Int)))),(3,(i64 (1:Int)))] ?_)))
  obtain⟨d,k,hF⟩:=bindb hF
  refine AWP.mid (fun e st H=>(e=.normal∧d=(.inl ())∧st=[(0,(slc 1 Zd ([]:(List Int))))]∧H=[])∨(e=.ret∧∃ r,d=(.inr r)∧Zi7 r e st H)) ?_ ?_
  ·clear hF
   refine AWP.kp [0,3] 0 ?_
   refine AWP.bround (fun n st H=>∃ a,Zcl n a=some d∧st=[(0,(slc 1 Zd ([]:(List Int)))),(3,(i64 a))]∧H=[]) fuel ⟨(1:Int),k,by kernel_rfl,by kernel_rfl⟩ ?_
   rintro f st H ⟨a,hF,rfl,rfl⟩
   cases f with
   | zero=>exact noneb hF
   | succ f=>
    rw [Zcl] at hF
    refine AWP.seq (AWP.seq (AWP.rg0 [(2,.len Zd ([]:(List Int)))] [(0,(slc 1 Zd ([]:(List Int)))),(3,(i64 a)),(13,(vb (decide (a<(List.length ([]:(List Int)):Int)))))] ?_))
    refine AWP.cif hF (fun l hF=>?_) (fun l hF=>?_)
    ·refine AWP.skip (AWP.seq (AWP.block (AWP.seq ?_)))
     obtain⟨m,o,hF⟩:=bindb hF
     obtain⟨p,q,hF⟩:=bindb hF
     refine AWP.dr [(2,.idx Zd o),(7,.idx Zd q)] 10 [] [] [] [(0,(slc 1 Zd ([]:(List Int)))),(3,(i64 a)),(25,(vb (m == p)))] [] ?_
     refine AWP.cif hF (fun s hF=>?_) (fun s hF=>?_)
     ·refine AWP.seq ?_
      obtain⟨t,hF⟩:=chkb hF
      refine AWP.rg0 [(2,.slice Zd ([]:(List Int)) t)] [(0,(slc 1 Zd ([]:(List Int)))),(3,(i64 a)),(4,(slc 1 Zd (List.drop (Int.toNat a) (List.take (Int.toNat (List.length ([]:(List Int)):Int)) ([]:(List Int))))))] (AWP.seq (AWP.seq (AWP.rg0 [] [(0,(slc 1 Zd ([]:(List Int)))),(3,(i64 a)),(4,(slc 1 Zd (List.drop (Int.toNat a) (List.take (Int.toNat (List.length ([]:(List Int)):Int)) ([]:(List Int)))))),(5,(i64 (1:Int)))] ?_)))
      obtain⟨i,u,hF⟩:=bindb hF
      refine AWP.mid (fun e st H=>e=.normal∧st=[(0,(slc 1 Zd ([]:(List Int)))),(3,(i64 i))]∧H=[]) ?_ ?_
      ·clear hF
       refine AWP.kp [0,3,4,5] 0 ?_
       refine AWP.bround (fun n st H=>∃ c,∃ b,Zck a n c b=some i∧st=[(0,(slc 1 Zd ([]:(List Int)))),(3,(i64 c)),(4,(slc 1 Zd (List.drop (Int.toNat a) (List.take (Int.toNat (List.length ([]:(List Int)):Int)) ([]:(List Int)))))),(5,(i64 b))]∧H=[]) fuel ⟨a,(1:Int),u,by kernel_rfl,by kernel_rfl⟩ ?_
       rintro g st H ⟨c,b,hF,rfl,rfl⟩
       cases g with
       | zero=>exact noneb hF
       | succ g=>
        rw [Zck] at hF
        refine AWP.seq (AWP.seq (AWP.rg0 [(2,.len Zd (List.drop (Int.toNat a) (List.take (Int.toNat (List.length ([]:(List Int)):Int)) ([]:(List Int)))))] [(0,(slc 1 Zd ([]:(List Int)))),(3,(i64 c)),(4,(slc 1 Zd (List.drop (Int.toNat a) (List.take (Int.toNat (List.length ([]:(List Int)):Int)) ([]:(List Int)))))),(5,(i64 b)),(32,(vb (decide (b<(List.length (List.drop (Int.toNat a) (List.take (Int.toNat (List.length ([]:(List Int)):Int)) ([]:(List Int)))):Int)))))] ?_))
        refine AWP.cif hF (fun v hF=>?_) (fun v hF=>?_)
        ·refine AWP.skip ?_
         obtain⟨w,x,hF⟩:=bindb hF
         refine AWP.seq ?_
         refine AWP.mid (fun e st H=>(e=.normal∧w=()∧st=[(0,(slc 1 Zd ([]:(List Int)))),(3,(i64 c)),(4,(slc 1 Zd (List.drop (Int.toNat a) (List.take (Int.toNat (List.length ([]:(List Int)):Int)) ([]:(List Int)))))),(5,(i64 b))]∧H=[])) ?_ ?_
         ·clear hF
          have hF:=x
          refine AWP.block (AWP.seq ?_)
          obtain⟨y,z,hF⟩:=bindb hF
          obtain⟨a0,a1,hF⟩:=bindb hF
          refine AWP.dr [(2,.idx Zd z),(7,.idx Zd a1)] 10 [] [] [] [(0,(slc 1 Zd ([]:(List Int)))),(3,(i64 c)),(4,(slc 1 Zd (List.drop (Int.toNat a) (List.take (Int.toNat (List.length ([]:(List Int)):Int)) ([]:(List Int)))))),(5,(i64 b)),(44,(vb (y != a0)))] [] ?_
          refine AWP.cif hF (fun a2 hF=>?_) (fun a2 hF=>?_)
          ·refine AWP.seq ?_
           exact noneb hF
          ·refine AWP.skip (LeQ.start (LeQ.pk [0,3,4,5] 0 ?_))
           exact⟨rfl,(someb hF).symm,by kernel_rfl,by kernel_rfl⟩
         ·rintro _ _ _ ⟨rfl,rfl,rfl,rfl⟩
          refine AWP.rg0 [] [(0,(slc 1 Zd ([]:(List Int)))),(3,(i64 c)),(4,(slc 1 Zd (List.drop (Int.toNat a) (List.take (Int.toNat (List.length ([]:(List Int)):Int)) ([]:(List Int)))))),(5,(i64 (ZI (b + (1:Int)))))] (LeQ.start (LeQ.pk [0,3,4,5] 0 ?_))
          exact⟨g,Nat.lt_succ_self _,c,(ZI (b + (1:Int))),hF,by kernel_rfl,by kernel_rfl⟩
        ·refine AWP.exit (LeQ.start (LeQ.pk [0,3] 0 ?_))
         have hr:=someb hF
         subst hr
         exact⟨rfl,by kernel_rfl,by kernel_rfl⟩
      ·rintro _ _ _ ⟨rfl,rfl,rfl⟩
       refine AWP.seq ?_
       exact noneb hF
     ·refine AWP.skip (AWP.rg0 [] [(0,(slc 1 Zd ([]:(List Int)))),(3,(i64 (ZI (a + (1:Int)))))] (LeQ.start (LeQ.pk [0,3] 0 ?_)))
      exact⟨f,Nat.lt_succ_self _,(ZI (a + (1:Int))),hF,by kernel_rfl,by kernel_rfl⟩
    ·refine AWP.exit (LeQ.start (LeQ.pk [0] 0 ?_))
     exact(.inl ⟨rfl,(someb hF).symm,by kernel_rfl,by kernel_rfl⟩)
  ·rintro _ _ _ (⟨rfl,rfl,rfl,rfl⟩ | ⟨rfl,a3,rfl,hq⟩)
   ·refine AWP.seq (AWP.rg0 [] [(2,(slc 1 Zd ([]:(List Int))))] (AWP.ret ?_))
    have hr:=someb hF
    subst hr
    exact(FnQ.f0 0 (.inr rfl))
   ·have hr:=someb hF
    subst hr
    exact hq
def Zsp (r:(List Int)):PV→List Blk→Prop:=fun p K=>p=(slc 1 Zd r)∧K=[]
theorem Zjz (b:Int) (a:(List ZL)) (r:(List Int)) (hF:Zec b a=some r):ACall Tryz.prog glob 151 [(i64 b),(slc 1 Zo a)] [] (Zsp r):=by
 refine ACall.body Tryz.func151 rfl (by kernel_rfl) ?_
 unfold Zec at hF
 refine AWP.seq (AWP.rg0 [] [(0,(i64 b)),(1,(slc 1 Zo a))] (AWP.seq ?_))
 obtain⟨l,y,hF⟩:=bindb hF
 refine AWP.rg [(1,.call Tryz.func119 [] (Zqh b l y)),(4,.m)] [(0,(i64 b)),(1,(slc 1 Zo a)),(5,(.own 0 (List.length [(0:Int),(IntKind.wrap .u64 ((IntKind.wrap .u64 l) + (1:Int)))])))] [bf 1 134 Zd [(0:Int),(IntKind.wrap .u64 ((IntKind.wrap .u64 l) + (1:Int)))] false] (AWP.seq (AWP.seq (AWP.rg0 [(1,.len Zo a)] [(0,(i64 b)),(5,(.own 0 (List.length [(0:Int),(IntKind.wrap .u64 ((IntKind.wrap .u64 l) + (1:Int)))]))),(15,(slc 1 Zo a)),(16,(i64 (List.length a:Int))),(17,(i64 (0:Int)))] ?_)))
 obtain⟨k,z,hF⟩:=bindb hF
 refine AWP.mid (fun e st H=>e=.normal∧st=[(5,(.own 0 (List.length k)))]∧H=[bf 1 134 Zd k false]) ?_ ?_
 ·clear hF
  refine AWP.kp [0,5,15,16,17] 1 ?_
  refine AWP.bround (fun n st H=>∃ j,∃ d,Zdc b a n j d=some k∧st=[(0,(i64 b)),(5,(.own 0 (List.length j))),(15,(slc 1 Zo a)),(16,(i64 (List.length a:Int))),(17,(i64 d))]∧H=[bf 1 134 Zd j false]) fuel ⟨[(0:Int),(IntKind.wrap .u64 ((IntKind.wrap .u64 l) + (1:Int)))],(0:Int),z,by kernel_rfl,by kernel_rfl⟩ ?_
  rintro q st H ⟨j,d,hF,rfl,rfl⟩
  cases q with
  | zero=>exact noneb hF
  | succ q=>
   rw [Zdc] at hF
   refine AWP.seq (AWP.rg0 [] [(0,(i64 b)),(5,(.own 0 (List.length j))),(15,(slc 1 Zo a)),(16,(i64 (List.length a:Int))),(17,(i64 d)),(18,(vb (decide (d<(List.length a:Int)))))] (AWP.seq ?_))
   refine AWP.cif hF (fun a0 hF=>?_) (fun a0 hF=>?_)
   ·refine AWP.skip (AWP.seq (AWP.block (AWP.seq ?_)))
    obtain⟨c,a1,hF⟩:=bindb hF
    refine AWP.rg0 [(0,.idx Zo a1)] [(0,(i64 b)),(5,(.own 0 (List.length j))),(7,(slc 10 Za c)),(15,(slc 1 Zo a)),(16,(i64 (List.length a:Int))),(17,(i64 d))] (AWP.seq (AWP.rg0 [(1,.len Za c)] [(0,(i64 b)),(5,(.own 0 (List.length j))),(15,(slc 1 Zo a)),(16,(i64 (List.length a:Int))),(17,(i64 d)),(21,(slc 10 Za c)),(22,(i64 (List.length c:Int))),(23,(i64 (0:Int)))] ?_))
    obtain⟨o,a2,hF⟩:=bindb hF
    refine AWP.mid (fun e st H=>e=.normal∧st=[(0,(i64 b)),(5,(.own 0 (List.length o))),(15,(slc 1 Zo a)),(16,(i64 (List.length a:Int))),(17,(i64 d))]∧H=[bf 1 134 Zd o false]) ?_ ?_
    ·clear hF
     refine AWP.kp [0,5,15,16,17,21,22,23] 1 ?_
     refine AWP.bround (fun n st H=>∃ g,∃ i,Zdb b c n g i=some o∧st=[(0,(i64 b)),(5,(.own 0 (List.length g))),(15,(slc 1 Zo a)),(16,(i64 (List.length a:Int))),(17,(i64 d)),(21,(slc 10 Za c)),(22,(i64 (List.length c:Int))),(23,(i64 i))]∧H=[bf 1 134 Zd g false]) fuel ⟨j,(0:Int),a2,by kernel_rfl,by kernel_rfl⟩ ?_
     rintro t st H ⟨g,i,hF,rfl,rfl⟩
     cases t with
     | zero=>exact noneb hF
     | succ t=>
      rw [Zdb] at hF
      refine AWP.seq (AWP.rg0 [] [(0,(i64 b)),(5,(.own 0 (List.length g))),(15,(slc 1 Zo a)),(16,(i64 (List.length a:Int))),(17,(i64 d)),(21,(slc 10 Za c)),(22,(i64 (List.length c:Int))),(23,(i64 i)),(24,(vb (decide (i<(List.length c:Int)))))] (AWP.seq ?_))
      refine AWP.cif hF (fun a3 hF=>?_) (fun a3 hF=>?_)
      ·refine AWP.skip (AWP.seq (AWP.block (AWP.seq ?_)))
       obtain⟨f,a4,hF⟩:=bindb hF
       refine AWP.rg [(0,.idx Za a4)] [(0,(i64 b)),(5,(.own 0 (List.length g))),(9,(.ptr 1 0)),(15,(slc 1 Zo a)),(16,(i64 (List.length a:Int))),(17,(i64 d)),(21,(slc 10 Za c)),(22,(i64 (List.length c:Int))),(23,(i64 i))] [bf 1 134 Zd g false,.cells (Za f)] ?_
       obtain⟨v,hF⟩:=chkb hF
       obtain⟨w,hF⟩:=chkb hF
       obtain⟨a5,hF⟩:=chkb hF
       refine AWP.dr [(2,.ixd v),(4,.ldA Zk (Arr5.get f) 0 2 0 v),(7,.ixd w),(9,.ldA Zk (Arr5.get f) 0 2 1 w),(13,.app Zd (fun _=>by kernel_rfl) a5)] 14 [] [13] [] [(0,(i64 b)),(5,(.own 0 (List.length (g++[(IntKind.wrap .u64 (Arr5.get f b).Lo),(IntKind.wrap .u64 ((IntKind.wrap .u64 (Arr5.get f b).Hi) + (1:Int)))])))),(15,(slc 1 Zo a)),(16,(i64 (List.length a:Int))),(17,(i64 d)),(21,(slc 10 Za c)),(22,(i64 (List.length c:Int))),(23,(i64 i))] [bf 1 134 Zd (g++[(IntKind.wrap .u64 (Arr5.get f b).Lo),(IntKind.wrap .u64 ((IntKind.wrap .u64 (Arr5.get f b).Hi) + (1:Int)))]) false,.cells (Za f)] (AWP.rg0 [] [(0,(i64 b)),(5,(.own 0 (List.length (g++[(IntKind.wrap .u64 (Arr5.get f b).Lo),(IntKind.wrap .u64 ((IntKind.wrap .u64 (Arr5.get f b).Hi) + (1:Int)))])))),(15,(slc 1 Zo a)),(16,(i64 (List.length a:Int))),(17,(i64 d)),(21,(slc 10 Za c)),(22,(i64 (List.length c:Int))),(23,(i64 (ZI (i + (1:Int)))))] (LeQ.start (LeQ.pk [0,5,15,16,17,21,22,23] 1 ?_)))
       exact⟨t,Nat.lt_succ_self _,(g++[(IntKind.wrap .u64 (Arr5.get f b).Lo),(IntKind.wrap .u64 ((IntKind.wrap .u64 (Arr5.get f b).Hi) + (1:Int)))]),(ZI (i + (1:Int))),hF,by kernel_rfl,by kernel_rfl⟩
      ·refine AWP.exit (LeQ.start (LeQ.pk [0,5,15,16,17] 1 ?_))
       have hr:=someb hF
       subst hr
       exact⟨rfl,by kernel_rfl,by kernel_rfl⟩
    ·rintro _ _ _ ⟨rfl,rfl,rfl⟩
     refine AWP.rg0 [] [(0,(i64 b)),(5,(.own 0 (List.length o))),(15,(slc 1 Zo a)),(16,(i64 (List.length a:Int))),(17,(i64 (ZI (d + (1:Int)))))] (LeQ.start (LeQ.pk [0,5,15,16,17] 1 ?_))
     exact⟨q,Nat.lt_succ_self _,o,(ZI (d + (1:Int))),hF,by kernel_rfl,by kernel_rfl⟩
   ·refine AWP.exit (LeQ.start (LeQ.pk [5] 1 ?_))
    have hr:=someb hF
    subst hr
    exact⟨rfl,by kernel_rfl,by kernel_rfl⟩
 ·rintro _ _ _ ⟨rfl,rfl,rfl⟩
  refine AWP.seq ?_
  obtain⟨a6,hF⟩:=chkb hF
  obtain⟨p,a7,hF⟩:=bindb hF
  obtain⟨x,hF⟩:=chkb hF
  refine AWP.rg [(1,.callB (s:=1) Zd Tryz.func154 (fun _=>rfl) a6 x (fun sp_=>Zlk (List.length k) k sp_ p a7))] [(5,(.own 0 (List.length k)))] [bf 1 134 Zd p false] ?_
  rw [show ([(5,(.own 0 (List.length k)))]:St)=[(5,(.own 0 (List.length p)))] by simp only [x]]
  refine AWP.seq ?_
  obtain⟨u,a8,hF⟩:=bindb hF
  refine AWP.rg [(1,.callBE (s:=1) Zd Tryz.func155 (fun _=>rfl) a8 (fun h sp_=>Zkm (List.length p) p sp_ _ h) (fun h=>Zi8 _ h))] [(4,(slc 1 Zd (List.take u.1 u.2)))] [bf 1 134 Zd u.2 true] (AWP.ret ?_)
  have hr:=someb hF
  subst hr
  exact(FnQ.f0 0 (.inr rfl))
def Zos (r:ZL):PV→List Blk→Prop:=fun p K=>p=(slc 10 Za r)∧K=[]
theorem Zej (a:ZL) (b:Int) (c:Int) (r:ZL) (hF:Zbz a b c=some r):ACall Tryz.prog glob 152 [(slc 10 Za a),(i64 b),(u32 c)] [] (Zos r):=by
 refine ACall.body Tryz.func152 rfl (by kernel_rfl) ?_
 unfold Zbz at hF
 refine AWP.seq (AWP.rg0 [] [(0,(slc 10 Za a)),(1,(i64 b)),(2,(u32 c))] (AWP.seq (AWP.rg0 [] [(0,(slc 10 Za a)),(1,(i64 b)),(2,(u32 c)),(7,nils)] ?_)))
 refine AWP.own (H':=[bf 10 57 Za ([]:ZL) false]) (st':=[(7,(.own 0 (List.length ([]:ZL)))),(0,(slc 10 Za a)),(1,(i64 b)),(2,(u32 c))]) 7 10 57 (by kernel_rfl) (by kernel_rfl) (by kernel_rfl) ?_
 refine AWP.pick (st':=[(0,(slc 10 Za a)),(1,(i64 b)),(2,(u32 c)),(7,(.own 0 (List.length ([]:ZL))))]) (ks:=[0,1,2,7]) (by kernel_rfl) ?_
 refine AWP.seq (AWP.seq (AWP.rg0 [(1,.len Za a)] [(1,(i64 b)),(2,(u32 c)),(7,(.own 0 (List.length ([]:ZL)))),(10,(slc 10 Za a)),(11,(i64 (List.length a:Int))),(12,(i64 (0:Int)))] ?_))
 obtain⟨j,w,hF⟩:=bindb hF
 refine AWP.mid (fun e st H=>e=.normal∧st=[(7,(.own 0 (List.length j)))]∧H=[bf 10 57 Za j false]) ?_ ?_
 ·clear hF
  refine AWP.kp [1,2,7,10,11,12] 1 ?_
  refine AWP.bround (fun n st H=>∃ d,∃ f,Zct a b c n d f=some j∧st=[(1,(i64 b)),(2,(u32 c)),(7,(.own 0 (List.length d))),(10,(slc 10 Za a)),(11,(i64 (List.length a:Int))),(12,(i64 f))]∧H=[bf 10 57 Za d false]) fuel ⟨([]:ZL),(0:Int),w,by kernel_rfl,by kernel_rfl⟩ ?_
  rintro q st H ⟨d,f,hF,rfl,rfl⟩
  cases q with
  | zero=>exact noneb hF
  | succ q=>
   rw [Zct] at hF
   refine AWP.seq (AWP.rg0 [] [(1,(i64 b)),(2,(u32 c)),(7,(.own 0 (List.length d))),(10,(slc 10 Za a)),(11,(i64 (List.length a:Int))),(12,(i64 f)),(13,(vb (decide (f<(List.length a:Int)))))] (AWP.seq ?_))
   refine AWP.cif hF (fun x hF=>?_) (fun x hF=>?_)
   ·refine AWP.skip ?_
    obtain⟨m,y,hF⟩:=bindb hF
    refine AWP.seq ?_
    refine AWP.mid (fun e st H=>e=.normal∧st=[(1,(i64 b)),(2,(u32 c)),(7,(.own 0 (List.length m))),(10,(slc 10 Za a)),(11,(i64 (List.length a:Int))),(12,(i64 f))]∧H=[bf 10 57 Za m false]) ?_ ?_
    ·clear hF
     have hF:=y
     refine AWP.block (AWP.seq ?_)
     obtain⟨g,z,hF⟩:=bindb hF
     refine AWP.rg [(0,.idx Za z)] [(1,(i64 b)),(2,(u32 c)),(7,(.own 0 (List.length d))),(9,(.ptr 1 0)),(10,(slc 10 Za a)),(11,(i64 (List.length a:Int))),(12,(i64 f))] [bf 10 57 Za d false,.cells (Za g)] (AWP.seq ?_)
     obtain⟨o,hF⟩:=chkb hF
     obtain⟨a0,p,hF⟩:=bindb hF
     replace p:=someb p
     obtain⟨a1,u,hF⟩:=bindb hF
     refine AWP.to [(1,(i64 b)),(2,(u32 c)),(7,(.own 0 (List.length d))),(9,(.ptr 1 0)),(10,(slc 10 Za a)),(11,(i64 (List.length a:Int))),(12,(i64 f)),(29,(vb a1))] [bf 10 57 Za d false,.cells (Za g)] ?_ ?_
     ·cases a0 with
      | false=>
       have a2:=someb (ifF u rfl)
       subst a2
       exact AWP.rgT [(1,.ixd o),(3,.ldA Zk (Arr5.get g) 0 2 0 o),(6,.bool p)]
      | true=>
       have k:=ifT u rfl
       obtain⟨v,k⟩:=chkb k
       replace k:=someb k
       subst k
       exact AWP.rgT [(1,.ixd o),(3,.ldA Zk (Arr5.get g) 0 2 0 o),(6,.bool p),(9,.ixd v),(11,.ldA Zk (Arr5.get g) 0 2 1 v)]
     refine AWP.cif hF (fun a3 hF=>?_) (fun a3 hF=>?_)
     ·obtain⟨a4,hF⟩:=chkb hF
      refine AWP.rg [(3,.app Za (fun _=>by kernel_rfl) a4)] [(1,(i64 b)),(2,(u32 c)),(7,(.own 0 (List.length (d++[g])))),(10,(slc 10 Za a)),(11,(i64 (List.length a:Int))),(12,(i64 f))] [bf 10 57 Za (d++[g]) false,.cells (Za g)] (LeQ.start (LeQ.pk [1,2,7,10,11,12] 1 ?_))
      have hr:=someb hF
      subst hr
      exact⟨rfl,by kernel_rfl,by kernel_rfl⟩
     ·refine AWP.skip (LeQ.start (LeQ.pk [1,2,7,10,11,12] 1 ?_))
      have hr:=someb hF
      subst hr
      exact⟨rfl,by kernel_rfl,by kernel_rfl⟩
    ·rintro _ _ _ ⟨rfl,rfl,rfl⟩
     refine AWP.rg0 [] [(1,(i64 b)),(2,(u32 c)),(7,(.own 0 (List.length m))),(10,(slc 10 Za a)),(11,(i64 (List.length a:Int))),(12,(i64 (ZI (f + (1:Int)))))] (LeQ.start (LeQ.pk [1,2,7,10,11,12] 1 ?_))
     exact⟨q,Nat.lt_succ_self _,m,(ZI (f + (1:Int))),hF,by kernel_rfl,by kernel_rfl⟩
   ·refine AWP.exit (LeQ.start (LeQ.pk [7] 1 ?_))
    have hr:=someb hF
    subst hr
    exact⟨rfl,by kernel_rfl,by kernel_rfl⟩
 ·rintro _ _ _ ⟨rfl,rfl,rfl⟩
  refine AWP.seq (AWP.rg0 [] [(6,(.own 0 (List.length j)))] (AWP.ret ?_))
  have hr:=someb hF
  subst hr
  exact(FnQ.f1 0 (.inr rfl) (.inl (Wk.ownT (i:=0) (s:=10) (t:=57) (l:=j) (sh:=false) (row:=Za) (by kernel_rfl) (.inl rfl))))
def Zfh (r:(ZL × Bool)):PV→List Blk→Prop:=fun p K=>p=(.tup [(slc 10 Za r.1),(vb r.2)])∧K=[]
abbrev Zho (r:(ZL × Bool)):Exit→St→List Blk→Prop:=FnQ Tryz.prog Tryz.f147.results 0 (Zfh r)
theorem Zjs:∀(nr:Nat) (a:Int) (d:ZL) (f:ZL) (g:Int) (r:(ZL × Bool)) (hF:Zah nr a d f g=some r),ACall Tryz.prog glob 147 [(i64 a),(slc 10 Za d),(slc 10 Za f),(.sc (.func (.func 132) #[] #[])),(i64 g)] [] (Zfh r):=by
 intro nr
 induction nr with
 | zero=>intro a d f g r hF; exact noneb (by rw [Zah] at hF; exact hF)
 | succ nr ih=>
  intro a d f g r hF
  refine ACall.body Tryz.func147 rfl (by kernel_rfl) ?_
  rw [Zah] at hF
  refine AWP.seq (AWP.rg0 [] [(0,(i64 a)),(1,(slc 10 Za d)),(2,(slc 10 Za f)),(3,(.sc (.func (.func 132) #[] #[]))),(4,(i64 g))] (AWP.seq (AWP.seq (AWP.rg0 [] [(0,(i64 a)),(1,(slc 10 Za d)),(2,(slc 10 Za f)),(3,(.sc (.func (.func 132) #[] #[]))),(4,(i64 g)),(26,(vb (a == (5:Int))))] ?_))))
  refine AWP.cif hF (fun c8 hF=>?_) (fun c8 hF=>?_)
  ·refine AWP.seq (AWP.seq ?_)
   obtain⟨b8,c9,hF⟩:=bindb hF
   refine AWP.rg0 [(2,.len Za d),(5,.len Za f),(7,.call Tryz.func132 [] (Zli (decide ((List.length d:Int) > (0:Int))) (decide ((List.length f:Int) > (0:Int))) b8 c9))] [(34,(vb b8))] ?_
   refine AWP.cif hF (fun d0 hF=>?_) (fun d0 hF=>?_)
   ·refine AWP.seq (AWP.rg0 [] [(10,(slc 10 Za [(Arr5.mk Zq Zq Zq Zq Zq)])),(11,(vb true))] (AWP.ret ?_))
    have hr:=someb hF
    subst hr
    exact(FnQ.f0 0 (.inr rfl))
   ·refine AWP.skip (AWP.seq (AWP.rg0 [] [(10,nils),(11,(vb true))] (AWP.ret ?_)))
    have hr:=someb hF
    subst hr
    exact(FnQ.f1 0 (.inr rfl) (.inr ⟨_,_,rfl,rfl,(.cons _ _ _ _ (.nil 10) (.cons _ _ _ _ (.refl _) .nil))⟩))
  ·refine AWP.skip (AWP.seq (AWP.seq ?_))
   obtain⟨d1,b0,hF⟩:=bindb hF
   replace b0:=someb b0
   obtain⟨d2,b9,hF⟩:=bindb hF
   refine AWP.to [(0,(i64 a)),(1,(slc 10 Za d)),(2,(slc 10 Za f)),(3,(.sc (.func (.func 132) #[] #[]))),(4,(i64 g)),(47,(vb d2))] [] ?_ ?_
   ·cases d1 with
    | false=>
     have d3:=someb (ifF b9 rfl)
     subst d3
     exact AWP.rgT [(1,.len Za d),(3,.len Za f),(6,.bool b0)]
    | true=>
     have a3:=ifT b9 rfl
     obtain⟨d4,d5,a3⟩:=bindb a3
     replace a3:=someb a3
     subst a3
     exact AWP.rgT [(1,.len Za d),(3,.len Za f),(6,.bool b0),(8,.call Tryz.func132 [] (Zli false false d4 d5))]
   refine AWP.cif hF (fun d6 hF=>?_) (fun d6 hF=>?_)
   ·refine AWP.seq (AWP.rg0 [] [(10,nils),(11,(vb true))] (AWP.ret ?_))
    have hr:=someb hF
    subst hr
    exact(FnQ.f1 0 (.inr rfl) (.inr ⟨_,_,rfl,rfl,(.cons _ _ _ _ (.nil 10) (.cons _ _ _ _ (.refl _) .nil))⟩))
   ·refine AWP.skip (AWP.seq (AWP.rg0 [] [(0,(i64 a)),(1,(slc 10 Za d)),(2,(slc 10 Za f)),(3,(.sc (.func (.func 132) #[] #[]))),(4,(i64 g)),(12,nils)] ?_))
    refine AWP.own (H':=[bf 3 157 Ze ([]:(List Zg)) false]) (st':=[(12,(.own 0 (List.length ([]:(List Zg))))),(0,(i64 a)),(1,(slc 10 Za d)),(2,(slc 10 Za f)),(3,(.sc (.func (.func 132) #[] #[]))),(4,(i64 g))]) 12 3 157 (by kernel_rfl) (by kernel_rfl) (by kernel_rfl) ?_
    refine AWP.pick (st':=[(0,(i64 a)),(1,(slc 10 Za d)),(2,(slc 10 Za f)),(3,(.sc (.func (.func 132) #[] #[]))),(4,(i64 g)),(12,(.own 0 (List.length ([]:(List Zg)))))]) (ks:=[0,1,2,3,4,12]) (by kernel_rfl) ?_
    refine AWP.seq (AWP.rg0 [] [(0,(i64 a)),(1,(slc 10 Za d)),(2,(slc 10 Za f)),(3,(.sc (.func (.func 132) #[] #[]))),(4,(i64 g)),(12,(.own 0 (List.length ([]:(List Zg))))),(13,(i64 (0:Int)))] (AWP.seq ?_))
    obtain⟨k,d7,hF⟩:=bindb hF
    refine AWP.rg0 [(4,.call Tryz.func151 [] (Zjz a [d,f] k d7))] [(0,(i64 a)),(1,(slc 10 Za d)),(2,(slc 10 Za f)),(3,(.sc (.func (.func 132) #[] #[]))),(4,(i64 g)),(12,(.own 0 (List.length ([]:(List Zg))))),(13,(i64 (0:Int))),(14,(slc 1 Zd k))] (AWP.seq (AWP.seq (AWP.rg0 [] [(0,(i64 a)),(1,(slc 10 Za d)),(2,(slc 10 Za f)),(3,(.sc (.func (.func 132) #[] #[]))),(4,(i64 g)),(12,(.own 0 (List.length ([]:(List Zg))))),(13,(i64 (0:Int))),(14,(slc 1 Zd k)),(15,(i64 (0:Int)))] ?_)))
    obtain⟨b2,d8,hF⟩:=bindb hF
    refine AWP.mid (fun e st H=>(e=.normal∧∃ c,∃ b3,b2=(.inl (c,b3))∧st=[(0,(i64 a)),(12,(.own 0 (List.length c))),(13,(i64 b3))]∧H=[bf 3 157 Ze c false])∨(e=.ret∧∃ r,b2=(.inr r)∧Zho r e st H)) ?_ ?_
    ·clear hF
     refine AWP.kp [0,1,2,3,4,12,13,14,15] 1 ?_
     refine AWP.bround (fun n st H=>∃ b,∃ o,∃ p,Z0 a d f g (Zah nr) k n b o p=some b2∧st=[(0,(i64 a)),(1,(slc 10 Za d)),(2,(slc 10 Za f)),(3,(.sc (.func (.func 132) #[] #[]))),(4,(i64 g)),(12,(.own 0 (List.length b))),(13,(i64 o)),(14,(slc 1 Zd k)),(15,(i64 p))]∧H=[bf 3 157 Ze b false]) fuel ⟨([]:(List Zg)),(0:Int),(0:Int),d8,by kernel_rfl,by kernel_rfl⟩ ?_
     rintro b4 st H ⟨b,o,p,hF,rfl,rfl⟩
     cases b4 with
     | zero=>exact noneb hF
     | succ b4=>
      rw [Z0] at hF
      refine AWP.seq (AWP.seq (AWP.rg0 [(3,.len Zd k)] [(0,(i64 a)),(1,(slc 10 Za d)),(2,(slc 10 Za f)),(3,(.sc (.func (.func 132) #[] #[]))),(4,(i64 g)),(12,(.own 0 (List.length b))),(13,(i64 o)),(14,(slc 1 Zd k)),(15,(i64 p)),(57,(vb (decide ((ZI (p + (1:Int)))<(List.length k:Int)))))] ?_))
      refine AWP.cif hF (fun d9 hF=>?_) (fun d9 hF=>?_)
      ·refine AWP.skip ?_
       obtain⟨c0,e0,hF⟩:=bindb hF
       refine AWP.seq ?_
       refine AWP.mid (fun e st H=>(e=.normal∧∃ a2,∃ a4,c0=(.inl (a2,a4))∧st=[(0,(i64 a)),(1,(slc 10 Za d)),(2,(slc 10 Za f)),(3,(.sc (.func (.func 132) #[] #[]))),(4,(i64 g)),(12,(.own 0 (List.length a2))),(13,(i64 a4)),(14,(slc 1 Zd k)),(15,(i64 p))]∧H=[bf 3 157 Ze a2 false])∨(e=.ret∧∃ r,c0=(.inr r)∧Zho r e st H)) ?_ ?_
       ·clear hF
        have hF:=e0
        refine AWP.block (AWP.seq ?_)
        obtain⟨w,e1,hF⟩:=bindb hF
        obtain⟨u,e2,hF⟩:=bindb hF
        refine AWP.dr [(2,.idx Zd e1),(8,.idx Zd e2)] 14 [] [13] [] [(0,(i64 a)),(1,(slc 10 Za d)),(2,(slc 10 Za f)),(3,(.sc (.func (.func 132) #[] #[]))),(4,(i64 g)),(12,(.own 0 (List.length b))),(13,(i64 o)),(14,(slc 1 Zd k)),(15,(i64 p)),(16,(.ptr 1 0))] [bf 3 157 Ze b false,.cells (Zk (Zb.mk (IntKind.wrap .u32 w) (IntKind.wrap .u32 (IntKind.wrap .u64 (u - (1:Int))))))] (AWP.seq ?_)
        obtain⟨c1,e3,hF⟩:=bindb hF
        obtain⟨c2,e4,hF⟩:=bindb hF
        obtain⟨m,e5,hF⟩:=bindb hF
        refine AWP.dr [(6,.call Tryz.func152 [] (Zej d a (IntKind.wrap .u32 w) c1 e3)),(11,.call Tryz.func152 [] (Zej f a (IntKind.wrap .u32 w) c2 e4)),(14,.call Tryz.func147 [] (ih (ZI (a + (1:Int))) c1 c2 g m e5))] 19 [] [] [] [(0,(i64 a)),(1,(slc 10 Za d)),(2,(slc 10 Za f)),(3,(.sc (.func (.func 132) #[] #[]))),(4,(i64 g)),(12,(.own 0 (List.length b))),(13,(i64 o)),(14,(slc 1 Zd k)),(15,(i64 p)),(16,(.ptr 1 0)),(17,(slc 10 Za m.1)),(18,(vb m.2))] [bf 3 157 Ze b false,.cells (Zk (Zb.mk (IntKind.wrap .u32 w) (IntKind.wrap .u32 (IntKind.wrap .u64 (u - (1:Int))))))] (AWP.seq (AWP.seq (AWP.rg0 [] [(0,(i64 a)),(1,(slc 10 Za d)),(2,(slc 10 Za f)),(3,(.sc (.func (.func 132) #[] #[]))),(4,(i64 g)),(12,(.own 0 (List.length b))),(13,(i64 o)),(14,(slc 1 Zd k)),(15,(i64 p)),(16,(.ptr 1 0)),(17,(slc 10 Za m.1)),(92,(vb (!m.2)))] ?_)))
        refine AWP.cif hF (fun e6 hF=>?_) (fun e6 hF=>?_)
        ·refine AWP.seq (AWP.rg0 [] [(10,nils),(11,(vb false))] (AWP.ret ?_))
         exact LeQ.of (.inr ⟨rfl,(([]:ZL),false),(someb hF).symm,(FnQ.f1 0 (.inr rfl) (.inr ⟨_,_,rfl,rfl,(.cons _ _ _ _ (.nil 10) (.cons _ _ _ _ (.refl _) .nil))⟩))⟩)
        ·refine AWP.skip (AWP.seq (AWP.seq (AWP.rg0 [(1,.len Za m.1)] [(0,(i64 a)),(1,(slc 10 Za d)),(2,(slc 10 Za f)),(3,(.sc (.func (.func 132) #[] #[]))),(4,(i64 g)),(12,(.own 0 (List.length b))),(13,(i64 o)),(14,(slc 1 Zd k)),(15,(i64 p)),(16,(.ptr 1 0)),(17,(slc 10 Za m.1)),(95,(vb ((List.length m.1:Int) == (0:Int))))] ?_)))
         refine AWP.cif hF (fun e7 hF=>?_) (fun e7 hF=>?_)
         ·refine AWP.exit (LeQ.start (LeQ.pk [0,1,2,3,4,12,13,14,15] 1 ?_))
          exact(.inl ⟨rfl,b,o,(someb hF).symm,by kernel_rfl,by kernel_rfl⟩)
         ·refine AWP.skip (AWP.seq (AWP.seq (AWP.rg0 [(1,.len Ze b)] [(0,(i64 a)),(1,(slc 10 Za d)),(2,(slc 10 Za f)),(3,(.sc (.func (.func 132) #[] #[]))),(4,(i64 g)),(12,(.own 0 (List.length b))),(13,(i64 o)),(14,(slc 1 Zd k)),(15,(i64 p)),(16,(.ptr 1 0)),(17,(slc 10 Za m.1)),(19,(i64 (List.length b:Int)))] (AWP.seq ?_))))
          obtain⟨e8,a5,hF⟩:=bindb hF
          replace a5:=someb a5
          obtain⟨h1,c3,hF⟩:=bindb hF
          obtain⟨e9,a6,hF⟩:=bindb hF
          replace a6:=someb a6
          obtain⟨f2,b5,hF⟩:=bindb hF
          refine AWP.to [(0,(i64 a)),(1,(slc 10 Za d)),(2,(slc 10 Za f)),(3,(.sc (.func (.func 132) #[] #[]))),(4,(i64 g)),(12,(.own 0 (List.length b))),(13,(i64 o)),(14,(slc 1 Zd k)),(15,(i64 p)),(16,(.ptr 1 0)),(17,(slc 10 Za m.1)),(19,(i64 (List.length b:Int))),(122,(vb f2))] [bf 3 157 Ze b false,.cells (Zk (Zb.mk (IntKind.wrap .u32 w) (IntKind.wrap .u32 (IntKind.wrap .u64 (u - (1:Int))))))] ?_ ?_
          ·cases e8 with
           | false=>
            have f3:=someb (ifF c3 rfl)
            subst f3
            subst a6
            have f4:=someb (ifF b5 rfl)
            subst f4
            exact AWP.drT [(2,.bool a5)] 25 [] [] []
           | true=>
            have a7:=ifT c3 rfl
            obtain⟨h2,b1,a7⟩:=bindb a7
            replace a7:=someb a7
            subst a7
            cases e9 with
            | false=>
             have f5:=someb (ifF b5 rfl)
             subst f5
             exact AWP.drT [(2,.bool a5),(6,.idx Ze b1),(7,.fdE Ze b (ZI ((List.length b:Int) - (1:Int)))),(8,.fdE Ze b (ZI ((List.length b:Int) - (1:Int)))),(9,.ldE Ze b1),(15,.bool a6)] 25 [] [] []
            | true=>
             have a1:=ifT b5 rfl
             obtain⟨f6,c4,a1⟩:=bindb a1
             obtain⟨f7,f8,a1⟩:=bindb a1
             replace a1:=someb a1
             subst a1
             exact AWP.drT [(2,.bool a5),(6,.idx Ze b1),(7,.fdE Ze b (ZI ((List.length b:Int) - (1:Int)))),(8,.fdE Ze b (ZI ((List.length b:Int) - (1:Int)))),(9,.ldE Ze b1),(15,.bool a6),(19,.idx Ze c4),(20,.fdE Ze b (ZI ((List.length b:Int) - (1:Int)))),(21,.ldE Ze c4),(23,.call Tryz.func146 [] (Zd5 f6.f_rest m.1 f7 f8))] 25 [] [] []
          refine AWP.cif hF (fun f9 hF=>?_) (fun f9 hF=>?_)
          ·refine AWP.seq ?_
           obtain⟨z,c5,hF⟩:=bindb hF
           refine AWP.rg [(5,.idx Ze c5),(6,.fdE Ze b (ZI ((List.length b:Int) - (1:Int)))),(7,.fdE Ze b (ZI ((List.length b:Int) - (1:Int)))),(8,.stE Ze c5 ({ z with f_values:=({ z.f_values with Hi:=(IntKind.wrap .u32 (IntKind.wrap .u64 (u - (1:Int)))) }:Zb) }:Zg))] [(0,(i64 a)),(1,(slc 10 Za d)),(2,(slc 10 Za f)),(3,(.sc (.func (.func 132) #[] #[]))),(4,(i64 g)),(12,(.own 0 (List.length b))),(13,(i64 o)),(14,(slc 1 Zd k)),(15,(i64 p))] [bf 3 157 Ze (List.set b (Int.toNat (ZI ((List.length b:Int) - (1:Int)))) ({ z with f_values:=({ z.f_values with Hi:=(IntKind.wrap .u32 (IntKind.wrap .u64 (u - (1:Int)))) }:Zb) }:Zg)) false,.cells (Zk (Zb.mk (IntKind.wrap .u32 w) (IntKind.wrap .u32 (IntKind.wrap .u64 (u - (1:Int))))))] ?_
           rw [show ([(0,(i64 a)),(1,(slc 10 Za d)),(2,(slc 10 Za f)),(3,(.sc (.func (.func 132) #[] #[]))),(4,(i64 g)),(12,(.own 0 (List.length b))),(13,(i64 o)),(14,(slc 1 Zd k)),(15,(i64 p))]:St)=[(0,(i64 a)),(1,(slc 10 Za d)),(2,(slc 10 Za f)),(3,(.sc (.func (.func 132) #[] #[]))),(4,(i64 g)),(12,(.own 0 (List.length (List.set b (Int.toNat (ZI ((List.length b:Int) - (1:Int)))) ({ z with f_values:=({ z.f_values with Hi:=(IntKind.wrap .u32 (IntKind.wrap .u64 (u - (1:Int)))) }:Zb) }:Zg))))),(13,(i64 o)),(14,(slc 1 Zd k)),(15,(i64 p))] by simp only [List.length_set]]
           refine AWP.exit (LeQ.start (LeQ.pk [0,1,2,3,4,12,13,14,15] 1 ?_))
           exact(.inl ⟨rfl,(List.set b (Int.toNat (ZI ((List.length b:Int) - (1:Int)))) ({ z with f_values:=({ z.f_values with Hi:=(IntKind.wrap .u32 (IntKind.wrap .u64 (u - (1:Int)))) }:Zb) }:Zg)),o,(someb hF).symm,by kernel_rfl,by kernel_rfl⟩)
          ·refine AWP.skip (AWP.seq ?_)
           obtain⟨g0,hF⟩:=chkb hF
           refine AWP.rg [(5,.app Ze (fun _=>by kernel_rfl) g0)] [(0,(i64 a)),(1,(slc 10 Za d)),(2,(slc 10 Za f)),(3,(.sc (.func (.func 132) #[] #[]))),(4,(i64 g)),(12,(.own 0 (List.length (b++[(Zg.mk (Zb.mk (IntKind.wrap .u32 w) (IntKind.wrap .u32 (IntKind.wrap .u64 (u - (1:Int))))) m.1)])))),(13,(i64 o)),(14,(slc 1 Zd k)),(15,(i64 p)),(17,(slc 10 Za m.1))] [bf 3 157 Ze (b++[(Zg.mk (Zb.mk (IntKind.wrap .u32 w) (IntKind.wrap .u32 (IntKind.wrap .u64 (u - (1:Int))))) m.1)]) false,.cells (Zk (Zb.mk (IntKind.wrap .u32 w) (IntKind.wrap .u32 (IntKind.wrap .u64 (u - (1:Int))))))] (AWP.seq (AWP.rg0 [(2,.len Za m.1)] [(0,(i64 a)),(1,(slc 10 Za d)),(2,(slc 10 Za f)),(3,(.sc (.func (.func 132) #[] #[]))),(4,(i64 g)),(12,(.own 0 (List.length (b++[(Zg.mk (Zb.mk (IntKind.wrap .u32 w) (IntKind.wrap .u32 (IntKind.wrap .u64 (u - (1:Int))))) m.1)])))),(13,(i64 (ZI (o + (List.length m.1:Int))))),(14,(slc 1 Zd k)),(15,(i64 p))] (AWP.seq (AWP.rg0 [] [(0,(i64 a)),(1,(slc 10 Za d)),(2,(slc 10 Za f)),(3,(.sc (.func (.func 132) #[] #[]))),(4,(i64 g)),(12,(.own 0 (List.length (b++[(Zg.mk (Zb.mk (IntKind.wrap .u32 w) (IntKind.wrap .u32 (IntKind.wrap .u64 (u - (1:Int))))) m.1)])))),(13,(i64 (ZI (o + (List.length m.1:Int))))),(14,(slc 1 Zd k)),(15,(i64 p)),(143,(vb (decide ((ZI (o + (List.length m.1:Int))) > g))))] ?_))))
           refine AWP.cif hF (fun g1 hF=>?_) (fun g1 hF=>?_)
           ·refine AWP.seq (AWP.rg0 [] [(10,nils),(11,(vb false))] (AWP.ret ?_))
            exact LeQ.of (.inr ⟨rfl,(([]:ZL),false),(someb hF).symm,(FnQ.f1 0 (.inr rfl) (.inr ⟨_,_,rfl,rfl,(.cons _ _ _ _ (.nil 10) (.cons _ _ _ _ (.refl _) .nil))⟩))⟩)
           ·refine AWP.skip (LeQ.start (LeQ.pk [0,1,2,3,4,12,13,14,15] 1 ?_))
            exact(.inl ⟨rfl,(b++[(Zg.mk (Zb.mk (IntKind.wrap .u32 w) (IntKind.wrap .u32 (IntKind.wrap .u64 (u - (1:Int))))) m.1)]),(ZI (o + (List.length m.1:Int))),(someb hF).symm,by kernel_rfl,by kernel_rfl⟩)
       ·rintro _ _ _ (⟨rfl,a2,a4,rfl,rfl,rfl⟩ | ⟨rfl,g2,rfl,hq⟩)
        ·refine AWP.rg0 [] [(0,(i64 a)),(1,(slc 10 Za d)),(2,(slc 10 Za f)),(3,(.sc (.func (.func 132) #[] #[]))),(4,(i64 g)),(12,(.own 0 (List.length a2))),(13,(i64 a4)),(14,(slc 1 Zd k)),(15,(i64 (ZI (p + (1:Int)))))] (LeQ.start (LeQ.pk [0,1,2,3,4,12,13,14,15] 1 ?_))
         exact⟨b4,Nat.lt_succ_self _,a2,a4,(ZI (p + (1:Int))),hF,by kernel_rfl,by kernel_rfl⟩
        ·exact LeQ.of (.inr ⟨rfl,g2,(someb hF).symm,hq⟩)
      ·refine AWP.exit (LeQ.start (LeQ.pk [0,12,13] 1 ?_))
       exact(.inl ⟨rfl,b,o,(someb hF).symm,by kernel_rfl,by kernel_rfl⟩)
    ·rintro _ _ _ (⟨rfl,c,b3,rfl,rfl,rfl⟩ | ⟨rfl,h3,rfl,hq⟩)
     ·refine AWP.seq ?_
      obtain⟨g3,hF⟩:=chkb hF
      refine AWP.rg [(1,.mk0 Za g3)] [(0,(i64 a)),(12,(.own 0 (List.length c))),(20,(.own 1 (List.length ([]:ZL))))] [bf 3 157 Ze c false,bf 10 57 Za ([]:ZL) false] (AWP.seq (AWP.seq (AWP.rg0 [(1,.len Ze c)] [(0,(i64 a)),(20,(.own 1 (List.length ([]:ZL)))),(146,(.own 0 (List.length c))),(147,(i64 (List.length c:Int))),(148,(i64 (0:Int)))] ?_)))
      obtain⟨a8,g4,hF⟩:=bindb hF
      refine AWP.mid (fun e st H=>e=.normal∧st=[(20,(.own 1 (List.length a8)))]∧H=[bf 3 157 Ze c false,bf 10 57 Za a8 false]) ?_ ?_
      ·clear hF
       refine AWP.kp [0,20,146,147,148] 2 ?_
       refine AWP.bround (fun n st H=>∃ y,∃ q,Zx a c n y q=some a8∧st=[(0,(i64 a)),(20,(.own 1 (List.length y))),(146,(.own 0 (List.length c))),(147,(i64 (List.length c:Int))),(148,(i64 q))]∧H=[bf 3 157 Ze c false,bf 10 57 Za y false]) fuel ⟨([]:ZL),(0:Int),g4,by kernel_rfl,by kernel_rfl⟩ ?_
       rintro b6 st H ⟨y,q,hF,rfl,rfl⟩
       cases b6 with
       | zero=>exact noneb hF
       | succ b6=>
        rw [Zx] at hF
        refine AWP.seq (AWP.rg0 [] [(0,(i64 a)),(20,(.own 1 (List.length y))),(146,(.own 0 (List.length c))),(147,(i64 (List.length c:Int))),(148,(i64 q)),(149,(vb (decide (q<(List.length c:Int)))))] (AWP.seq ?_))
        refine AWP.cif hF (fun g5 hF=>?_) (fun g5 hF=>?_)
        ·refine AWP.skip (AWP.seq (AWP.block (AWP.seq ?_)))
         obtain⟨j,c6,hF⟩:=bindb hF
         refine AWP.rg [(0,.idx Ze c6),(1,.ldE Ze c6)] [(0,(i64 a)),(20,(.own 1 (List.length y))),(22,(.ptr 2 0)),(146,(.own 0 (List.length c))),(147,(i64 (List.length c:Int))),(148,(i64 q))] [bf 3 157 Ze c false,bf 10 57 Za y false,.cells (Ze j)] (AWP.seq (AWP.rg0 [(2,.len Za j.f_rest)] [(0,(i64 a)),(20,(.own 1 (List.length y))),(22,(.ptr 2 0)),(146,(.own 0 (List.length c))),(147,(i64 (List.length c:Int))),(148,(i64 q)),(153,(slc 10 Za j.f_rest)),(154,(i64 (List.length j.f_rest:Int))),(155,(i64 (0:Int)))] ?_))
         obtain⟨a9,g6,hF⟩:=bindb hF
         refine AWP.mid (fun e st H=>e=.normal∧st=[(0,(i64 a)),(20,(.own 1 (List.length a9))),(146,(.own 0 (List.length c))),(147,(i64 (List.length c:Int))),(148,(i64 q))]∧H=[bf 3 157 Ze c false,bf 10 57 Za a9 false,.cells (Ze j)]) ?_ ?_
         ·clear hF
          refine AWP.kp [0,20,22,146,147,148,153,154,155] 3 ?_
          refine AWP.bround (fun n st H=>∃ v,∃ x,Z1 a j n v x=some a9∧st=[(0,(i64 a)),(20,(.own 1 (List.length v))),(22,(.ptr 2 0)),(146,(.own 0 (List.length c))),(147,(i64 (List.length c:Int))),(148,(i64 q)),(153,(slc 10 Za j.f_rest)),(154,(i64 (List.length j.f_rest:Int))),(155,(i64 x))]∧H=[bf 3 157 Ze c false,bf 10 57 Za v false,.cells (Ze j)]) fuel ⟨y,(0:Int),g6,by kernel_rfl,by kernel_rfl⟩ ?_
          rintro b7 st H ⟨v,x,hF,rfl,rfl⟩
          cases b7 with
          | zero=>exact noneb hF
          | succ b7=>
           rw [Z1] at hF
           refine AWP.seq (AWP.rg0 [] [(0,(i64 a)),(20,(.own 1 (List.length v))),(22,(.ptr 2 0)),(146,(.own 0 (List.length c))),(147,(i64 (List.length c:Int))),(148,(i64 q)),(153,(slc 10 Za j.f_rest)),(154,(i64 (List.length j.f_rest:Int))),(155,(i64 x)),(156,(vb (decide (x<(List.length j.f_rest:Int)))))] (AWP.seq ?_))
           refine AWP.cif hF (fun g7 hF=>?_) (fun g7 hF=>?_)
           ·refine AWP.skip (AWP.seq (AWP.block (AWP.seq ?_)))
            obtain⟨a0,g8,hF⟩:=bindb hF
            refine AWP.rg [(0,.idx Za g8)] [(0,(i64 a)),(20,(.own 1 (List.length v))),(22,(.ptr 2 0)),(24,(.ptr 3 0)),(146,(.own 0 (List.length c))),(147,(i64 (List.length c:Int))),(148,(i64 q)),(153,(slc 10 Za j.f_rest)),(154,(i64 (List.length j.f_rest:Int))),(155,(i64 x))] [bf 3 157 Ze c false,bf 10 57 Za v false,.cells (Ze j),.cells (Za a0)] (AWP.seq ?_)
            obtain⟨c7,hF⟩:=chkb hF
            refine AWP.rg [(3,.ixd c7),(4,.stA (fun g9=>Za (Arr5.set a0 g9 j.f_values)) 0 2 0 c7)] [(0,(i64 a)),(20,(.own 1 (List.length v))),(22,(.ptr 2 0)),(24,(.ptr 3 0)),(146,(.own 0 (List.length c))),(147,(i64 (List.length c:Int))),(148,(i64 q)),(153,(slc 10 Za j.f_rest)),(154,(i64 (List.length j.f_rest:Int))),(155,(i64 x))] [bf 3 157 Ze c false,bf 10 57 Za v false,.cells (Ze j),.cells (Za (Arr5.set a0 a j.f_values))] ?_
            obtain⟨h0,hF⟩:=chkb hF
            refine AWP.rg [(3,.app Za (fun _=>by kernel_rfl) h0)] [(0,(i64 a)),(20,(.own 1 (List.length (v++[(Arr5.set a0 a j.f_values)])))),(22,(.ptr 2 0)),(146,(.own 0 (List.length c))),(147,(i64 (List.length c:Int))),(148,(i64 q)),(153,(slc 10 Za j.f_rest)),(154,(i64 (List.length j.f_rest:Int))),(155,(i64 x))] [bf 3 157 Ze c false,bf 10 57 Za (v++[(Arr5.set a0 a j.f_values)]) false,.cells (Ze j),.cells (Za (Arr5.set a0 a j.f_values))] (AWP.rg0 [] [(0,(i64 a)),(20,(.own 1 (List.length (v++[(Arr5.set a0 a j.f_values)])))),(22,(.ptr 2 0)),(146,(.own 0 (List.length c))),(147,(i64 (List.length c:Int))),(148,(i64 q)),(153,(slc 10 Za j.f_rest)),(154,(i64 (List.length j.f_rest:Int))),(155,(i64 (ZI (x + (1:Int)))))] (LeQ.start (LeQ.pk [0,20,22,146,147,148,153,154,155] 3 ?_)))
            exact⟨b7,Nat.lt_succ_self _,(v++[(Arr5.set a0 a j.f_values)]),(ZI (x + (1:Int))),hF,by kernel_rfl,by kernel_rfl⟩
           ·refine AWP.exit (LeQ.start (LeQ.pk [0,20,146,147,148] 3 ?_))
            have hr:=someb hF
            subst hr
            exact⟨rfl,by kernel_rfl,by kernel_rfl⟩
         ·rintro _ _ _ ⟨rfl,rfl,rfl⟩
          refine AWP.rg0 [] [(0,(i64 a)),(20,(.own 1 (List.length a9))),(146,(.own 0 (List.length c))),(147,(i64 (List.length c:Int))),(148,(i64 (ZI (q + (1:Int)))))] (LeQ.start (LeQ.pk [0,20,146,147,148] 2 ?_))
          exact⟨b6,Nat.lt_succ_self _,a9,(ZI (q + (1:Int))),hF,by kernel_rfl,by kernel_rfl⟩
        ·refine AWP.exit (LeQ.start (LeQ.pk [20] 2 ?_))
         have hr:=someb hF
         subst hr
         exact⟨rfl,by kernel_rfl,by kernel_rfl⟩
      ·rintro _ _ _ ⟨rfl,rfl,rfl⟩
       refine AWP.seq (AWP.rg0 [] [(10,(.own 1 (List.length a8))),(11,(vb true))] (AWP.ret ?_))
       have hr:=someb hF
       subst hr
       exact(FnQ.f1 0 (.inr rfl) (.inr ⟨_,_,rfl,rfl,(.cons _ _ _ _ (Wk.ownT (i:=1) (s:=10) (t:=57) (l:=a8) (sh:=false) (row:=Za) (by kernel_rfl) (.inl rfl)) (.cons _ _ _ _ (.refl _) .nil))⟩))
     ·have hr:=someb hF
      subst hr
      exact hq
theorem Zka (a:Int) (b:ZL) (c:ZL) (d:Int) (r:(ZL × Bool)) (hF:Zah fuel a b c d=some r):ACall Tryz.prog glob 147 [(i64 a),(slc 10 Za b),(slc 10 Za c),(.sc (.func (.func 132) #[] #[])),(i64 d)] [] (Zfh r):=Zjs fuel a b c d r hF
def Zk0 (r:(ZL × Int)):PV→List Blk→Prop:=fun p K=>p=(.tup [(slc 10 Za r.1),(i64 r.2)])∧K=[]
theorem Zfw (b:ZL) (c:ZL) (r:(ZL × Int)) (hF:Za6 b c=some r):ACall Tryz.prog glob 131 [(slc 10 Za b),(slc 10 Za c),(.sc (.func (.func 132) #[] #[]))] [] (Zk0 r):=by
 refine ACall.body Tryz.func131 rfl (by kernel_rfl) ?_
 unfold Za6 at hF
 refine AWP.seq (AWP.rg0 [] [(0,(slc 10 Za b)),(1,(slc 10 Za c)),(2,(.sc (.func (.func 132) #[] #[])))] (AWP.seq ?_))
 obtain⟨a,d,hF⟩:=bindb hF
 refine AWP.rg0 [(3,.call Tryz.func147 [] (Zka (0:Int) b c (4096:Int) a d))] [(8,(slc 10 Za a.1)),(9,(vb a.2))] (AWP.seq (AWP.seq (AWP.rg0 [] [(8,(slc 10 Za a.1)),(18,(vb (!a.2)))] ?_)))
 refine AWP.cif hF (fun f hF=>?_) (fun f hF=>?_)
 ·refine AWP.seq (AWP.rg0 [] [(6,nils),(7,(i64 (3:Int)))] (AWP.ret ?_))
  have hr:=someb hF
  subst hr
  exact(FnQ.f1 0 (.inr rfl) (.inr ⟨_,_,rfl,rfl,(.cons _ _ _ _ (.nil 10) (.cons _ _ _ _ (.refl _) .nil))⟩))
 ·refine AWP.skip (AWP.seq (AWP.rg0 [] [(6,(slc 10 Za a.1)),(7,(i64 (0:Int)))] (AWP.ret ?_)))
  have hr:=someb hF
  subst hr
  exact(FnQ.f0 0 (.inr rfl))
def Zmf (r:(ZL × Int)):PV→List Blk→Prop:=fun p K=>p=(.tup [(slc 10 Za r.1),(i64 r.2)])∧K=[]
abbrev Zsq (r:(ZL × Int)):Exit→St→List Blk→Prop:=FnQ Tryz.prog Tryz.f101.results 0 (Zmf r)
theorem Zmg (f:ZL) (r:(ZL × Int)) (hF:Zf7 f=some r):ACall Tryz.prog glob 101 [(slc 10 Za f)] [] (Zmf r):=by
 refine ACall.body Tryz.func101 rfl (by kernel_rfl) ?_
 unfold Zf7 at hF
 refine AWP.seq (AWP.rg0 [] [(0,(slc 10 Za f))] (AWP.seq (AWP.rg0 [] [(0,(slc 10 Za f)),(4,nils)] (AWP.seq (AWP.seq ?_)))))
 obtain⟨a,l,hF⟩:=bindb hF
 refine AWP.rg0 [(1,.call Tryz.func129 [] (Zjk f a l)),(2,.len Za a)] [(4,nils),(10,(slc 10 Za a)),(11,(i64 (List.length a:Int))),(12,(i64 (0:Int)))] ?_
 obtain⟨i,m,hF⟩:=bindb hF
 refine AWP.mid (fun e st H=>(e=.normal∧∃ g,i=(.inl g)∧st=[(4,(slc 10 Za g))]∧H=[])∨(e=.ret∧∃ r,i=(.inr r)∧Zsq r e st H)) ?_ ?_
 ·clear hF
  refine AWP.wk (p:=nils) (q:=(slc 10 Za ([]:ZL))) (st':=[(4,(slc 10 Za ([]:ZL))),(10,(slc 10 Za a)),(11,(i64 (List.length a:Int))),(12,(i64 (0:Int)))]) 4 (by kernel_rfl) (.nil 10) (by kernel_rfl) ?_
  refine AWP.kp [4,10,11,12] 0 ?_
  refine AWP.bround (fun n st H=>∃ d,∃ b,Zd2 a n d b=some i∧st=[(4,(slc 10 Za d)),(10,(slc 10 Za a)),(11,(i64 (List.length a:Int))),(12,(i64 b))]∧H=[]) fuel ⟨([]:ZL),(0:Int),m,by kernel_rfl,by kernel_rfl⟩ ?_
  rintro j st H ⟨d,b,hF,rfl,rfl⟩
  cases j with
  | zero=>exact noneb hF
  | succ j=>
   rw [Zd2] at hF
   refine AWP.seq (AWP.rg0 [] [(4,(slc 10 Za d)),(10,(slc 10 Za a)),(11,(i64 (List.length a:Int))),(12,(i64 b)),(13,(vb (decide (b<(List.length a:Int)))))] (AWP.seq ?_))
   refine AWP.cif hF (fun o hF=>?_) (fun o hF=>?_)
   ·refine AWP.skip (AWP.seq (AWP.block (AWP.seq ?_)))
    obtain⟨k,s,hF⟩:=bindb hF
    refine AWP.rg [(0,.idx Za s)] [(4,(slc 10 Za d)),(6,(.ptr 0 0)),(10,(slc 10 Za a)),(11,(i64 (List.length a:Int))),(12,(i64 b))] [.cells (Za k)] (AWP.seq ?_)
    obtain⟨c,t,hF⟩:=bindb hF
    refine AWP.rg0 [(3,.call Tryz.func131 [] (Zfw d [k] c t))] [(7,(slc 10 Za c.1)),(8,(i64 c.2)),(10,(slc 10 Za a)),(11,(i64 (List.length a:Int))),(12,(i64 b))] (AWP.seq (AWP.seq (AWP.rg0 [] [(7,(slc 10 Za c.1)),(8,(i64 c.2)),(10,(slc 10 Za a)),(11,(i64 (List.length a:Int))),(12,(i64 b)),(24,(vb (c.2 != (0:Int))))] ?_)))
    refine AWP.cif hF (fun u hF=>?_) (fun u hF=>?_)
    ·refine AWP.seq (AWP.rg0 [] [(2,nils),(3,(i64 c.2))] (AWP.ret ?_))
     exact LeQ.of (.inr ⟨rfl,(([]:ZL),c.2),(someb hF).symm,(FnQ.f1 0 (.inr rfl) (.inr ⟨_,_,rfl,rfl,(.cons _ _ _ _ (.nil 10) (.cons _ _ _ _ (.refl _) .nil))⟩))⟩)
    ·refine AWP.skip (AWP.rg0 [] [(4,(slc 10 Za c.1)),(10,(slc 10 Za a)),(11,(i64 (List.length a:Int))),(12,(i64 b))] (AWP.rg0 [] [(4,(slc 10 Za c.1)),(10,(slc 10 Za a)),(11,(i64 (List.length a:Int))),(12,(i64 (ZI (b + (1:Int)))))] (LeQ.start (LeQ.pk [4,10,11,12] 0 ?_))))
     exact⟨j,Nat.lt_succ_self _,c.1,(ZI (b + (1:Int))),hF,by kernel_rfl,by kernel_rfl⟩
   ·refine AWP.exit (LeQ.start (LeQ.pk [4] 0 ?_))
    exact(.inl ⟨rfl,d,(someb hF).symm,by kernel_rfl,by kernel_rfl⟩)
 ·rintro _ _ _ (⟨rfl,g,rfl,rfl,rfl⟩ | ⟨rfl,v,rfl,hq⟩)
  ·refine AWP.seq (AWP.rg0 [] [(2,(slc 10 Za g)),(3,(i64 (0:Int)))] (AWP.ret ?_))
   have hr:=someb hF
   subst hr
   exact(FnQ.f0 0 (.inr rfl))
  ·have hr:=someb hF
   subst hr
   exact hq
def Zn6 (r:(ZL × Zj)):PV→List Blk→Prop:=fun p K=>p=(slc 10 Za r.1)∧K=[.cells (Zl r.2)]
theorem Zfc (c:Zj) (a:ZL) (b:Int) (r:(ZL × Zj)) (hF:Zb4 c a b=some r):ACall Tryz.prog glob 100 [(.ptr 0 0),(slc 10 Za a),(i64 b)] [.cells (Zl c)] (Zn6 r):=by
 refine ACall.body Tryz.func100 rfl (by kernel_rfl) ?_
 unfold Zb4 at hF
 refine AWP.seq (AWP.rg0 [] [(0,(.ptr 0 0)),(1,(slc 10 Za a)),(2,(i64 b))] ?_)
 obtain⟨d,f,hF⟩:=bindb hF
 refine AWP.seq ?_
 refine AWP.mid (fun e st H=>e=.normal∧st=[(0,(.ptr 0 0)),(1,(slc 10 Za a))]∧H=[.cells (Zl d)]) ?_ ?_
 ·clear hF
  have hF:=f
  refine AWP.seq (AWP.rg0 [] [(0,(.ptr 0 0)),(1,(slc 10 Za a)),(2,(i64 b)),(11,(vb (c.f_err == (0:Int))))] ?_)
  refine AWP.cif hF (fun g hF=>?_) (fun g hF=>?_)
  ·refine AWP.rg [] [(0,(.ptr 0 0)),(1,(slc 10 Za a))] [.cells (Zl ({ c with f_err:=b }:Zj))] (LeQ.start (LeQ.pk [0,1] 1 ?_))
   have hr:=someb hF
   subst hr
   exact⟨rfl,by kernel_rfl,by kernel_rfl⟩
  ·refine AWP.skip (LeQ.start (LeQ.pk [0,1] 1 ?_))
   have hr:=someb hF
   subst hr
   exact⟨rfl,by kernel_rfl,by kernel_rfl⟩
 ·rintro _ _ _ ⟨rfl,rfl,rfl⟩
  refine AWP.seq (AWP.seq (AWP.rg0 [] [(1,(slc 10 Za a)),(20,(vb (d.f_err != (0:Int))))] ?_))
  refine AWP.cif hF (fun i hF=>?_) (fun i hF=>?_)
  ·refine AWP.seq (AWP.rg0 [] [(6,nils)] (AWP.ret ?_))
   have hr:=someb hF
   subst hr
   exact(FnQ.f1 1 (.inr rfl) (.inl (.nil 10)))
  ·refine AWP.skip (AWP.seq (AWP.rg0 [] [(6,(slc 10 Za a))] (AWP.ret ?_)))
   have hr:=someb hF
   subst hr
   exact(FnQ.f0 1 (.inr rfl))
def Zn7 (r:(ZL × Zj)):PV→List Blk→Prop:=fun p K=>p=(slc 10 Za r.1)∧K=[.cells (Zl r.2)]
theorem Zj4 (b:Zj) (a:ZL) (r:(ZL × Zj)) (hF:Zd7 b a=some r):ACall Tryz.prog glob 51 [(.ptr 0 0),(slc 10 Za a)] [.cells (Zl b)] (Zn7 r):=by
 refine ACall.body Tryz.func51 rfl (by kernel_rfl) ?_
 unfold Zd7 at hF
 refine AWP.seq (AWP.rg0 [] [(0,(.ptr 0 0)),(1,(slc 10 Za a))] (AWP.seq (AWP.seq ?_)))
 obtain⟨f,g,hF⟩:=bindb hF
 refine AWP.rg0 [(1,.call Tryz.func99 [] (Zlu a f g))] [(0,(.ptr 0 0)),(1,(slc 10 Za a)),(6,(vb f))] ?_
 refine AWP.cif hF (fun i hF=>?_) (fun i hF=>?_)
 ·refine AWP.seq (AWP.rg0 [] [(4,(slc 10 Za a))] (AWP.ret ?_))
  have hr:=someb hF
  subst hr
  exact(FnQ.f0 1 (.inr rfl))
 ·refine AWP.skip (AWP.seq ?_)
  obtain⟨c,j,hF⟩:=bindb hF
  obtain⟨d,k,hF⟩:=bindb hF
  refine AWP.rg [(2,.call Tryz.func101 [] (Zmg a c j)),(5,.call Tryz.func100 [] (Zfc b c.1 c.2 d k))] [(4,(slc 10 Za d.1))] [.cells (Zl d.2)] (AWP.ret ?_)
  have hr:=someb hF
  subst hr
  exact(FnQ.f0 1 (.inr rfl))
def Zt3 (r:(ZL × Int)):PV→List Blk→Prop:=fun p K=>p=(.tup [(slc 10 Za r.1),(i64 r.2)])∧K=[]
theorem Zfs (a:ZL) (r:(ZL × Int)) (hF:Zc2 a=some r):ACall Tryz.prog glob 140 [(slc 10 Za a)] [] (Zt3 r):=by
 refine ACall.body Tryz.func140 rfl (by kernel_rfl) ?_
 unfold Zc2 at hF
 refine AWP.seq (AWP.rg0 [] [(0,(slc 10 Za a))] (AWP.seq (AWP.seq ?_)))
 obtain⟨c,d,hF⟩:=bindb hF
 refine AWP.rg0 [(1,.call Tryz.func99 [] (Zlu a c d))] [(0,(slc 10 Za a)),(5,(vb c))] ?_
 refine AWP.cif hF (fun f hF=>?_) (fun f hF=>?_)
 ·refine AWP.seq (AWP.rg0 [] [(2,(slc 10 Za a)),(3,(i64 (0:Int)))] (AWP.ret ?_))
  have hr:=someb hF
  subst hr
  exact(FnQ.f0 0 (.inr rfl))
 ·refine AWP.skip (AWP.seq ?_)
  obtain⟨b,g,hF⟩:=bindb hF
  refine AWP.rg0 [(1,.call Tryz.func101 [] (Zmg a b g))] [(2,(slc 10 Za b.1)),(3,(i64 b.2))] (AWP.ret ?_)
  have hr:=someb hF
  subst hr
  exact(FnQ.f0 0 (.inr rfl))
def Zsr (r:Bool):PV→List Blk→Prop:=fun p K=>p=(vb r)∧K=[]
theorem Zmh (c:Bool) (a:Bool) (r:Bool) (hF:Zf8 c a=some r):ACall Tryz.prog glob 134 [(vb c),(vb a)] [] (Zsr r):=by
 refine ACall.body Tryz.func134 rfl (by kernel_rfl) ?_
 unfold Zf8 at hF
 refine AWP.seq (AWP.rg0 [] [(0,(vb c)),(1,(vb a))] (AWP.seq ?_))
 obtain⟨d,b,hF⟩:=bindb hF
 replace b:=someb b
 refine AWP.to [(4,(vb (d && a)))] [] ?_ ?_
 ·cases d with
  | false=>
   exact AWP.rgT [(1,.bool b)]
  | true=>
   exact AWP.rgT [(1,.bool b)]
 refine AWP.ret ?_
 have hr:=someb hF
 subst hr
 exact(FnQ.f0 0 (.inr rfl))
def Zfx (r:(ZL × Bool)):PV→List Blk→Prop:=fun p K=>p=(.tup [(slc 10 Za r.1),(vb r.2)])∧K=[]
abbrev Zh5 (r:(ZL × Bool)):Exit→St→List Blk→Prop:=FnQ Tryz.prog Tryz.f147.results 0 (Zfx r)
theorem Zkb:∀(nr:Nat) (a:Int) (d:ZL) (f:ZL) (g:Int) (r:(ZL × Bool)) (hF:Zal nr a d f g=some r),ACall Tryz.prog glob 147 [(i64 a),(slc 10 Za d),(slc 10 Za f),(.sc (.func (.func 134) #[] #[])),(i64 g)] [] (Zfx r):=by
 intro nr
 induction nr with
 | zero=>intro a d f g r hF; exact noneb (by rw [Zal] at hF; exact hF)
 | succ nr ih=>
  intro a d f g r hF
  refine ACall.body Tryz.func147 rfl (by kernel_rfl) ?_
  rw [Zal] at hF
  refine AWP.seq (AWP.rg0 [] [(0,(i64 a)),(1,(slc 10 Za d)),(2,(slc 10 Za f)),(3,(.sc (.func (.func 134) #[] #[]))),(4,(i64 g))] (AWP.seq (AWP.seq (AWP.rg0 [] [(0,(i64 a)),(1,(slc 10 Za d)),(2,(slc 10 Za f)),(3,(.sc (.func (.func 134) #[] #[]))),(4,(i64 g)),(26,(vb (a == (5:Int))))] ?_))))
  refine AWP.cif hF (fun c8 hF=>?_) (fun c8 hF=>?_)
  ·refine AWP.seq (AWP.seq ?_)
   obtain⟨b8,c9,hF⟩:=bindb hF
   refine AWP.rg0 [(2,.len Za d),(5,.len Za f),(7,.call Tryz.func134 [] (Zmh (decide ((List.length d:Int) > (0:Int))) (decide ((List.length f:Int) > (0:Int))) b8 c9))] [(34,(vb b8))] ?_
   refine AWP.cif hF (fun d0 hF=>?_) (fun d0 hF=>?_)
   ·refine AWP.seq (AWP.rg0 [] [(10,(slc 10 Za [(Arr5.mk Zq Zq Zq Zq Zq)])),(11,(vb true))] (AWP.ret ?_))
    have hr:=someb hF
    subst hr
    exact(FnQ.f0 0 (.inr rfl))
   ·refine AWP.skip (AWP.seq (AWP.rg0 [] [(10,nils),(11,(vb true))] (AWP.ret ?_)))
    have hr:=someb hF
    subst hr
    exact(FnQ.f1 0 (.inr rfl) (.inr ⟨_,_,rfl,rfl,(.cons _ _ _ _ (.nil 10) (.cons _ _ _ _ (.refl _) .nil))⟩))
  ·refine AWP.skip (AWP.seq (AWP.seq ?_))
   obtain⟨d1,b0,hF⟩:=bindb hF
   replace b0:=someb b0
   obtain⟨d2,b9,hF⟩:=bindb hF
   refine AWP.to [(0,(i64 a)),(1,(slc 10 Za d)),(2,(slc 10 Za f)),(3,(.sc (.func (.func 134) #[] #[]))),(4,(i64 g)),(47,(vb d2))] [] ?_ ?_
   ·cases d1 with
    | false=>
     have d3:=someb (ifF b9 rfl)
     subst d3
     exact AWP.rgT [(1,.len Za d),(3,.len Za f),(6,.bool b0)]
    | true=>
     have a3:=ifT b9 rfl
     obtain⟨d4,d5,a3⟩:=bindb a3
     replace a3:=someb a3
     subst a3
     exact AWP.rgT [(1,.len Za d),(3,.len Za f),(6,.bool b0),(8,.call Tryz.func134 [] (Zmh false false d4 d5))]
   refine AWP.cif hF (fun d6 hF=>?_) (fun d6 hF=>?_)
   ·refine AWP.seq (AWP.rg0 [] [(10,nils),(11,(vb true))] (AWP.ret ?_))
    have hr:=someb hF
    subst hr
    exact(FnQ.f1 0 (.inr rfl) (.inr ⟨_,_,rfl,rfl,(.cons _ _ _ _ (.nil 10) (.cons _ _ _ _ (.refl _) .nil))⟩))
   ·refine AWP.skip (AWP.seq (AWP.rg0 [] [(0,(i64 a)),(1,(slc 10 Za d)),(2,(slc 10 Za f)),(3,(.sc (.func (.func 134) #[] #[]))),(4,(i64 g)),(12,nils)] ?_))
    refine AWP.own (H':=[bf 3 157 Ze ([]:(List Zg)) false]) (st':=[(12,(.own 0 (List.length ([]:(List Zg))))),(0,(i64 a)),(1,(slc 10 Za d)),(2,(slc 10 Za f)),(3,(.sc (.func (.func 134) #[] #[]))),(4,(i64 g))]) 12 3 157 (by kernel_rfl) (by kernel_rfl) (by kernel_rfl) ?_
    refine AWP.pick (st':=[(0,(i64 a)),(1,(slc 10 Za d)),(2,(slc 10 Za f)),(3,(.sc (.func (.func 134) #[] #[]))),(4,(i64 g)),(12,(.own 0 (List.length ([]:(List Zg)))))]) (ks:=[0,1,2,3,4,12]) (by kernel_rfl) ?_
    refine AWP.seq (AWP.rg0 [] [(0,(i64 a)),(1,(slc 10 Za d)),(2,(slc 10 Za f)),(3,(.sc (.func (.func 134) #[] #[]))),(4,(i64 g)),(12,(.own 0 (List.length ([]:(List Zg))))),(13,(i64 (0:Int)))] (AWP.seq ?_))
    obtain⟨k,d7,hF⟩:=bindb hF
    refine AWP.rg0 [(4,.call Tryz.func151 [] (Zjz a [d,f] k d7))] [(0,(i64 a)),(1,(slc 10 Za d)),(2,(slc 10 Za f)),(3,(.sc (.func (.func 134) #[] #[]))),(4,(i64 g)),(12,(.own 0 (List.length ([]:(List Zg))))),(13,(i64 (0:Int))),(14,(slc 1 Zd k))] (AWP.seq (AWP.seq (AWP.rg0 [] [(0,(i64 a)),(1,(slc 10 Za d)),(2,(slc 10 Za f)),(3,(.sc (.func (.func 134) #[] #[]))),(4,(i64 g)),(12,(.own 0 (List.length ([]:(List Zg))))),(13,(i64 (0:Int))),(14,(slc 1 Zd k)),(15,(i64 (0:Int)))] ?_)))
    obtain⟨b2,d8,hF⟩:=bindb hF
    refine AWP.mid (fun e st H=>(e=.normal∧∃ c,∃ b3,b2=(.inl (c,b3))∧st=[(0,(i64 a)),(12,(.own 0 (List.length c))),(13,(i64 b3))]∧H=[bf 3 157 Ze c false])∨(e=.ret∧∃ r,b2=(.inr r)∧Zh5 r e st H)) ?_ ?_
    ·clear hF
     refine AWP.kp [0,1,2,3,4,12,13,14,15] 1 ?_
     refine AWP.bround (fun n st H=>∃ b,∃ o,∃ p,Zbu a d f g (Zal nr) k n b o p=some b2∧st=[(0,(i64 a)),(1,(slc 10 Za d)),(2,(slc 10 Za f)),(3,(.sc (.func (.func 134) #[] #[]))),(4,(i64 g)),(12,(.own 0 (List.length b))),(13,(i64 o)),(14,(slc 1 Zd k)),(15,(i64 p))]∧H=[bf 3 157 Ze b false]) fuel ⟨([]:(List Zg)),(0:Int),(0:Int),d8,by kernel_rfl,by kernel_rfl⟩ ?_
     rintro b4 st H ⟨b,o,p,hF,rfl,rfl⟩
     cases b4 with
     | zero=>exact noneb hF
     | succ b4=>
      rw [Zbu] at hF
      refine AWP.seq (AWP.seq (AWP.rg0 [(3,.len Zd k)] [(0,(i64 a)),(1,(slc 10 Za d)),(2,(slc 10 Za f)),(3,(.sc (.func (.func 134) #[] #[]))),(4,(i64 g)),(12,(.own 0 (List.length b))),(13,(i64 o)),(14,(slc 1 Zd k)),(15,(i64 p)),(57,(vb (decide ((ZI (p + (1:Int)))<(List.length k:Int)))))] ?_))
      refine AWP.cif hF (fun d9 hF=>?_) (fun d9 hF=>?_)
      ·refine AWP.skip ?_
       obtain⟨c0,e0,hF⟩:=bindb hF
       refine AWP.seq ?_
       refine AWP.mid (fun e st H=>(e=.normal∧∃ a2,∃ a4,c0=(.inl (a2,a4))∧st=[(0,(i64 a)),(1,(slc 10 Za d)),(2,(slc 10 Za f)),(3,(.sc (.func (.func 134) #[] #[]))),(4,(i64 g)),(12,(.own 0 (List.length a2))),(13,(i64 a4)),(14,(slc 1 Zd k)),(15,(i64 p))]∧H=[bf 3 157 Ze a2 false])∨(e=.ret∧∃ r,c0=(.inr r)∧Zh5 r e st H)) ?_ ?_
       ·clear hF
        have hF:=e0
        refine AWP.block (AWP.seq ?_)
        obtain⟨w,e1,hF⟩:=bindb hF
        obtain⟨u,e2,hF⟩:=bindb hF
        refine AWP.dr [(2,.idx Zd e1),(8,.idx Zd e2)] 14 [] [13] [] [(0,(i64 a)),(1,(slc 10 Za d)),(2,(slc 10 Za f)),(3,(.sc (.func (.func 134) #[] #[]))),(4,(i64 g)),(12,(.own 0 (List.length b))),(13,(i64 o)),(14,(slc 1 Zd k)),(15,(i64 p)),(16,(.ptr 1 0))] [bf 3 157 Ze b false,.cells (Zk (Zb.mk (IntKind.wrap .u32 w) (IntKind.wrap .u32 (IntKind.wrap .u64 (u - (1:Int))))))] (AWP.seq ?_)
        obtain⟨c1,e3,hF⟩:=bindb hF
        obtain⟨c2,e4,hF⟩:=bindb hF
        obtain⟨m,e5,hF⟩:=bindb hF
        refine AWP.dr [(6,.call Tryz.func152 [] (Zej d a (IntKind.wrap .u32 w) c1 e3)),(11,.call Tryz.func152 [] (Zej f a (IntKind.wrap .u32 w) c2 e4)),(14,.call Tryz.func147 [] (ih (ZI (a + (1:Int))) c1 c2 g m e5))] 19 [] [] [] [(0,(i64 a)),(1,(slc 10 Za d)),(2,(slc 10 Za f)),(3,(.sc (.func (.func 134) #[] #[]))),(4,(i64 g)),(12,(.own 0 (List.length b))),(13,(i64 o)),(14,(slc 1 Zd k)),(15,(i64 p)),(16,(.ptr 1 0)),(17,(slc 10 Za m.1)),(18,(vb m.2))] [bf 3 157 Ze b false,.cells (Zk (Zb.mk (IntKind.wrap .u32 w) (IntKind.wrap .u32 (IntKind.wrap .u64 (u - (1:Int))))))] (AWP.seq (AWP.seq (AWP.rg0 [] [(0,(i64 a)),(1,(slc 10 Za d)),(2,(slc 10 Za f)),(3,(.sc (.func (.func 134) #[] #[]))),(4,(i64 g)),(12,(.own 0 (List.length b))),(13,(i64 o)),(14,(slc 1 Zd k)),(15,(i64 p)),(16,(.ptr 1 0)),(17,(slc 10 Za m.1)),(92,(vb (!m.2)))] ?_)))
        refine AWP.cif hF (fun e6 hF=>?_) (fun e6 hF=>?_)
        ·refine AWP.seq (AWP.rg0 [] [(10,nils),(11,(vb false))] (AWP.ret ?_))
         exact LeQ.of (.inr ⟨rfl,(([]:ZL),false),(someb hF).symm,(FnQ.f1 0 (.inr rfl) (.inr ⟨_,_,rfl,rfl,(.cons _ _ _ _ (.nil 10) (.cons _ _ _ _ (.refl _) .nil))⟩))⟩)
        ·refine AWP.skip (AWP.seq (AWP.seq (AWP.rg0 [(1,.len Za m.1)] [(0,(i64 a)),(1,(slc 10 Za d)),(2,(slc 10 Za f)),(3,(.sc (.func (.func 134) #[] #[]))),(4,(i64 g)),(12,(.own 0 (List.length b))),(13,(i64 o)),(14,(slc 1 Zd k)),(15,(i64 p)),(16,(.ptr 1 0)),(17,(slc 10 Za m.1)),(95,(vb ((List.length m.1:Int) == (0:Int))))] ?_)))
         refine AWP.cif hF (fun e7 hF=>?_) (fun e7 hF=>?_)
         ·refine AWP.exit (LeQ.start (LeQ.pk [0,1,2,3,4,12,13,14,15] 1 ?_))
          exact(.inl ⟨rfl,b,o,(someb hF).symm,by kernel_rfl,by kernel_rfl⟩)
         ·refine AWP.skip (AWP.seq (AWP.seq (AWP.rg0 [(1,.len Ze b)] [(0,(i64 a)),(1,(slc 10 Za d)),(2,(slc 10 Za f)),(3,(.sc (.func (.func 134) #[] #[]))),(4,(i64 g)),(12,(.own 0 (List.length b))),(13,(i64 o)),(14,(slc 1 Zd k)),(15,(i64 p)),(16,(.ptr 1 0)),(17,(slc 10 Za m.1)),(19,(i64 (List.length b:Int)))] (AWP.seq ?_))))
          obtain⟨e8,a5,hF⟩:=bindb hF
          replace a5:=someb a5
          obtain⟨h1,c3,hF⟩:=bindb hF
          obtain⟨e9,a6,hF⟩:=bindb hF
          replace a6:=someb a6
          obtain⟨f2,b5,hF⟩:=bindb hF
          refine AWP.to [(0,(i64 a)),(1,(slc 10 Za d)),(2,(slc 10 Za f)),(3,(.sc (.func (.func 134) #[] #[]))),(4,(i64 g)),(12,(.own 0 (List.length b))),(13,(i64 o)),(14,(slc 1 Zd k)),(15,(i64 p)),(16,(.ptr 1 0)),(17,(slc 10 Za m.1)),(19,(i64 (List.length b:Int))),(122,(vb f2))] [bf 3 157 Ze b false,.cells (Zk (Zb.mk (IntKind.wrap .u32 w) (IntKind.wrap .u32 (IntKind.wrap .u64 (u - (1:Int))))))] ?_ ?_
          ·cases e8 with
           | false=>
            have f3:=someb (ifF c3 rfl)
            subst f3
            subst a6
            have f4:=someb (ifF b5 rfl)
            subst f4
            exact AWP.drT [(2,.bool a5)] 25 [] [] []
           | true=>
            have a7:=ifT c3 rfl
            obtain⟨h2,b1,a7⟩:=bindb a7
            replace a7:=someb a7
            subst a7
            cases e9 with
            | false=>
             have f5:=someb (ifF b5 rfl)
             subst f5
             exact AWP.drT [(2,.bool a5),(6,.idx Ze b1),(7,.fdE Ze b (ZI ((List.length b:Int) - (1:Int)))),(8,.fdE Ze b (ZI ((List.length b:Int) - (1:Int)))),(9,.ldE Ze b1),(15,.bool a6)] 25 [] [] []
            | true=>
             have a1:=ifT b5 rfl
             obtain⟨f6,c4,a1⟩:=bindb a1
             obtain⟨f7,f8,a1⟩:=bindb a1
             replace a1:=someb a1
             subst a1
             exact AWP.drT [(2,.bool a5),(6,.idx Ze b1),(7,.fdE Ze b (ZI ((List.length b:Int) - (1:Int)))),(8,.fdE Ze b (ZI ((List.length b:Int) - (1:Int)))),(9,.ldE Ze b1),(15,.bool a6),(19,.idx Ze c4),(20,.fdE Ze b (ZI ((List.length b:Int) - (1:Int)))),(21,.ldE Ze c4),(23,.call Tryz.func146 [] (Zd5 f6.f_rest m.1 f7 f8))] 25 [] [] []
          refine AWP.cif hF (fun f9 hF=>?_) (fun f9 hF=>?_)
          ·refine AWP.seq ?_
           obtain⟨z,c5,hF⟩:=bindb hF
           refine AWP.rg [(5,.idx Ze c5),(6,.fdE Ze b (ZI ((List.length b:Int) - (1:Int)))),(7,.fdE Ze b (ZI ((List.length b:Int) - (1:Int)))),(8,.stE Ze c5 ({ z with f_values:=({ z.f_values with Hi:=(IntKind.wrap .u32 (IntKind.wrap .u64 (u - (1:Int)))) }:Zb) }:Zg))] [(0,(i64 a)),(1,(slc 10 Za d)),(2,(slc 10 Za f)),(3,(.sc (.func (.func 134) #[] #[]))),(4,(i64 g)),(12,(.own 0 (List.length b))),(13,(i64 o)),(14,(slc 1 Zd k)),(15,(i64 p))] [bf 3 157 Ze (List.set b (Int.toNat (ZI ((List.length b:Int) - (1:Int)))) ({ z with f_values:=({ z.f_values with Hi:=(IntKind.wrap .u32 (IntKind.wrap .u64 (u - (1:Int)))) }:Zb) }:Zg)) false,.cells (Zk (Zb.mk (IntKind.wrap .u32 w) (IntKind.wrap .u32 (IntKind.wrap .u64 (u - (1:Int))))))] ?_
           rw [show ([(0,(i64 a)),(1,(slc 10 Za d)),(2,(slc 10 Za f)),(3,(.sc (.func (.func 134) #[] #[]))),(4,(i64 g)),(12,(.own 0 (List.length b))),(13,(i64 o)),(14,(slc 1 Zd k)),(15,(i64 p))]:St)=[(0,(i64 a)),(1,(slc 10 Za d)),(2,(slc 10 Za f)),(3,(.sc (.func (.func 134) #[] #[]))),(4,(i64 g)),(12,(.own 0 (List.length (List.set b (Int.toNat (ZI ((List.length b:Int) - (1:Int)))) ({ z with f_values:=({ z.f_values with Hi:=(IntKind.wrap .u32 (IntKind.wrap .u64 (u - (1:Int)))) }:Zb) }:Zg))))),(13,(i64 o)),(14,(slc 1 Zd k)),(15,(i64 p))] by simp only [List.length_set]]
           refine AWP.exit (LeQ.start (LeQ.pk [0,1,2,3,4,12,13,14,15] 1 ?_))
           exact(.inl ⟨rfl,(List.set b (Int.toNat (ZI ((List.length b:Int) - (1:Int)))) ({ z with f_values:=({ z.f_values with Hi:=(IntKind.wrap .u32 (IntKind.wrap .u64 (u - (1:Int)))) }:Zb) }:Zg)),o,(someb hF).symm,by kernel_rfl,by kernel_rfl⟩)
          ·refine AWP.skip (AWP.seq ?_)
           obtain⟨g0,hF⟩:=chkb hF
           refine AWP.rg [(5,.app Ze (fun _=>by kernel_rfl) g0)] [(0,(i64 a)),(1,(slc 10 Za d)),(2,(slc 10 Za f)),(3,(.sc (.func (.func 134) #[] #[]))),(4,(i64 g)),(12,(.own 0 (List.length (b++[(Zg.mk (Zb.mk (IntKind.wrap .u32 w) (IntKind.wrap .u32 (IntKind.wrap .u64 (u - (1:Int))))) m.1)])))),(13,(i64 o)),(14,(slc 1 Zd k)),(15,(i64 p)),(17,(slc 10 Za m.1))] [bf 3 157 Ze (b++[(Zg.mk (Zb.mk (IntKind.wrap .u32 w) (IntKind.wrap .u32 (IntKind.wrap .u64 (u - (1:Int))))) m.1)]) false,.cells (Zk (Zb.mk (IntKind.wrap .u32 w) (IntKind.wrap .u32 (IntKind.wrap .u64 (u - (1:Int))))))] (AWP.seq (AWP.rg0 [(2,.len Za m.1)] [(0,(i64 a)),(1,(slc 10 Za d)),(2,(slc 10 Za f)),(3,(.sc (.func (.func 134) #[] #[]))),(4,(i64 g)),(12,(.own 0 (List.length (b++[(Zg.mk (Zb.mk (IntKind.wrap .u32 w) (IntKind.wrap .u32 (IntKind.wrap .u64 (u - (1:Int))))) m.1)])))),(13,(i64 (ZI (o + (List.length m.1:Int))))),(14,(slc 1 Zd k)),(15,(i64 p))] (AWP.seq (AWP.rg0 [] [(0,(i64 a)),(1,(slc 10 Za d)),(2,(slc 10 Za f)),(3,(.sc (.func (.func 134) #[] #[]))),(4,(i64 g)),(12,(.own 0 (List.length (b++[(Zg.mk (Zb.mk (IntKind.wrap .u32 w) (IntKind.wrap .u32 (IntKind.wrap .u64 (u - (1:Int))))) m.1)])))),(13,(i64 (ZI (o + (List.length m.1:Int))))),(14,(slc 1 Zd k)),(15,(i64 p)),(143,(vb (decide ((ZI (o + (List.length m.1:Int))) > g))))] ?_))))
           refine AWP.cif hF (fun g1 hF=>?_) (fun g1 hF=>?_)
           ·refine AWP.seq (AWP.rg0 [] [(10,nils),(11,(vb false))] (AWP.ret ?_))
            exact LeQ.of (.inr ⟨rfl,(([]:ZL),false),(someb hF).symm,(FnQ.f1 0 (.inr rfl) (.inr ⟨_,_,rfl,rfl,(.cons _ _ _ _ (.nil 10) (.cons _ _ _ _ (.refl _) .nil))⟩))⟩)
           ·refine AWP.skip (LeQ.start (LeQ.pk [0,1,2,3,4,12,13,14,15] 1 ?_))
            exact(.inl ⟨rfl,(b++[(Zg.mk (Zb.mk (IntKind.wrap .u32 w) (IntKind.wrap .u32 (IntKind.wrap .u64 (u - (1:Int))))) m.1)]),(ZI (o + (List.length m.1:Int))),(someb hF).symm,by kernel_rfl,by kernel_rfl⟩)
       ·rintro _ _ _ (⟨rfl,a2,a4,rfl,rfl,rfl⟩ | ⟨rfl,g2,rfl,hq⟩)
        ·refine AWP.rg0 [] [(0,(i64 a)),(1,(slc 10 Za d)),(2,(slc 10 Za f)),(3,(.sc (.func (.func 134) #[] #[]))),(4,(i64 g)),(12,(.own 0 (List.length a2))),(13,(i64 a4)),(14,(slc 1 Zd k)),(15,(i64 (ZI (p + (1:Int)))))] (LeQ.start (LeQ.pk [0,1,2,3,4,12,13,14,15] 1 ?_))
         exact⟨b4,Nat.lt_succ_self _,a2,a4,(ZI (p + (1:Int))),hF,by kernel_rfl,by kernel_rfl⟩
        ·exact LeQ.of (.inr ⟨rfl,g2,(someb hF).symm,hq⟩)
      ·refine AWP.exit (LeQ.start (LeQ.pk [0,12,13] 1 ?_))
       exact(.inl ⟨rfl,b,o,(someb hF).symm,by kernel_rfl,by kernel_rfl⟩)
    ·rintro _ _ _ (⟨rfl,c,b3,rfl,rfl,rfl⟩ | ⟨rfl,h3,rfl,hq⟩)
     ·refine AWP.seq ?_
      obtain⟨g3,hF⟩:=chkb hF
      refine AWP.rg [(1,.mk0 Za g3)] [(0,(i64 a)),(12,(.own 0 (List.length c))),(20,(.own 1 (List.length ([]:ZL))))] [bf 3 157 Ze c false,bf 10 57 Za ([]:ZL) false] (AWP.seq (AWP.seq (AWP.rg0 [(1,.len Ze c)] [(0,(i64 a)),(20,(.own 1 (List.length ([]:ZL)))),(146,(.own 0 (List.length c))),(147,(i64 (List.length c:Int))),(148,(i64 (0:Int)))] ?_)))
      obtain⟨a8,g4,hF⟩:=bindb hF
      refine AWP.mid (fun e st H=>e=.normal∧st=[(20,(.own 1 (List.length a8)))]∧H=[bf 3 157 Ze c false,bf 10 57 Za a8 false]) ?_ ?_
      ·clear hF
       refine AWP.kp [0,20,146,147,148] 2 ?_
       refine AWP.bround (fun n st H=>∃ y,∃ q,Zbw a c n y q=some a8∧st=[(0,(i64 a)),(20,(.own 1 (List.length y))),(146,(.own 0 (List.length c))),(147,(i64 (List.length c:Int))),(148,(i64 q))]∧H=[bf 3 157 Ze c false,bf 10 57 Za y false]) fuel ⟨([]:ZL),(0:Int),g4,by kernel_rfl,by kernel_rfl⟩ ?_
       rintro b6 st H ⟨y,q,hF,rfl,rfl⟩
       cases b6 with
       | zero=>exact noneb hF
       | succ b6=>
        rw [Zbw] at hF
        refine AWP.seq (AWP.rg0 [] [(0,(i64 a)),(20,(.own 1 (List.length y))),(146,(.own 0 (List.length c))),(147,(i64 (List.length c:Int))),(148,(i64 q)),(149,(vb (decide (q<(List.length c:Int)))))] (AWP.seq ?_))
        refine AWP.cif hF (fun g5 hF=>?_) (fun g5 hF=>?_)
        ·refine AWP.skip (AWP.seq (AWP.block (AWP.seq ?_)))
         obtain⟨j,c6,hF⟩:=bindb hF
         refine AWP.rg [(0,.idx Ze c6),(1,.ldE Ze c6)] [(0,(i64 a)),(20,(.own 1 (List.length y))),(22,(.ptr 2 0)),(146,(.own 0 (List.length c))),(147,(i64 (List.length c:Int))),(148,(i64 q))] [bf 3 157 Ze c false,bf 10 57 Za y false,.cells (Ze j)] (AWP.seq (AWP.rg0 [(2,.len Za j.f_rest)] [(0,(i64 a)),(20,(.own 1 (List.length y))),(22,(.ptr 2 0)),(146,(.own 0 (List.length c))),(147,(i64 (List.length c:Int))),(148,(i64 q)),(153,(slc 10 Za j.f_rest)),(154,(i64 (List.length j.f_rest:Int))),(155,(i64 (0:Int)))] ?_))
         obtain⟨a9,g6,hF⟩:=bindb hF
         refine AWP.mid (fun e st H=>e=.normal∧st=[(0,(i64 a)),(20,(.own 1 (List.length a9))),(146,(.own 0 (List.length c))),(147,(i64 (List.length c:Int))),(148,(i64 q))]∧H=[bf 3 157 Ze c false,bf 10 57 Za a9 false,.cells (Ze j)]) ?_ ?_
         ·clear hF
          refine AWP.kp [0,20,22,146,147,148,153,154,155] 3 ?_
          refine AWP.bround (fun n st H=>∃ v,∃ x,Zbv a j n v x=some a9∧st=[(0,(i64 a)),(20,(.own 1 (List.length v))),(22,(.ptr 2 0)),(146,(.own 0 (List.length c))),(147,(i64 (List.length c:Int))),(148,(i64 q)),(153,(slc 10 Za j.f_rest)),(154,(i64 (List.length j.f_rest:Int))),(155,(i64 x))]∧H=[bf 3 157 Ze c false,bf 10 57 Za v false,.cells (Ze j)]) fuel ⟨y,(0:Int),g6,by kernel_rfl,by kernel_rfl⟩ ?_
          rintro b7 st H ⟨v,x,hF,rfl,rfl⟩
          cases b7 with
          | zero=>exact noneb hF
          | succ b7=>
           rw [Zbv] at hF
           refine AWP.seq (AWP.rg0 [] [(0,(i64 a)),(20,(.own 1 (List.length v))),(22,(.ptr 2 0)),(146,(.own 0 (List.length c))),(147,(i64 (List.length c:Int))),(148,(i64 q)),(153,(slc 10 Za j.f_rest)),(154,(i64 (List.length j.f_rest:Int))),(155,(i64 x)),(156,(vb (decide (x<(List.length j.f_rest:Int)))))] (AWP.seq ?_))
           refine AWP.cif hF (fun g7 hF=>?_) (fun g7 hF=>?_)
           ·refine AWP.skip (AWP.seq (AWP.block (AWP.seq ?_)))
            obtain⟨a0,g8,hF⟩:=bindb hF
            refine AWP.rg [(0,.idx Za g8)] [(0,(i64 a)),(20,(.own 1 (List.length v))),(22,(.ptr 2 0)),(24,(.ptr 3 0)),(146,(.own 0 (List.length c))),(147,(i64 (List.length c:Int))),(148,(i64 q)),(153,(slc 10 Za j.f_rest)),(154,(i64 (List.length j.f_rest:Int))),(155,(i64 x))] [bf 3 157 Ze c false,bf 10 57 Za v false,.cells (Ze j),.cells (Za a0)] (AWP.seq ?_)
            obtain⟨c7,hF⟩:=chkb hF
            refine AWP.rg [(3,.ixd c7),(4,.stA (fun g9=>Za (Arr5.set a0 g9 j.f_values)) 0 2 0 c7)] [(0,(i64 a)),(20,(.own 1 (List.length v))),(22,(.ptr 2 0)),(24,(.ptr 3 0)),(146,(.own 0 (List.length c))),(147,(i64 (List.length c:Int))),(148,(i64 q)),(153,(slc 10 Za j.f_rest)),(154,(i64 (List.length j.f_rest:Int))),(155,(i64 x))] [bf 3 157 Ze c false,bf 10 57 Za v false,.cells (Ze j),.cells (Za (Arr5.set a0 a j.f_values))] ?_
            obtain⟨h0,hF⟩:=chkb hF
            refine AWP.rg [(3,.app Za (fun _=>by kernel_rfl) h0)] [(0,(i64 a)),(20,(.own 1 (List.length (v++[(Arr5.set a0 a j.f_values)])))),(22,(.ptr 2 0)),(146,(.own 0 (List.length c))),(147,(i64 (List.length c:Int))),(148,(i64 q)),(153,(slc 10 Za j.f_rest)),(154,(i64 (List.length j.f_rest:Int))),(155,(i64 x))] [bf 3 157 Ze c false,bf 10 57 Za (v++[(Arr5.set a0 a j.f_values)]) false,.cells (Ze j),.cells (Za (Arr5.set a0 a j.f_values))] (AWP.rg0 [] [(0,(i64 a)),(20,(.own 1 (List.length (v++[(Arr5.set a0 a j.f_values)])))),(22,(.ptr 2 0)),(146,(.own 0 (List.length c))),(147,(i64 (List.length c:Int))),(148,(i64 q)),(153,(slc 10 Za j.f_rest)),(154,(i64 (List.length j.f_rest:Int))),(155,(i64 (ZI (x + (1:Int)))))] (LeQ.start (LeQ.pk [0,20,22,146,147,148,153,154,155] 3 ?_)))
            exact⟨b7,Nat.lt_succ_self _,(v++[(Arr5.set a0 a j.f_values)]),(ZI (x + (1:Int))),hF,by kernel_rfl,by kernel_rfl⟩
           ·refine AWP.exit (LeQ.start (LeQ.pk [0,20,146,147,148] 3 ?_))
            have hr:=someb hF
            subst hr
            exact⟨rfl,by kernel_rfl,by kernel_rfl⟩
         ·rintro _ _ _ ⟨rfl,rfl,rfl⟩
          refine AWP.rg0 [] [(0,(i64 a)),(20,(.own 1 (List.length a9))),(146,(.own 0 (List.length c))),(147,(i64 (List.length c:Int))),(148,(i64 (ZI (q + (1:Int)))))] (LeQ.start (LeQ.pk [0,20,146,147,148] 2 ?_))
          exact⟨b6,Nat.lt_succ_self _,a9,(ZI (q + (1:Int))),hF,by kernel_rfl,by kernel_rfl⟩
        ·refine AWP.exit (LeQ.start (LeQ.pk [20] 2 ?_))
         have hr:=someb hF
         subst hr
         exact⟨rfl,by kernel_rfl,by kernel_rfl⟩
      ·rintro _ _ _ ⟨rfl,rfl,rfl⟩
       refine AWP.seq (AWP.rg0 [] [(10,(.own 1 (List.length a8))),(11,(vb true))] (AWP.ret ?_))
       have hr:=someb hF
       subst hr
       exact(FnQ.f1 0 (.inr rfl) (.inr ⟨_,_,rfl,rfl,(.cons _ _ _ _ (Wk.ownT (i:=1) (s:=10) (t:=57) (l:=a8) (sh:=false) (row:=Za) (by kernel_rfl) (.inl rfl)) (.cons _ _ _ _ (.refl _) .nil))⟩))
     ·have hr:=someb hF
      subst hr
      exact hq
theorem Zk1 (a:Int) (b:ZL) (c:ZL) (d:Int) (r:(ZL × Bool)) (hF:Zal fuel a b c d=some r):ACall Tryz.prog glob 147 [(i64 a),(slc 10 Za b),(slc 10 Za c),(.sc (.func (.func 134) #[] #[])),(i64 d)] [] (Zfx r):=Zkb fuel a b c d r hF
def Zll (r:(ZL × Int)):PV→List Blk→Prop:=fun p K=>p=(.tup [(slc 10 Za r.1),(i64 r.2)])∧K=[]
theorem Zlm (b:ZL) (c:ZL) (r:(ZL × Int)) (hF:Zdi b c=some r):ACall Tryz.prog glob 131 [(slc 10 Za b),(slc 10 Za c),(.sc (.func (.func 134) #[] #[]))] [] (Zll r):=by
 refine ACall.body Tryz.func131 rfl (by kernel_rfl) ?_
 unfold Zdi at hF
 refine AWP.seq (AWP.rg0 [] [(0,(slc 10 Za b)),(1,(slc 10 Za c)),(2,(.sc (.func (.func 134) #[] #[])))] (AWP.seq ?_))
 obtain⟨a,d,hF⟩:=bindb hF
 refine AWP.rg0 [(3,.call Tryz.func147 [] (Zk1 (0:Int) b c (4096:Int) a d))] [(8,(slc 10 Za a.1)),(9,(vb a.2))] (AWP.seq (AWP.seq (AWP.rg0 [] [(8,(slc 10 Za a.1)),(18,(vb (!a.2)))] ?_)))
 refine AWP.cif hF (fun f hF=>?_) (fun f hF=>?_)
 ·refine AWP.seq (AWP.rg0 [] [(6,nils),(7,(i64 (3:Int)))] (AWP.ret ?_))
  have hr:=someb hF
  subst hr
  exact(FnQ.f1 0 (.inr rfl) (.inr ⟨_,_,rfl,rfl,(.cons _ _ _ _ (.nil 10) (.cons _ _ _ _ (.refl _) .nil))⟩))
 ·refine AWP.skip (AWP.seq (AWP.rg0 [] [(6,(slc 10 Za a.1)),(7,(i64 (0:Int)))] (AWP.ret ?_)))
  have hr:=someb hF
  subst hr
  exact(FnQ.f0 0 (.inr rfl))
def Zni (r:(ZL × Int)):PV→List Blk→Prop:=fun p K=>p=(.tup [(slc 10 Za r.1),(i64 r.2)])∧K=[]
theorem Znj (d:ZL) (c:ZL) (r:(ZL × Int)) (hF:Zgb d c=some r):ACall Tryz.prog glob 133 [(slc 10 Za d),(slc 10 Za c),(.sc (.func (.func 134) #[] #[]))] [] (Zni r):=by
 refine ACall.body Tryz.func133 rfl (by kernel_rfl) ?_
 unfold Zgb at hF
 refine AWP.seq (AWP.rg0 [] [(0,(slc 10 Za d)),(1,(slc 10 Za c)),(2,(.sc (.func (.func 134) #[] #[])))] (AWP.seq ?_))
 obtain⟨a,g,hF⟩:=bindb hF
 refine AWP.rg0 [(1,.call Tryz.func140 [] (Zfs d a g))] [(1,(slc 10 Za c)),(2,(.sc (.func (.func 134) #[] #[]))),(8,(slc 10 Za a.1)),(9,(i64 a.2))] (AWP.seq (AWP.seq (AWP.rg0 [] [(1,(slc 10 Za c)),(2,(.sc (.func (.func 134) #[] #[]))),(8,(slc 10 Za a.1)),(9,(i64 a.2)),(17,(vb (a.2 != (0:Int))))] ?_)))
 refine AWP.cif hF (fun i hF=>?_) (fun i hF=>?_)
 ·refine AWP.seq (AWP.rg0 [] [(6,nils),(7,(i64 a.2))] (AWP.ret ?_))
  have hr:=someb hF
  subst hr
  exact(FnQ.f1 0 (.inr rfl) (.inr ⟨_,_,rfl,rfl,(.cons _ _ _ _ (.nil 10) (.cons _ _ _ _ (.refl _) .nil))⟩))
 ·refine AWP.skip (AWP.seq ?_)
  obtain⟨b,j,hF⟩:=bindb hF
  refine AWP.rg0 [(1,.call Tryz.func140 [] (Zfs c b j))] [(2,(.sc (.func (.func 134) #[] #[]))),(8,(slc 10 Za a.1)),(9,(i64 b.2)),(10,(slc 10 Za b.1))] (AWP.seq (AWP.seq (AWP.rg0 [] [(2,(.sc (.func (.func 134) #[] #[]))),(8,(slc 10 Za a.1)),(9,(i64 b.2)),(10,(slc 10 Za b.1)),(25,(vb (b.2 != (0:Int))))] ?_)))
  refine AWP.cif hF (fun k hF=>?_) (fun k hF=>?_)
  ·refine AWP.seq (AWP.rg0 [] [(6,nils),(7,(i64 b.2))] (AWP.ret ?_))
   have hr:=someb hF
   subst hr
   exact(FnQ.f1 0 (.inr rfl) (.inr ⟨_,_,rfl,rfl,(.cons _ _ _ _ (.nil 10) (.cons _ _ _ _ (.refl _) .nil))⟩))
  ·refine AWP.skip (AWP.seq ?_)
   obtain⟨f,l,hF⟩:=bindb hF
   refine AWP.rg0 [(3,.call Tryz.func131 [] (Zlm a.1 b.1 f l))] [(6,(slc 10 Za f.1)),(7,(i64 f.2))] (AWP.ret ?_)
   have hr:=someb hF
   subst hr
   exact(FnQ.f0 0 (.inr rfl))
def Zn8 (r:(ZL × Int)):PV→List Blk→Prop:=fun p K=>p=(.tup [(slc 10 Za r.1),(i64 r.2)])∧K=[]
theorem Zn9 (a:ZL) (b:ZL) (r:(ZL × Int)) (hF:Ze9 a b=some r):ACall Tryz.prog glob 104 [(slc 10 Za a),(slc 10 Za b)] [] (Zn8 r):=by
 refine ACall.body Tryz.func104 rfl (by kernel_rfl) ?_
 unfold Ze9 at hF
 refine AWP.seq (AWP.rg0 [] [(0,(slc 10 Za a)),(1,(slc 10 Za b))] (AWP.seq ?_))
 obtain⟨c,d,hF⟩:=bindb hF
 refine AWP.rg0 [(2,.call Tryz.func133 [] (Znj a b c d))] [(4,(slc 10 Za c.1)),(5,(i64 c.2))] (AWP.ret ?_)
 have hr:=someb hF
 subst hr
 exact(FnQ.f0 0 (.inr rfl))
def Zlr (r:(ZL × Zj)):PV→List Blk→Prop:=fun p K=>p=(slc 10 Za r.1)∧K=[.cells (Zl r.2)]
theorem Zdq (c:Zj) (a:ZL) (b:ZL) (r:(ZL × Zj)) (hF:Za8 c a b=some r):ACall Tryz.prog glob 57 [(.ptr 0 0),(slc 10 Za a),(slc 10 Za b)] [.cells (Zl c)] (Zlr r):=by
 refine ACall.body Tryz.func57 rfl (by kernel_rfl) ?_
 unfold Za8 at hF
 refine AWP.seq (AWP.rg0 [] [(0,(.ptr 0 0)),(1,(slc 10 Za a)),(2,(slc 10 Za b))] (AWP.seq ?_))
 obtain⟨d,g,hF⟩:=bindb hF
 obtain⟨f,i,hF⟩:=bindb hF
 refine AWP.rg [(3,.call Tryz.func104 [] (Zn9 a b d g)),(6,.call Tryz.func100 [] (Zfc c d.1 d.2 f i))] [(6,(slc 10 Za f.1))] [.cells (Zl f.2)] (AWP.ret ?_)
 have hr:=someb hF
 subst hr
 exact(FnQ.f0 1 (.inr rfl))
def Zpn (r:Bool):PV→List Blk→Prop:=fun p K=>p=(vb r)∧K=[]
theorem Zk4 (c:Bool) (a:Bool) (r:Bool) (hF:Zev c a=some r):ACall Tryz.prog glob 135 [(vb c),(vb a)] [] (Zpn r):=by
 refine ACall.body Tryz.func135 rfl (by kernel_rfl) ?_
 unfold Zev at hF
 refine AWP.seq (AWP.rg0 [] [(0,(vb c)),(1,(vb a))] (AWP.seq ?_))
 obtain⟨d,b,hF⟩:=bindb hF
 replace b:=someb b
 refine AWP.to [(4,(vb (d && (!a))))] [] ?_ ?_
 ·cases d with
  | false=>
   exact AWP.rgT [(1,.bool b)]
  | true=>
   exact AWP.rgT [(1,.bool b)]
 refine AWP.ret ?_
 have hr:=someb hF
 subst hr
 exact(FnQ.f0 0 (.inr rfl))
def Ze3 (r:(ZL × Bool)):PV→List Blk→Prop:=fun p K=>p=(.tup [(slc 10 Za r.1),(vb r.2)])∧K=[]
abbrev Zhi (r:(ZL × Bool)):Exit→St→List Blk→Prop:=FnQ Tryz.prog Tryz.f147.results 0 (Ze3 r)
theorem Zjn:∀(nr:Nat) (a:Int) (d:ZL) (f:ZL) (g:Int) (r:(ZL × Bool)) (hF:Zaf nr a d f g=some r),ACall Tryz.prog glob 147 [(i64 a),(slc 10 Za d),(slc 10 Za f),(.sc (.func (.func 135) #[] #[])),(i64 g)] [] (Ze3 r):=by
 intro nr
 induction nr with
 | zero=>intro a d f g r hF; exact noneb (by rw [Zaf] at hF; exact hF)
 | succ nr ih=>
  intro a d f g r hF
  refine ACall.body Tryz.func147 rfl (by kernel_rfl) ?_
  rw [Zaf] at hF
  refine AWP.seq (AWP.rg0 [] [(0,(i64 a)),(1,(slc 10 Za d)),(2,(slc 10 Za f)),(3,(.sc (.func (.func 135) #[] #[]))),(4,(i64 g))] (AWP.seq (AWP.seq (AWP.rg0 [] [(0,(i64 a)),(1,(slc 10 Za d)),(2,(slc 10 Za f)),(3,(.sc (.func (.func 135) #[] #[]))),(4,(i64 g)),(26,(vb (a == (5:Int))))] ?_))))
  refine AWP.cif hF (fun c8 hF=>?_) (fun c8 hF=>?_)
  ·refine AWP.seq (AWP.seq ?_)
   obtain⟨b8,c9,hF⟩:=bindb hF
   refine AWP.rg0 [(2,.len Za d),(5,.len Za f),(7,.call Tryz.func135 [] (Zk4 (decide ((List.length d:Int) > (0:Int))) (decide ((List.length f:Int) > (0:Int))) b8 c9))] [(34,(vb b8))] ?_
   refine AWP.cif hF (fun d0 hF=>?_) (fun d0 hF=>?_)
   ·refine AWP.seq (AWP.rg0 [] [(10,(slc 10 Za [(Arr5.mk Zq Zq Zq Zq Zq)])),(11,(vb true))] (AWP.ret ?_))
    have hr:=someb hF
    subst hr
    exact(FnQ.f0 0 (.inr rfl))
   ·refine AWP.skip (AWP.seq (AWP.rg0 [] [(10,nils),(11,(vb true))] (AWP.ret ?_)))
    have hr:=someb hF
    subst hr
    exact(FnQ.f1 0 (.inr rfl) (.inr ⟨_,_,rfl,rfl,(.cons _ _ _ _ (.nil 10) (.cons _ _ _ _ (.refl _) .nil))⟩))
  ·refine AWP.skip (AWP.seq (AWP.seq ?_))
   obtain⟨d1,b0,hF⟩:=bindb hF
   replace b0:=someb b0
   obtain⟨d2,b9,hF⟩:=bindb hF
   refine AWP.to [(0,(i64 a)),(1,(slc 10 Za d)),(2,(slc 10 Za f)),(3,(.sc (.func (.func 135) #[] #[]))),(4,(i64 g)),(47,(vb d2))] [] ?_ ?_
   ·cases d1 with
    | false=>
     have d3:=someb (ifF b9 rfl)
     subst d3
     exact AWP.rgT [(1,.len Za d),(3,.len Za f),(6,.bool b0)]
    | true=>
     have a3:=ifT b9 rfl
     obtain⟨d4,d5,a3⟩:=bindb a3
     replace a3:=someb a3
     subst a3
     exact AWP.rgT [(1,.len Za d),(3,.len Za f),(6,.bool b0),(8,.call Tryz.func135 [] (Zk4 false false d4 d5))]
   refine AWP.cif hF (fun d6 hF=>?_) (fun d6 hF=>?_)
   ·refine AWP.seq (AWP.rg0 [] [(10,nils),(11,(vb true))] (AWP.ret ?_))
    have hr:=someb hF
    subst hr
    exact(FnQ.f1 0 (.inr rfl) (.inr ⟨_,_,rfl,rfl,(.cons _ _ _ _ (.nil 10) (.cons _ _ _ _ (.refl _) .nil))⟩))
   ·refine AWP.skip (AWP.seq (AWP.rg0 [] [(0,(i64 a)),(1,(slc 10 Za d)),(2,(slc 10 Za f)),(3,(.sc (.func (.func 135) #[] #[]))),(4,(i64 g)),(12,nils)] ?_))
    refine AWP.own (H':=[bf 3 157 Ze ([]:(List Zg)) false]) (st':=[(12,(.own 0 (List.length ([]:(List Zg))))),(0,(i64 a)),(1,(slc 10 Za d)),(2,(slc 10 Za f)),(3,(.sc (.func (.func 135) #[] #[]))),(4,(i64 g))]) 12 3 157 (by kernel_rfl) (by kernel_rfl) (by kernel_rfl) ?_
    refine AWP.pick (st':=[(0,(i64 a)),(1,(slc 10 Za d)),(2,(slc 10 Za f)),(3,(.sc (.func (.func 135) #[] #[]))),(4,(i64 g)),(12,(.own 0 (List.length ([]:(List Zg)))))]) (ks:=[0,1,2,3,4,12]) (by kernel_rfl) ?_
    refine AWP.seq (AWP.rg0 [] [(0,(i64 a)),(1,(slc 10 Za d)),(2,(slc 10 Za f)),(3,(.sc (.func (.func 135) #[] #[]))),(4,(i64 g)),(12,(.own 0 (List.length ([]:(List Zg))))),(13,(i64 (0:Int)))] (AWP.seq ?_))
    obtain⟨k,d7,hF⟩:=bindb hF
    refine AWP.rg0 [(4,.call Tryz.func151 [] (Zjz a [d,f] k d7))] [(0,(i64 a)),(1,(slc 10 Za d)),(2,(slc 10 Za f)),(3,(.sc (.func (.func 135) #[] #[]))),(4,(i64 g)),(12,(.own 0 (List.length ([]:(List Zg))))),(13,(i64 (0:Int))),(14,(slc 1 Zd k))] (AWP.seq (AWP.seq (AWP.rg0 [] [(0,(i64 a)),(1,(slc 10 Za d)),(2,(slc 10 Za f)),(3,(.sc (.func (.func 135) #[] #[]))),(4,(i64 g)),(12,(.own 0 (List.length ([]:(List Zg))))),(13,(i64 (0:Int))),(14,(slc 1 Zd k)),(15,(i64 (0:Int)))] ?_)))
    obtain⟨b2,d8,hF⟩:=bindb hF
    refine AWP.mid (fun e st H=>(e=.normal∧∃ c,∃ b3,b2=(.inl (c,b3))∧st=[(0,(i64 a)),(12,(.own 0 (List.length c))),(13,(i64 b3))]∧H=[bf 3 157 Ze c false])∨(e=.ret∧∃ r,b2=(.inr r)∧Zhi r e st H)) ?_ ?_
    ·clear hF
     refine AWP.kp [0,1,2,3,4,12,13,14,15] 1 ?_
     refine AWP.bround (fun n st H=>∃ b,∃ o,∃ p,Zbk a d f g (Zaf nr) k n b o p=some b2∧st=[(0,(i64 a)),(1,(slc 10 Za d)),(2,(slc 10 Za f)),(3,(.sc (.func (.func 135) #[] #[]))),(4,(i64 g)),(12,(.own 0 (List.length b))),(13,(i64 o)),(14,(slc 1 Zd k)),(15,(i64 p))]∧H=[bf 3 157 Ze b false]) fuel ⟨([]:(List Zg)),(0:Int),(0:Int),d8,by kernel_rfl,by kernel_rfl⟩ ?_
     rintro b4 st H ⟨b,o,p,hF,rfl,rfl⟩
     cases b4 with
     | zero=>exact noneb hF
     | succ b4=>
      rw [Zbk] at hF
      refine AWP.seq (AWP.seq (AWP.rg0 [(3,.len Zd k)] [(0,(i64 a)),(1,(slc 10 Za d)),(2,(slc 10 Za f)),(3,(.sc (.func (.func 135) #[] #[]))),(4,(i64 g)),(12,(.own 0 (List.length b))),(13,(i64 o)),(14,(slc 1 Zd k)),(15,(i64 p)),(57,(vb (decide ((ZI (p + (1:Int)))<(List.length k:Int)))))] ?_))
      refine AWP.cif hF (fun d9 hF=>?_) (fun d9 hF=>?_)
      ·refine AWP.skip ?_
       obtain⟨c0,e0,hF⟩:=bindb hF
       refine AWP.seq ?_
       refine AWP.mid (fun e st H=>(e=.normal∧∃ a2,∃ a4,c0=(.inl (a2,a4))∧st=[(0,(i64 a)),(1,(slc 10 Za d)),(2,(slc 10 Za f)),(3,(.sc (.func (.func 135) #[] #[]))),(4,(i64 g)),(12,(.own 0 (List.length a2))),(13,(i64 a4)),(14,(slc 1 Zd k)),(15,(i64 p))]∧H=[bf 3 157 Ze a2 false])∨(e=.ret∧∃ r,c0=(.inr r)∧Zhi r e st H)) ?_ ?_
       ·clear hF
        have hF:=e0
        refine AWP.block (AWP.seq ?_)
        obtain⟨w,e1,hF⟩:=bindb hF
        obtain⟨u,e2,hF⟩:=bindb hF
        refine AWP.dr [(2,.idx Zd e1),(8,.idx Zd e2)] 14 [] [13] [] [(0,(i64 a)),(1,(slc 10 Za d)),(2,(slc 10 Za f)),(3,(.sc (.func (.func 135) #[] #[]))),(4,(i64 g)),(12,(.own 0 (List.length b))),(13,(i64 o)),(14,(slc 1 Zd k)),(15,(i64 p)),(16,(.ptr 1 0))] [bf 3 157 Ze b false,.cells (Zk (Zb.mk (IntKind.wrap .u32 w) (IntKind.wrap .u32 (IntKind.wrap .u64 (u - (1:Int))))))] (AWP.seq ?_)
        obtain⟨c1,e3,hF⟩:=bindb hF
        obtain⟨c2,e4,hF⟩:=bindb hF
        obtain⟨m,e5,hF⟩:=bindb hF
        refine AWP.dr [(6,.call Tryz.func152 [] (Zej d a (IntKind.wrap .u32 w) c1 e3)),(11,.call Tryz.func152 [] (Zej f a (IntKind.wrap .u32 w) c2 e4)),(14,.call Tryz.func147 [] (ih (ZI (a + (1:Int))) c1 c2 g m e5))] 19 [] [] [] [(0,(i64 a)),(1,(slc 10 Za d)),(2,(slc 10 Za f)),(3,(.sc (.func (.func 135) #[] #[]))),(4,(i64 g)),(12,(.own 0 (List.length b))),(13,(i64 o)),(14,(slc 1 Zd k)),(15,(i64 p)),(16,(.ptr 1 0)),(17,(slc 10 Za m.1)),(18,(vb m.2))] [bf 3 157 Ze b false,.cells (Zk (Zb.mk (IntKind.wrap .u32 w) (IntKind.wrap .u32 (IntKind.wrap .u64 (u - (1:Int))))))] (AWP.seq (AWP.seq (AWP.rg0 [] [(0,(i64 a)),(1,(slc 10 Za d)),(2,(slc 10 Za f)),(3,(.sc (.func (.func 135) #[] #[]))),(4,(i64 g)),(12,(.own 0 (List.length b))),(13,(i64 o)),(14,(slc 1 Zd k)),(15,(i64 p)),(16,(.ptr 1 0)),(17,(slc 10 Za m.1)),(92,(vb (!m.2)))] ?_)))
        refine AWP.cif hF (fun e6 hF=>?_) (fun e6 hF=>?_)
        ·refine AWP.seq (AWP.rg0 [] [(10,nils),(11,(vb false))] (AWP.ret ?_))
         exact LeQ.of (.inr ⟨rfl,(([]:ZL),false),(someb hF).symm,(FnQ.f1 0 (.inr rfl) (.inr ⟨_,_,rfl,rfl,(.cons _ _ _ _ (.nil 10) (.cons _ _ _ _ (.refl _) .nil))⟩))⟩)
        ·refine AWP.skip (AWP.seq (AWP.seq (AWP.rg0 [(1,.len Za m.1)] [(0,(i64 a)),(1,(slc 10 Za d)),(2,(slc 10 Za f)),(3,(.sc (.func (.func 135) #[] #[]))),(4,(i64 g)),(12,(.own 0 (List.length b))),(13,(i64 o)),(14,(slc 1 Zd k)),(15,(i64 p)),(16,(.ptr 1 0)),(17,(slc 10 Za m.1)),(95,(vb ((List.length m.1:Int) == (0:Int))))] ?_)))
         refine AWP.cif hF (fun e7 hF=>?_) (fun e7 hF=>?_)
         ·refine AWP.exit (LeQ.start (LeQ.pk [0,1,2,3,4,12,13,14,15] 1 ?_))
          exact(.inl ⟨rfl,b,o,(someb hF).symm,by kernel_rfl,by kernel_rfl⟩)
         ·refine AWP.skip (AWP.seq (AWP.seq (AWP.rg0 [(1,.len Ze b)] [(0,(i64 a)),(1,(slc 10 Za d)),(2,(slc 10 Za f)),(3,(.sc (.func (.func 135) #[] #[]))),(4,(i64 g)),(12,(.own 0 (List.length b))),(13,(i64 o)),(14,(slc 1 Zd k)),(15,(i64 p)),(16,(.ptr 1 0)),(17,(slc 10 Za m.1)),(19,(i64 (List.length b:Int)))] (AWP.seq ?_))))
          obtain⟨e8,a5,hF⟩:=bindb hF
          replace a5:=someb a5
          obtain⟨h1,c3,hF⟩:=bindb hF
          obtain⟨e9,a6,hF⟩:=bindb hF
          replace a6:=someb a6
          obtain⟨f2,b5,hF⟩:=bindb hF
          refine AWP.to [(0,(i64 a)),(1,(slc 10 Za d)),(2,(slc 10 Za f)),(3,(.sc (.func (.func 135) #[] #[]))),(4,(i64 g)),(12,(.own 0 (List.length b))),(13,(i64 o)),(14,(slc 1 Zd k)),(15,(i64 p)),(16,(.ptr 1 0)),(17,(slc 10 Za m.1)),(19,(i64 (List.length b:Int))),(122,(vb f2))] [bf 3 157 Ze b false,.cells (Zk (Zb.mk (IntKind.wrap .u32 w) (IntKind.wrap .u32 (IntKind.wrap .u64 (u - (1:Int))))))] ?_ ?_
          ·cases e8 with
           | false=>
            have f3:=someb (ifF c3 rfl)
            subst f3
            subst a6
            have f4:=someb (ifF b5 rfl)
            subst f4
            exact AWP.drT [(2,.bool a5)] 25 [] [] []
           | true=>
            have a7:=ifT c3 rfl
            obtain⟨h2,b1,a7⟩:=bindb a7
            replace a7:=someb a7
            subst a7
            cases e9 with
            | false=>
             have f5:=someb (ifF b5 rfl)
             subst f5
             exact AWP.drT [(2,.bool a5),(6,.idx Ze b1),(7,.fdE Ze b (ZI ((List.length b:Int) - (1:Int)))),(8,.fdE Ze b (ZI ((List.length b:Int) - (1:Int)))),(9,.ldE Ze b1),(15,.bool a6)] 25 [] [] []
            | true=>
             have a1:=ifT b5 rfl
             obtain⟨f6,c4,a1⟩:=bindb a1
             obtain⟨f7,f8,a1⟩:=bindb a1
             replace a1:=someb a1
             subst a1
             exact AWP.drT [(2,.bool a5),(6,.idx Ze b1),(7,.fdE Ze b (ZI ((List.length b:Int) - (1:Int)))),(8,.fdE Ze b (ZI ((List.length b:Int) - (1:Int)))),(9,.ldE Ze b1),(15,.bool a6),(19,.idx Ze c4),(20,.fdE Ze b (ZI ((List.length b:Int) - (1:Int)))),(21,.ldE Ze c4),(23,.call Tryz.func146 [] (Zd5 f6.f_rest m.1 f7 f8))] 25 [] [] []
          refine AWP.cif hF (fun f9 hF=>?_) (fun f9 hF=>?_)
          ·refine AWP.seq ?_
           obtain⟨z,c5,hF⟩:=bindb hF
           refine AWP.rg [(5,.idx Ze c5),(6,.fdE Ze b (ZI ((List.length b:Int) - (1:Int)))),(7,.fdE Ze b (ZI ((List.length b:Int) - (1:Int)))),(8,.stE Ze c5 ({ z with f_values:=({ z.f_values with Hi:=(IntKind.wrap .u32 (IntKind.wrap .u64 (u - (1:Int)))) }:Zb) }:Zg))] [(0,(i64 a)),(1,(slc 10 Za d)),(2,(slc 10 Za f)),(3,(.sc (.func (.func 135) #[] #[]))),(4,(i64 g)),(12,(.own 0 (List.length b))),(13,(i64 o)),(14,(slc 1 Zd k)),(15,(i64 p))] [bf 3 157 Ze (List.set b (Int.toNat (ZI ((List.length b:Int) - (1:Int)))) ({ z with f_values:=({ z.f_values with Hi:=(IntKind.wrap .u32 (IntKind.wrap .u64 (u - (1:Int)))) }:Zb) }:Zg)) false,.cells (Zk (Zb.mk (IntKind.wrap .u32 w) (IntKind.wrap .u32 (IntKind.wrap .u64 (u - (1:Int))))))] ?_
           rw [show ([(0,(i64 a)),(1,(slc 10 Za d)),(2,(slc 10 Za f)),(3,(.sc (.func (.func 135) #[] #[]))),(4,(i64 g)),(12,(.own 0 (List.length b))),(13,(i64 o)),(14,(slc 1 Zd k)),(15,(i64 p))]:St)=[(0,(i64 a)),(1,(slc 10 Za d)),(2,(slc 10 Za f)),(3,(.sc (.func (.func 135) #[] #[]))),(4,(i64 g)),(12,(.own 0 (List.length (List.set b (Int.toNat (ZI ((List.length b:Int) - (1:Int)))) ({ z with f_values:=({ z.f_values with Hi:=(IntKind.wrap .u32 (IntKind.wrap .u64 (u - (1:Int)))) }:Zb) }:Zg))))),(13,(i64 o)),(14,(slc 1 Zd k)),(15,(i64 p))] by simp only [List.length_set]]
           refine AWP.exit (LeQ.start (LeQ.pk [0,1,2,3,4,12,13,14,15] 1 ?_))
           exact(.inl ⟨rfl,(List.set b (Int.toNat (ZI ((List.length b:Int) - (1:Int)))) ({ z with f_values:=({ z.f_values with Hi:=(IntKind.wrap .u32 (IntKind.wrap .u64 (u - (1:Int)))) }:Zb) }:Zg)),o,(someb hF).symm,by kernel_rfl,by kernel_rfl⟩)
          ·refine AWP.skip (AWP.seq ?_)
           obtain⟨g0,hF⟩:=chkb hF
           refine AWP.rg [(5,.app Ze (fun _=>by kernel_rfl) g0)] [(0,(i64 a)),(1,(slc 10 Za d)),(2,(slc 10 Za f)),(3,(.sc (.func (.func 135) #[] #[]))),(4,(i64 g)),(12,(.own 0 (List.length (b++[(Zg.mk (Zb.mk (IntKind.wrap .u32 w) (IntKind.wrap .u32 (IntKind.wrap .u64 (u - (1:Int))))) m.1)])))),(13,(i64 o)),(14,(slc 1 Zd k)),(15,(i64 p)),(17,(slc 10 Za m.1))] [bf 3 157 Ze (b++[(Zg.mk (Zb.mk (IntKind.wrap .u32 w) (IntKind.wrap .u32 (IntKind.wrap .u64 (u - (1:Int))))) m.1)]) false,.cells (Zk (Zb.mk (IntKind.wrap .u32 w) (IntKind.wrap .u32 (IntKind.wrap .u64 (u - (1:Int))))))] (AWP.seq (AWP.rg0 [(2,.len Za m.1)] [(0,(i64 a)),(1,(slc 10 Za d)),(2,(slc 10 Za f)),(3,(.sc (.func (.func 135) #[] #[]))),(4,(i64 g)),(12,(.own 0 (List.length (b++[(Zg.mk (Zb.mk (IntKind.wrap .u32 w) (IntKind.wrap .u32 (IntKind.wrap .u64 (u - (1:Int))))) m.1)])))),(13,(i64 (ZI (o + (List.length m.1:Int))))),(14,(slc 1 Zd k)),(15,(i64 p))] (AWP.seq (AWP.rg0 [] [(0,(i64 a)),(1,(slc 10 Za d)),(2,(slc 10 Za f)),(3,(.sc (.func (.func 135) #[] #[]))),(4,(i64 g)),(12,(.own 0 (List.length (b++[(Zg.mk (Zb.mk (IntKind.wrap .u32 w) (IntKind.wrap .u32 (IntKind.wrap .u64 (u - (1:Int))))) m.1)])))),(13,(i64 (ZI (o + (List.length m.1:Int))))),(14,(slc 1 Zd k)),(15,(i64 p)),(143,(vb (decide ((ZI (o + (List.length m.1:Int))) > g))))] ?_))))
           refine AWP.cif hF (fun g1 hF=>?_) (fun g1 hF=>?_)
           ·refine AWP.seq (AWP.rg0 [] [(10,nils),(11,(vb false))] (AWP.ret ?_))
            exact LeQ.of (.inr ⟨rfl,(([]:ZL),false),(someb hF).symm,(FnQ.f1 0 (.inr rfl) (.inr ⟨_,_,rfl,rfl,(.cons _ _ _ _ (.nil 10) (.cons _ _ _ _ (.refl _) .nil))⟩))⟩)
           ·refine AWP.skip (LeQ.start (LeQ.pk [0,1,2,3,4,12,13,14,15] 1 ?_))
            exact(.inl ⟨rfl,(b++[(Zg.mk (Zb.mk (IntKind.wrap .u32 w) (IntKind.wrap .u32 (IntKind.wrap .u64 (u - (1:Int))))) m.1)]),(ZI (o + (List.length m.1:Int))),(someb hF).symm,by kernel_rfl,by kernel_rfl⟩)
       ·rintro _ _ _ (⟨rfl,a2,a4,rfl,rfl,rfl⟩ | ⟨rfl,g2,rfl,hq⟩)
        ·refine AWP.rg0 [] [(0,(i64 a)),(1,(slc 10 Za d)),(2,(slc 10 Za f)),(3,(.sc (.func (.func 135) #[] #[]))),(4,(i64 g)),(12,(.own 0 (List.length a2))),(13,(i64 a4)),(14,(slc 1 Zd k)),(15,(i64 (ZI (p + (1:Int)))))] (LeQ.start (LeQ.pk [0,1,2,3,4,12,13,14,15] 1 ?_))
         exact⟨b4,Nat.lt_succ_self _,a2,a4,(ZI (p + (1:Int))),hF,by kernel_rfl,by kernel_rfl⟩
        ·exact LeQ.of (.inr ⟨rfl,g2,(someb hF).symm,hq⟩)
      ·refine AWP.exit (LeQ.start (LeQ.pk [0,12,13] 1 ?_))
       exact(.inl ⟨rfl,b,o,(someb hF).symm,by kernel_rfl,by kernel_rfl⟩)
    ·rintro _ _ _ (⟨rfl,c,b3,rfl,rfl,rfl⟩ | ⟨rfl,h3,rfl,hq⟩)
     ·refine AWP.seq ?_
      obtain⟨g3,hF⟩:=chkb hF
      refine AWP.rg [(1,.mk0 Za g3)] [(0,(i64 a)),(12,(.own 0 (List.length c))),(20,(.own 1 (List.length ([]:ZL))))] [bf 3 157 Ze c false,bf 10 57 Za ([]:ZL) false] (AWP.seq (AWP.seq (AWP.rg0 [(1,.len Ze c)] [(0,(i64 a)),(20,(.own 1 (List.length ([]:ZL)))),(146,(.own 0 (List.length c))),(147,(i64 (List.length c:Int))),(148,(i64 (0:Int)))] ?_)))
      obtain⟨a8,g4,hF⟩:=bindb hF
      refine AWP.mid (fun e st H=>e=.normal∧st=[(20,(.own 1 (List.length a8)))]∧H=[bf 3 157 Ze c false,bf 10 57 Za a8 false]) ?_ ?_
      ·clear hF
       refine AWP.kp [0,20,146,147,148] 2 ?_
       refine AWP.bround (fun n st H=>∃ y,∃ q,Zbm a c n y q=some a8∧st=[(0,(i64 a)),(20,(.own 1 (List.length y))),(146,(.own 0 (List.length c))),(147,(i64 (List.length c:Int))),(148,(i64 q))]∧H=[bf 3 157 Ze c false,bf 10 57 Za y false]) fuel ⟨([]:ZL),(0:Int),g4,by kernel_rfl,by kernel_rfl⟩ ?_
       rintro b6 st H ⟨y,q,hF,rfl,rfl⟩
       cases b6 with
       | zero=>exact noneb hF
       | succ b6=>
        rw [Zbm] at hF
        refine AWP.seq (AWP.rg0 [] [(0,(i64 a)),(20,(.own 1 (List.length y))),(146,(.own 0 (List.length c))),(147,(i64 (List.length c:Int))),(148,(i64 q)),(149,(vb (decide (q<(List.length c:Int)))))] (AWP.seq ?_))
        refine AWP.cif hF (fun g5 hF=>?_) (fun g5 hF=>?_)
        ·refine AWP.skip (AWP.seq (AWP.block (AWP.seq ?_)))
         obtain⟨j,c6,hF⟩:=bindb hF
         refine AWP.rg [(0,.idx Ze c6),(1,.ldE Ze c6)] [(0,(i64 a)),(20,(.own 1 (List.length y))),(22,(.ptr 2 0)),(146,(.own 0 (List.length c))),(147,(i64 (List.length c:Int))),(148,(i64 q))] [bf 3 157 Ze c false,bf 10 57 Za y false,.cells (Ze j)] (AWP.seq (AWP.rg0 [(2,.len Za j.f_rest)] [(0,(i64 a)),(20,(.own 1 (List.length y))),(22,(.ptr 2 0)),(146,(.own 0 (List.length c))),(147,(i64 (List.length c:Int))),(148,(i64 q)),(153,(slc 10 Za j.f_rest)),(154,(i64 (List.length j.f_rest:Int))),(155,(i64 (0:Int)))] ?_))
         obtain⟨a9,g6,hF⟩:=bindb hF
         refine AWP.mid (fun e st H=>e=.normal∧st=[(0,(i64 a)),(20,(.own 1 (List.length a9))),(146,(.own 0 (List.length c))),(147,(i64 (List.length c:Int))),(148,(i64 q))]∧H=[bf 3 157 Ze c false,bf 10 57 Za a9 false,.cells (Ze j)]) ?_ ?_
         ·clear hF
          refine AWP.kp [0,20,22,146,147,148,153,154,155] 3 ?_
          refine AWP.bround (fun n st H=>∃ v,∃ x,Zbl a j n v x=some a9∧st=[(0,(i64 a)),(20,(.own 1 (List.length v))),(22,(.ptr 2 0)),(146,(.own 0 (List.length c))),(147,(i64 (List.length c:Int))),(148,(i64 q)),(153,(slc 10 Za j.f_rest)),(154,(i64 (List.length j.f_rest:Int))),(155,(i64 x))]∧H=[bf 3 157 Ze c false,bf 10 57 Za v false,.cells (Ze j)]) fuel ⟨y,(0:Int),g6,by kernel_rfl,by kernel_rfl⟩ ?_
          rintro b7 st H ⟨v,x,hF,rfl,rfl⟩
          cases b7 with
          | zero=>exact noneb hF
          | succ b7=>
           rw [Zbl] at hF
           refine AWP.seq (AWP.rg0 [] [(0,(i64 a)),(20,(.own 1 (List.length v))),(22,(.ptr 2 0)),(146,(.own 0 (List.length c))),(147,(i64 (List.length c:Int))),(148,(i64 q)),(153,(slc 10 Za j.f_rest)),(154,(i64 (List.length j.f_rest:Int))),(155,(i64 x)),(156,(vb (decide (x<(List.length j.f_rest:Int)))))] (AWP.seq ?_))
           refine AWP.cif hF (fun g7 hF=>?_) (fun g7 hF=>?_)
           ·refine AWP.skip (AWP.seq (AWP.block (AWP.seq ?_)))
            obtain⟨a0,g8,hF⟩:=bindb hF
            refine AWP.rg [(0,.idx Za g8)] [(0,(i64 a)),(20,(.own 1 (List.length v))),(22,(.ptr 2 0)),(24,(.ptr 3 0)),(146,(.own 0 (List.length c))),(147,(i64 (List.length c:Int))),(148,(i64 q)),(153,(slc 10 Za j.f_rest)),(154,(i64 (List.length j.f_rest:Int))),(155,(i64 x))] [bf 3 157 Ze c false,bf 10 57 Za v false,.cells (Ze j),.cells (Za a0)] (AWP.seq ?_)
            obtain⟨c7,hF⟩:=chkb hF
            refine AWP.rg [(3,.ixd c7),(4,.stA (fun g9=>Za (Arr5.set a0 g9 j.f_values)) 0 2 0 c7)] [(0,(i64 a)),(20,(.own 1 (List.length v))),(22,(.ptr 2 0)),(24,(.ptr 3 0)),(146,(.own 0 (List.length c))),(147,(i64 (List.length c:Int))),(148,(i64 q)),(153,(slc 10 Za j.f_rest)),(154,(i64 (List.length j.f_rest:Int))),(155,(i64 x))] [bf 3 157 Ze c false,bf 10 57 Za v false,.cells (Ze j),.cells (Za (Arr5.set a0 a j.f_values))] ?_
            obtain⟨h0,hF⟩:=chkb hF
            refine AWP.rg [(3,.app Za (fun _=>by kernel_rfl) h0)] [(0,(i64 a)),(20,(.own 1 (List.length (v++[(Arr5.set a0 a j.f_values)])))),(22,(.ptr 2 0)),(146,(.own 0 (List.length c))),(147,(i64 (List.length c:Int))),(148,(i64 q)),(153,(slc 10 Za j.f_rest)),(154,(i64 (List.length j.f_rest:Int))),(155,(i64 x))] [bf 3 157 Ze c false,bf 10 57 Za (v++[(Arr5.set a0 a j.f_values)]) false,.cells (Ze j),.cells (Za (Arr5.set a0 a j.f_values))] (AWP.rg0 [] [(0,(i64 a)),(20,(.own 1 (List.length (v++[(Arr5.set a0 a j.f_values)])))),(22,(.ptr 2 0)),(146,(.own 0 (List.length c))),(147,(i64 (List.length c:Int))),(148,(i64 q)),(153,(slc 10 Za j.f_rest)),(154,(i64 (List.length j.f_rest:Int))),(155,(i64 (ZI (x + (1:Int)))))] (LeQ.start (LeQ.pk [0,20,22,146,147,148,153,154,155] 3 ?_)))
            exact⟨b7,Nat.lt_succ_self _,(v++[(Arr5.set a0 a j.f_values)]),(ZI (x + (1:Int))),hF,by kernel_rfl,by kernel_rfl⟩
           ·refine AWP.exit (LeQ.start (LeQ.pk [0,20,146,147,148] 3 ?_))
            have hr:=someb hF
            subst hr
            exact⟨rfl,by kernel_rfl,by kernel_rfl⟩
         ·rintro _ _ _ ⟨rfl,rfl,rfl⟩
          refine AWP.rg0 [] [(0,(i64 a)),(20,(.own 1 (List.length a9))),(146,(.own 0 (List.length c))),(147,(i64 (List.length c:Int))),(148,(i64 (ZI (q + (1:Int)))))] (LeQ.start (LeQ.pk [0,20,146,147,148] 2 ?_))
          exact⟨b6,Nat.lt_succ_self _,a9,(ZI (q + (1:Int))),hF,by kernel_rfl,by kernel_rfl⟩
        ·refine AWP.exit (LeQ.start (LeQ.pk [20] 2 ?_))
         have hr:=someb hF
         subst hr
         exact⟨rfl,by kernel_rfl,by kernel_rfl⟩
      ·rintro _ _ _ ⟨rfl,rfl,rfl⟩
       refine AWP.seq (AWP.rg0 [] [(10,(.own 1 (List.length a8))),(11,(vb true))] (AWP.ret ?_))
       have hr:=someb hF
       subst hr
       exact(FnQ.f1 0 (.inr rfl) (.inr ⟨_,_,rfl,rfl,(.cons _ _ _ _ (Wk.ownT (i:=1) (s:=10) (t:=57) (l:=a8) (sh:=false) (row:=Za) (by kernel_rfl) (.inl rfl)) (.cons _ _ _ _ (.refl _) .nil))⟩))
     ·have hr:=someb hF
      subst hr
      exact hq
theorem Zj0 (a:Int) (b:ZL) (c:ZL) (d:Int) (r:(ZL × Bool)) (hF:Zaf fuel a b c d=some r):ACall Tryz.prog glob 147 [(i64 a),(slc 10 Za b),(slc 10 Za c),(.sc (.func (.func 135) #[] #[])),(i64 d)] [] (Ze3 r):=Zjn fuel a b c d r hF
def Zkn (r:(ZL × Int)):PV→List Blk→Prop:=fun p K=>p=(.tup [(slc 10 Za r.1),(i64 r.2)])∧K=[]
theorem Zko (b:ZL) (c:ZL) (r:(ZL × Int)) (hF:Zc3 b c=some r):ACall Tryz.prog glob 131 [(slc 10 Za b),(slc 10 Za c),(.sc (.func (.func 135) #[] #[]))] [] (Zkn r):=by
 refine ACall.body Tryz.func131 rfl (by kernel_rfl) ?_
 unfold Zc3 at hF
 refine AWP.seq (AWP.rg0 [] [(0,(slc 10 Za b)),(1,(slc 10 Za c)),(2,(.sc (.func (.func 135) #[] #[])))] (AWP.seq ?_))
 obtain⟨a,d,hF⟩:=bindb hF
 refine AWP.rg0 [(3,.call Tryz.func147 [] (Zj0 (0:Int) b c (4096:Int) a d))] [(8,(slc 10 Za a.1)),(9,(vb a.2))] (AWP.seq (AWP.seq (AWP.rg0 [] [(8,(slc 10 Za a.1)),(18,(vb (!a.2)))] ?_)))
 refine AWP.cif hF (fun f hF=>?_) (fun f hF=>?_)
 ·refine AWP.seq (AWP.rg0 [] [(6,nils),(7,(i64 (3:Int)))] (AWP.ret ?_))
  have hr:=someb hF
  subst hr
  exact(FnQ.f1 0 (.inr rfl) (.inr ⟨_,_,rfl,rfl,(.cons _ _ _ _ (.nil 10) (.cons _ _ _ _ (.refl _) .nil))⟩))
 ·refine AWP.skip (AWP.seq (AWP.rg0 [] [(6,(slc 10 Za a.1)),(7,(i64 (0:Int)))] (AWP.ret ?_)))
  have hr:=someb hF
  subst hr
  exact(FnQ.f0 0 (.inr rfl))
def Zlv (r:(ZL × Int)):PV→List Blk→Prop:=fun p K=>p=(.tup [(slc 10 Za r.1),(i64 r.2)])∧K=[]
theorem Zlw (d:ZL) (c:ZL) (r:(ZL × Int)) (hF:Zfg d c=some r):ACall Tryz.prog glob 133 [(slc 10 Za d),(slc 10 Za c),(.sc (.func (.func 135) #[] #[]))] [] (Zlv r):=by
 refine ACall.body Tryz.func133 rfl (by kernel_rfl) ?_
 unfold Zfg at hF
 refine AWP.seq (AWP.rg0 [] [(0,(slc 10 Za d)),(1,(slc 10 Za c)),(2,(.sc (.func (.func 135) #[] #[])))] (AWP.seq ?_))
 obtain⟨a,g,hF⟩:=bindb hF
 refine AWP.rg0 [(1,.call Tryz.func140 [] (Zfs d a g))] [(1,(slc 10 Za c)),(2,(.sc (.func (.func 135) #[] #[]))),(8,(slc 10 Za a.1)),(9,(i64 a.2))] (AWP.seq (AWP.seq (AWP.rg0 [] [(1,(slc 10 Za c)),(2,(.sc (.func (.func 135) #[] #[]))),(8,(slc 10 Za a.1)),(9,(i64 a.2)),(17,(vb (a.2 != (0:Int))))] ?_)))
 refine AWP.cif hF (fun i hF=>?_) (fun i hF=>?_)
 ·refine AWP.seq (AWP.rg0 [] [(6,nils),(7,(i64 a.2))] (AWP.ret ?_))
  have hr:=someb hF
  subst hr
  exact(FnQ.f1 0 (.inr rfl) (.inr ⟨_,_,rfl,rfl,(.cons _ _ _ _ (.nil 10) (.cons _ _ _ _ (.refl _) .nil))⟩))
 ·refine AWP.skip (AWP.seq ?_)
  obtain⟨b,j,hF⟩:=bindb hF
  refine AWP.rg0 [(1,.call Tryz.func140 [] (Zfs c b j))] [(2,(.sc (.func (.func 135) #[] #[]))),(8,(slc 10 Za a.1)),(9,(i64 b.2)),(10,(slc 10 Za b.1))] (AWP.seq (AWP.seq (AWP.rg0 [] [(2,(.sc (.func (.func 135) #[] #[]))),(8,(slc 10 Za a.1)),(9,(i64 b.2)),(10,(slc 10 Za b.1)),(25,(vb (b.2 != (0:Int))))] ?_)))
  refine AWP.cif hF (fun k hF=>?_) (fun k hF=>?_)
  ·refine AWP.seq (AWP.rg0 [] [(6,nils),(7,(i64 b.2))] (AWP.ret ?_))
   have hr:=someb hF
   subst hr
   exact(FnQ.f1 0 (.inr rfl) (.inr ⟨_,_,rfl,rfl,(.cons _ _ _ _ (.nil 10) (.cons _ _ _ _ (.refl _) .nil))⟩))
  ·refine AWP.skip (AWP.seq ?_)
   obtain⟨f,l,hF⟩:=bindb hF
   refine AWP.rg0 [(3,.call Tryz.func131 [] (Zko a.1 b.1 f l))] [(6,(slc 10 Za f.1)),(7,(i64 f.2))] (AWP.ret ?_)
   have hr:=someb hF
   subst hr
   exact(FnQ.f0 0 (.inr rfl))
def Zot (r:(ZL × Int)):PV→List Blk→Prop:=fun p K=>p=(.tup [(slc 10 Za r.1),(i64 r.2)])∧K=[]
theorem Zou (a:ZL) (b:ZL) (r:(ZL × Int)) (hF:Zfl a b=some r):ACall Tryz.prog glob 105 [(slc 10 Za a),(slc 10 Za b)] [] (Zot r):=by
 refine ACall.body Tryz.func105 rfl (by kernel_rfl) ?_
 unfold Zfl at hF
 refine AWP.seq (AWP.rg0 [] [(0,(slc 10 Za a)),(1,(slc 10 Za b))] (AWP.seq ?_))
 obtain⟨c,d,hF⟩:=bindb hF
 refine AWP.rg0 [(2,.call Tryz.func133 [] (Zlw a b c d))] [(4,(slc 10 Za c.1)),(5,(i64 c.2))] (AWP.ret ?_)
 have hr:=someb hF
 subst hr
 exact(FnQ.f0 0 (.inr rfl))
def Zlx (r:(ZL × Zj)):PV→List Blk→Prop:=fun p K=>p=(slc 10 Za r.1)∧K=[.cells (Zl r.2)]
theorem Zit (c:Zj) (a:ZL) (b:ZL) (r:(ZL × Zj)) (hF:Zc9 c a b=some r):ACall Tryz.prog glob 59 [(.ptr 0 0),(slc 10 Za a),(slc 10 Za b)] [.cells (Zl c)] (Zlx r):=by
 refine ACall.body Tryz.func59 rfl (by kernel_rfl) ?_
 unfold Zc9 at hF
 refine AWP.seq (AWP.rg0 [] [(0,(.ptr 0 0)),(1,(slc 10 Za a)),(2,(slc 10 Za b))] (AWP.seq ?_))
 obtain⟨d,g,hF⟩:=bindb hF
 obtain⟨f,i,hF⟩:=bindb hF
 refine AWP.rg [(3,.call Tryz.func105 [] (Zou a b d g)),(6,.call Tryz.func100 [] (Zfc c d.1 d.2 f i))] [(6,(slc 10 Za f.1))] [.cells (Zl f.2)] (AWP.ret ?_)
 have hr:=someb hF
 subst hr
 exact(FnQ.f0 1 (.inr rfl))
end Go.AM

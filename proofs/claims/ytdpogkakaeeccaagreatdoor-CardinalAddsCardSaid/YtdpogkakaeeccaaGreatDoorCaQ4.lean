/- Parts of a proof, printed short. No condition. -/
import Derived.Test.YtdpogkakaeeccaaGreatDoorProg
import Derived.Sort.AssemblyPlain
import Derived.Sort.LotD5
import Derived.Test.YtdpogkakaeeccaaGreatDoorCaQ3
set_option maxRecDepth 100000
namespace Go.AM
open Go Go.Proofs
def Zg5 (a:(List Int)) (b:List Value) (r:(Int × Int)):PV→List Blk→Prop:=fun p K=>p=(i64 r.1)∧K=[.cells (cel Zc a b),.cells (Z5 r.2)]
theorem Ze0 (f:Nat) (a:(List Int)) (b:List Value) (k:Int) (l:Int) (i:Int) (m:Int) (r:(Int × Int)) (hF:Zbf f a k l i m=some r):ACall Tryz.prog glob 127 [(.vw 0 0 f),(i64 k),(i64 l),(i64 i),(.ptr 1 0)] [.cells (cel Zc a b),.cells (Z5 m)] (Zg5 a b r):=by
 refine ACall.body Tryz.func127 rfl (by kernel_rfl) ?_
 unfold Zbf at hF
 refine AWP.seq (AWP.rg0 [] [(0,(.vw 0 0 f)),(1,(i64 k)),(2,(i64 l)),(3,(i64 i)),(4,(.ptr 1 0))] (AWP.seq ?_))
 obtain⟨d,o,hF⟩:=bindb hF
 refine AWP.rg [(4,.callC Tryz.func128 [] (closedH.c (Zn (row:=Zc) (fun _=>rfl) a b) (closedH.c (cs:=Z5 m) rfl closedH.n)) (closedH.c (Zn (row:=Zc) (fun _=>rfl) a b) (closedH.c (cs:=Z5 d.2.2) rfl closedH.n)) (Zdf f a b k l m d o))] [(0,(.vw 0 0 f)),(1,(i64 d.1)),(2,(i64 d.2.1)),(3,(i64 i)),(4,(.ptr 1 0))] [.cells (cel Zc a b),.cells (Z5 d.2.2)] (AWP.seq ?_)
 obtain⟨g,p,hF⟩:=bindb hF
 refine AWP.rg [(4,.callC Tryz.func128 [] (closedH.c (Zn (row:=Zc) (fun _=>rfl) a b) (closedH.c (cs:=Z5 d.2.2) rfl closedH.n)) (closedH.c (Zn (row:=Zc) (fun _=>rfl) a b) (closedH.c (cs:=Z5 g.2.2) rfl closedH.n)) (Zdf f a b d.2.1 i d.2.2 g p))] [(0,(.vw 0 0 f)),(1,(i64 d.1)),(2,(i64 g.1)),(4,(.ptr 1 0))] [.cells (cel Zc a b),.cells (Z5 g.2.2)] (AWP.seq ?_)
 obtain⟨j,q,hF⟩:=bindb hF
 refine AWP.rg [(4,.callC Tryz.func128 [] (closedH.c (Zn (row:=Zc) (fun _=>rfl) a b) (closedH.c (cs:=Z5 g.2.2) rfl closedH.n)) (closedH.c (Zn (row:=Zc) (fun _=>rfl) a b) (closedH.c (cs:=Z5 j.2.2) rfl closedH.n)) (Zdf f a b d.1 g.1 g.2.2 j q))] [(2,(i64 j.2.1))] [.cells (cel Zc a b),.cells (Z5 j.2.2)] (AWP.seq (AWP.rg0 [] [(10,(i64 j.2.1))] (AWP.ret ?_)))
 have hr:=someb hF
 subst hr
 exact(FnQ.f0 2 (.inr rfl))
def Zfi (a:(List Int)) (b:List Value) (r:(Int × Int)):PV→List Blk→Prop:=fun p K=>p=(i64 r.1)∧K=[.cells (cel Zc a b),.cells (Z5 r.2)]
theorem Zce (f:Nat) (a:(List Int)) (b:List Value) (d:Int) (g:Int) (r:(Int × Int)) (hF:Zae f a d g=some r):ACall Tryz.prog glob 126 [(.vw 0 0 f),(i64 d),(.ptr 1 0)] [.cells (cel Zc a b),.cells (Z5 g)] (Zfi a b r):=by
 refine ACall.body Tryz.func126 rfl (by kernel_rfl) ?_
 unfold Zae at hF
 refine AWP.seq (AWP.rg0 [] [(0,(.vw 0 0 f)),(1,(i64 d)),(2,(.ptr 1 0))] (AWP.seq ?_))
 obtain⟨i,j,hF⟩:=bindb hF
 refine AWP.rg [(7,.callC Tryz.func127 [] (closedH.c (Zn (row:=Zc) (fun _=>rfl) a b) (closedH.c (cs:=Z5 g) rfl closedH.n)) (closedH.c (Zn (row:=Zc) (fun _=>rfl) a b) (closedH.c (cs:=Z5 i.2) rfl closedH.n)) (Ze0 f a b (ZI (d - (1:Int))) d (ZI (d + (1:Int))) g i j))] [(6,(i64 i.1))] [.cells (cel Zc a b),.cells (Z5 i.2)] (AWP.ret ?_)
 have hr:=someb hF
 subst hr
 exact(FnQ.f0 2 (.inr rfl))
def Zf5 (a:(List Int)) (b:List Value) (r:(Int × Int)):PV→List Blk→Prop:=fun p K=>p=(.tup [(i64 r.1),(i64 r.2)])∧K=[.cells (cel Zc a b)]
theorem Zf6 (g:Nat) (d:(List Int)) (f:List Value) (a:Int) (b:Int) (r:(Int × Int)) (hF:Zbe g d a b=some r):ACall Tryz.prog glob 116 [(.vw 0 0 g),(i64 a),(i64 b)] [.cells (cel Zc d f)] (Zf5 d f r):=by
 refine ACall.body Tryz.func116 rfl (by kernel_rfl) ?_
 unfold Zbe at hF
 refine AWP.seq (AWP.rg0 [] [(0,(.vw 0 0 g)),(1,(i64 a)),(2,(i64 b))] (AWP.seq (AWP.rg0 [] [(0,(.vw 0 0 g)),(1,(i64 a)),(8,(i64 (ZI (b - a))))] (AWP.seq (AWP.rg [] [(0,(.vw 0 0 g)),(1,(i64 a)),(8,(i64 (ZI (b - a)))),(9,(.ptr 1 0))] [.cells (cel Zc d f),.cells (Z5 (0:Int))] (AWP.seq ?_))))))
 refine AWP.rg0 [] [(0,(.vw 0 0 g)),(1,(i64 a)),(8,(i64 (ZI (b - a)))),(9,(.ptr 1 0)),(10,(i64 (ZI (a + (ZI ((ZI (Int.tdiv (ZI (b - a)) (4:Int))) * (1:Int)))))))] (AWP.seq (AWP.rg0 [] [(0,(.vw 0 0 g)),(1,(i64 a)),(8,(i64 (ZI (b - a)))),(9,(.ptr 1 0)),(10,(i64 (ZI (a + (ZI ((ZI (Int.tdiv (ZI (b - a)) (4:Int))) * (1:Int))))))),(11,(i64 (ZI (a + (ZI ((ZI (Int.tdiv (ZI (b - a)) (4:Int))) * (2:Int)))))))] (AWP.seq (AWP.rg0 [] [(0,(.vw 0 0 g)),(8,(i64 (ZI (b - a)))),(9,(.ptr 1 0)),(10,(i64 (ZI (a + (ZI ((ZI (Int.tdiv (ZI (b - a)) (4:Int))) * (1:Int))))))),(11,(i64 (ZI (a + (ZI ((ZI (Int.tdiv (ZI (b - a)) (4:Int))) * (2:Int))))))),(12,(i64 (ZI (a + (ZI ((ZI (Int.tdiv (ZI (b - a)) (4:Int))) * (3:Int)))))))] ?_))))
 obtain⟨u,v,hF⟩:=bindb hF
 refine AWP.seq ?_
 refine AWP.mid (fun e st H=>(e=.normal∧∃ l,∃ i,u=(l,i)∧st=[(9,(.ptr 1 0)),(11,(i64 i))]∧H=[.cells (cel Zc d f),.cells (Z5 l)])) ?_ ?_
 ·clear hF
  have hF:=v
  refine AWP.seq (AWP.rg0 [] [(0,(.vw 0 0 g)),(8,(i64 (ZI (b - a)))),(9,(.ptr 1 0)),(10,(i64 (ZI (a + (ZI ((ZI (Int.tdiv (ZI (b - a)) (4:Int))) * (1:Int))))))),(11,(i64 (ZI (a + (ZI ((ZI (Int.tdiv (ZI (b - a)) (4:Int))) * (2:Int))))))),(12,(i64 (ZI (a + (ZI ((ZI (Int.tdiv (ZI (b - a)) (4:Int))) * (3:Int))))))),(32,(vb (decide ((ZI (b - a)) ≥ (8:Int)))))] ?_)
  refine AWP.cif hF (fun w hF=>?_) (fun w hF=>?_)
  ·obtain⟨x,y,hF⟩:=bindb hF
   refine AWP.seq ?_
   refine AWP.mid (fun e st H=>(e=.normal∧∃ p,∃ q,∃ s,∃ t,x=(p,q,s,t)∧st=[(0,(.vw 0 0 g)),(9,(.ptr 1 0)),(10,(i64 q)),(11,(i64 s)),(12,(i64 t))]∧H=[.cells (cel Zc d f),.cells (Z5 p)])) ?_ ?_
   ·clear hF
    have hF:=y
    refine AWP.seq (AWP.rg0 [] [(0,(.vw 0 0 g)),(9,(.ptr 1 0)),(10,(i64 (ZI (a + (ZI ((ZI (Int.tdiv (ZI (b - a)) (4:Int))) * (1:Int))))))),(11,(i64 (ZI (a + (ZI ((ZI (Int.tdiv (ZI (b - a)) (4:Int))) * (2:Int))))))),(12,(i64 (ZI (a + (ZI ((ZI (Int.tdiv (ZI (b - a)) (4:Int))) * (3:Int))))))),(34,(vb (decide ((ZI (b - a)) ≥ (50:Int)))))] ?_)
    refine AWP.cif hF (fun z hF=>?_) (fun z hF=>?_)
    ·refine AWP.seq ?_
     obtain⟨j,a0,hF⟩:=bindb hF
     refine AWP.rg [(2,.callC Tryz.func126 [] (closedH.c (Zn (row:=Zc) (fun _=>rfl) d f) (closedH.c (cs:=Z5 (0:Int)) rfl closedH.n)) (closedH.c (Zn (row:=Zc) (fun _=>rfl) d f) (closedH.c (cs:=Z5 j.2) rfl closedH.n)) (Zce g d f (ZI (a + (ZI ((ZI (Int.tdiv (ZI (b - a)) (4:Int))) * (1:Int))))) (0:Int) j a0))] [(0,(.vw 0 0 g)),(9,(.ptr 1 0)),(10,(i64 j.1)),(11,(i64 (ZI (a + (ZI ((ZI (Int.tdiv (ZI (b - a)) (4:Int))) * (2:Int))))))),(12,(i64 (ZI (a + (ZI ((ZI (Int.tdiv (ZI (b - a)) (4:Int))) * (3:Int)))))))] [.cells (cel Zc d f),.cells (Z5 j.2)] (AWP.seq ?_)
     obtain⟨k,a1,hF⟩:=bindb hF
     refine AWP.rg [(2,.callC Tryz.func126 [] (closedH.c (Zn (row:=Zc) (fun _=>rfl) d f) (closedH.c (cs:=Z5 j.2) rfl closedH.n)) (closedH.c (Zn (row:=Zc) (fun _=>rfl) d f) (closedH.c (cs:=Z5 k.2) rfl closedH.n)) (Zce g d f (ZI (a + (ZI ((ZI (Int.tdiv (ZI (b - a)) (4:Int))) * (2:Int))))) j.2 k a1))] [(0,(.vw 0 0 g)),(9,(.ptr 1 0)),(10,(i64 j.1)),(11,(i64 k.1)),(12,(i64 (ZI (a + (ZI ((ZI (Int.tdiv (ZI (b - a)) (4:Int))) * (3:Int)))))))] [.cells (cel Zc d f),.cells (Z5 k.2)] ?_
     obtain⟨m,a2,hF⟩:=bindb hF
     refine AWP.rg [(2,.callC Tryz.func126 [] (closedH.c (Zn (row:=Zc) (fun _=>rfl) d f) (closedH.c (cs:=Z5 k.2) rfl closedH.n)) (closedH.c (Zn (row:=Zc) (fun _=>rfl) d f) (closedH.c (cs:=Z5 m.2) rfl closedH.n)) (Zce g d f (ZI (a + (ZI ((ZI (Int.tdiv (ZI (b - a)) (4:Int))) * (3:Int))))) k.2 m a2))] [(0,(.vw 0 0 g)),(9,(.ptr 1 0)),(10,(i64 j.1)),(11,(i64 k.1)),(12,(i64 m.1))] [.cells (cel Zc d f),.cells (Z5 m.2)] (LeQ.start (LeQ.pk [0,9,10,11,12] 2 ?_))
     exact⟨rfl,m.2,j.1,k.1,m.1,(someb hF).symm,by kernel_rfl,by kernel_rfl⟩
    ·refine AWP.skip (LeQ.start (LeQ.pk [0,9,10,11,12] 2 ?_))
     exact⟨rfl,(0:Int),(ZI (a + (ZI ((ZI (Int.tdiv (ZI (b - a)) (4:Int))) * (1:Int))))),(ZI (a + (ZI ((ZI (Int.tdiv (ZI (b - a)) (4:Int))) * (2:Int))))),(ZI (a + (ZI ((ZI (Int.tdiv (ZI (b - a)) (4:Int))) * (3:Int))))),(someb hF).symm,by kernel_rfl,by kernel_rfl⟩
   ·rintro _ _ _ ⟨rfl,p,q,s,t,rfl,rfl,rfl⟩
    obtain⟨o,a3,hF⟩:=bindb hF
    refine AWP.rg [(4,.callC Tryz.func127 [] (closedH.c (Zn (row:=Zc) (fun _=>rfl) d f) (closedH.c (cs:=Z5 p) rfl closedH.n)) (closedH.c (Zn (row:=Zc) (fun _=>rfl) d f) (closedH.c (cs:=Z5 o.2) rfl closedH.n)) (Ze0 g d f q s t p o a3))] [(9,(.ptr 1 0)),(11,(i64 o.1))] [.cells (cel Zc d f),.cells (Z5 o.2)] (LeQ.start (LeQ.pk [9,11] 2 ?_))
    exact⟨rfl,o.2,o.1,(someb hF).symm,by kernel_rfl,by kernel_rfl⟩
  ·refine AWP.skip (LeQ.start (LeQ.pk [9,11] 2 ?_))
   exact⟨rfl,(0:Int),(ZI (a + (ZI ((ZI (Int.tdiv (ZI (b - a)) (4:Int))) * (2:Int))))),(someb hF).symm,by kernel_rfl,by kernel_rfl⟩
 ·rintro _ _ _ ⟨rfl,l,i,rfl,rfl,rfl⟩
  refine AWP.seq (AWP.rg0 [] [(11,(i64 i)),(49,(i64 l))] (AWP.block (AWP.seq (AWP.rg0 [] [(11,(i64 i)),(49,(i64 l)),(51,(vb (l == (0:Int))))] ?_))))
  refine AWP.cif hF (fun a4 hF=>?_) (fun a4 hF=>?_)
  ·refine AWP.seq (AWP.rg0 [] [(6,(i64 i)),(7,(i64 (1:Int)))] (AWP.ret ?_))
   have hr:=someb hF
   subst hr
   exact(FnQ.f0 1 (.inr rfl))
  ·refine AWP.seq (AWP.rg0 [] [(11,(i64 i)),(54,(vb (l == (12:Int))))] ?_)
   refine AWP.cif hF (fun a5 hF=>?_) (fun a5 hF=>?_)
   ·refine AWP.seq (AWP.rg0 [] [(6,(i64 i)),(7,(i64 (2:Int)))] (AWP.ret ?_))
    have hr:=someb hF
    subst hr
    exact(FnQ.f0 1 (.inr rfl))
   ·refine AWP.seq (AWP.rg0 [] [(6,(i64 i)),(7,(i64 (0:Int)))] (AWP.ret ?_))
    have hr:=someb hF
    subst hr
    exact(FnQ.f0 1 (.inr rfl))
def Zf0 (a:List Value) (r:(List Int)):PV→List Blk→Prop:=fun p K=>p=(.tup [])∧K=[.cells (cel Zc r a)]
theorem Zf1 (c:Nat) (j:(List Int)) (d:List Value) (f:Int) (g:Int) (r:(List Int)) (hF:Zav c j f g=some r):ACall Tryz.prog glob 117 [(.vw 0 0 c),(i64 f),(i64 g)] [.cells (cel Zc j d)] (Zf0 d r):=by
 refine ACall.body Tryz.func117 rfl (by kernel_rfl) ?_
 unfold Zav at hF
 refine AWP.seq (AWP.rg0 [] [(0,(.vw 0 0 c)),(2,(i64 g)),(6,(i64 f))] (AWP.seq (AWP.rg0 [] [(0,(.vw 0 0 c)),(6,(i64 f)),(7,(i64 (ZI (g - (1:Int)))))] ?_)))
 obtain⟨o,v,hF⟩:=bindb hF
 refine AWP.mid (fun e st H=>e=.normal∧st=[]∧H=[.cells (cel Zc o d)]) ?_ ?_
 ·clear hF
  refine AWP.kp [0,6,7] 1 ?_
  refine AWP.bround (fun n st H=>∃ i,∃ a,∃ b,Zab c n i a b=some o∧st=[(0,(.vw 0 0 c)),(6,(i64 a)),(7,(i64 b))]∧H=[.cells (cel Zc i d)]) fuel ⟨j,f,(ZI (g - (1:Int))),v,by kernel_rfl,by kernel_rfl⟩ ?_
  rintro k st H ⟨i,a,b,hF,rfl,rfl⟩
  cases k with
  | zero=>exact noneb hF
  | succ k=>
   rw [Zab] at hF
   refine AWP.seq (AWP.seq (AWP.rg0 [] [(0,(.vw 0 0 c)),(6,(i64 a)),(7,(i64 b)),(13,(vb (decide (a<b))))] ?_))
   refine AWP.cif hF (fun w hF=>?_) (fun w hF=>?_)
   ·refine AWP.skip (AWP.block (AWP.seq ?_))
    obtain⟨l,p,hF⟩:=bindb hF
    obtain⟨m,q,hF⟩:=bindb hF
    obtain⟨x,t,hF⟩:=bindb hF
    obtain⟨y,u,hF⟩:=bindb hF
    refine AWP.dr [(6,.idxV (Zk p)),(7,.ldV Zc (s:=1) (fun _=>rfl) d (Zi p) (0 + Int.toNat b * 1) (Nat.zero_add _) []),(10,.idxV (Zk q)),(11,.ldV Zc (s:=1) (fun _=>rfl) d (Zi q) (0 + Int.toNat a * 1) (Nat.zero_add _) []),(12,.idxV (Zk t)),(13,.stV Zc (s:=1) (fun _=>rfl) d (Zi t) l (0 + Int.toNat a * 1) (Nat.zero_add _) []),(14,.idxV (Zk u)),(15,.stV Zc (s:=1) (fun _=>rfl) d (Zi u) m (0 + Int.toNat b * 1) (Nat.zero_add _) [])] 14 [] [13] [] [(0,(.vw 0 0 c)),(6,(i64 a)),(7,(i64 b))] [.cells (cel Zc (List.set (List.set i (Int.toNat a) l) (Int.toNat b) m) d)] (AWP.seq (AWP.rg0 [] [(0,(.vw 0 0 c)),(6,(i64 (ZI (a + (1:Int))))),(7,(i64 b))] (AWP.rg0 [] [(0,(.vw 0 0 c)),(6,(i64 (ZI (a + (1:Int))))),(7,(i64 (ZI (b - (1:Int)))))] (LeQ.start (LeQ.pk [0,6,7] 1 ?_)))))
    exact⟨k,Nat.lt_succ_self _,(List.set (List.set i (Int.toNat a) l) (Int.toNat b) m),(ZI (a + (1:Int))),(ZI (b - (1:Int))),hF,by kernel_rfl,by kernel_rfl⟩
   ·refine AWP.exit (LeQ.start (LeQ.pk [] 1 ?_))
    have hr:=someb hF
    subst hr
    exact⟨rfl,by kernel_rfl,by kernel_rfl⟩
 ·rintro _ _ _ ⟨rfl,rfl,rfl⟩
  have hr:=someb hF
  subst hr
  exact(FnQ.f0 1 (.inl rfl))
def Zcv (a:List Value) (r:(Bool × (List Int))):PV→List Blk→Prop:=fun p K=>p=(vb r.1)∧K=[.cells (cel Zc r.2 a)]
abbrev Zcw (a:List Value) (r:(Bool × (List Int))):Exit→St→List Blk→Prop:=FnQ Tryz.prog Tryz.f118.results 1 (Zcv a r)
theorem Ze1 (f:Nat) (w:(List Int)) (d:List Value) (b:Int) (a:Int) (r:(Bool × (List Int))) (hF:Zac f w b a=some r):ACall Tryz.prog glob 118 [(.vw 0 0 f),(i64 b),(i64 a)] [.cells (cel Zc w d)] (Zcv d r):=by
 refine ACall.body Tryz.func118 rfl (by kernel_rfl) ?_
 unfold Zac at hF
 refine AWP.seq (AWP.rg0 [] [(0,(.vw 0 0 f)),(1,(i64 b)),(2,(i64 a))] (AWP.seq (AWP.rg0 [] [(0,(.vw 0 0 f)),(1,(i64 b)),(2,(i64 a)),(7,(i64 (ZI (b + (1:Int)))))] (AWP.seq (AWP.seq (AWP.rg0 [] [(0,(.vw 0 0 f)),(1,(i64 b)),(2,(i64 a)),(7,(i64 (ZI (b + (1:Int))))),(8,(i64 (0:Int)))] ?_))))))
 obtain⟨x,d4,hF⟩:=bindb hF
 refine AWP.mid (fun e st H=>(e=.normal∧∃ y,x=(.inl y)∧st=[]∧H=[.cells (cel Zc y d)])∨(e=.ret∧∃ r,x=(.inr r)∧Zcw d r e st H)) ?_ ?_
 ·clear hF
  refine AWP.kp [0,1,2,7,8] 1 ?_
  refine AWP.bround (fun n st H=>∃ k,∃ q,∃ g,Zx f b a n k q g=some x∧st=[(0,(.vw 0 0 f)),(1,(i64 b)),(2,(i64 a)),(7,(i64 q)),(8,(i64 g))]∧H=[.cells (cel Zc k d)]) fuel ⟨w,(ZI (b + (1:Int))),(0:Int),d4,by kernel_rfl,by kernel_rfl⟩ ?_
  rintro z st H ⟨k,q,g,hF,rfl,rfl⟩
  cases z with
  | zero=>exact noneb hF
  | succ z=>
   rw [Zx] at hF
   refine AWP.seq (AWP.seq (AWP.rg0 [] [(0,(.vw 0 0 f)),(1,(i64 b)),(2,(i64 a)),(7,(i64 q)),(8,(i64 g)),(14,(vb (decide (g<(5:Int)))))] ?_))
   refine AWP.cif hF (fun d5 hF=>?_) (fun d5 hF=>?_)
   ·refine AWP.skip ?_
    obtain⟨b1,d6,hF⟩:=bindb hF
    refine AWP.seq ?_
    refine AWP.mid (fun e st H=>(e=.normal∧∃ u,∃ t,b1=(.inl (u,t))∧st=[(0,(.vw 0 0 f)),(1,(i64 b)),(2,(i64 a)),(7,(i64 t)),(8,(i64 g))]∧H=[.cells (cel Zc u d)])∨(e=.ret∧∃ r,b1=(.inr r)∧Zcw d r e st H)) ?_ ?_
    ·clear hF
     have hF:=d6
     refine AWP.block (AWP.seq ?_)
     obtain⟨c,d7,hF⟩:=bindb hF
     refine AWP.mid (fun e st H=>e=.normal∧st=[(0,(.vw 0 0 f)),(1,(i64 b)),(2,(i64 a)),(7,(i64 c)),(8,(i64 g))]∧H=[.cells (cel Zc k d)]) ?_ ?_
     ·clear hF
      refine AWP.kp [0,1,2,7,8] 1 ?_
      refine AWP.bround (fun n st H=>∃ m,Zv f a k n m=some c∧st=[(0,(.vw 0 0 f)),(1,(i64 b)),(2,(i64 a)),(7,(i64 m)),(8,(i64 g))]∧H=[.cells (cel Zc k d)]) fuel ⟨q,d7,by kernel_rfl,by kernel_rfl⟩ ?_
      rintro a0 st H ⟨m,hF,rfl,rfl⟩
      cases a0 with
      | zero=>exact noneb hF
      | succ a0=>
       rw [Zv] at hF
       refine AWP.seq (AWP.seq ?_)
       obtain⟨d8,v,hF⟩:=bindb hF
       replace v:=someb v
       obtain⟨d9,b2,hF⟩:=bindb hF
       refine AWP.to [(0,(.vw 0 0 f)),(1,(i64 b)),(2,(i64 a)),(7,(i64 m)),(8,(i64 g)),(32,(vb d9))] [.cells (cel Zc k d)] ?_ ?_
       ·cases d8 with
        | false=>
         have e0:=someb (ifF b2 rfl)
         subst e0
         exact AWP.drT [(3,.bool v)] 16 [] [] []
        | true=>
         have l:=ifT b2 rfl
         obtain⟨e1,b3,l⟩:=bindb l
         obtain⟨e2,b4,l⟩:=bindb l
         obtain⟨e3,e4,l⟩:=bindb l
         replace l:=someb l
         subst l
         exact AWP.drT [(3,.bool v),(6,.idxV (Zk b3)),(7,.ldV Zc (s:=1) (fun _=>rfl) d (Zi b3) (0 + Int.toNat m * 1) (Nat.zero_add _) []),(11,.idxV (Zk b4)),(12,.ldV Zc (s:=1) (fun _=>rfl) d (Zi b4) (0 + Int.toNat (ZI (m - (1:Int))) * 1) (Nat.zero_add _) []),(13,.call Tryz.func119 [] (Zas e1 e2 e3 e4))] 16 [] [] []
       refine AWP.cif hF (fun e5 hF=>?_) (fun e5 hF=>?_)
       ·refine AWP.skip (AWP.block (AWP.rg0 [] [(0,(.vw 0 0 f)),(1,(i64 b)),(2,(i64 a)),(7,(i64 (ZI (m + (1:Int))))),(8,(i64 g))] (LeQ.start (LeQ.pk [0,1,2,7,8] 1 ?_))))
        exact⟨a0,Nat.lt_succ_self _,(ZI (m + (1:Int))),hF,by kernel_rfl,by kernel_rfl⟩
       ·refine AWP.exit (LeQ.start (LeQ.pk [0,1,2,7,8] 1 ?_))
        have hr:=someb hF
        subst hr
        exact⟨rfl,by kernel_rfl,by kernel_rfl⟩
     ·rintro _ _ _ ⟨rfl,rfl,rfl⟩
      refine AWP.seq (AWP.seq (AWP.rg0 [] [(0,(.vw 0 0 f)),(1,(i64 b)),(2,(i64 a)),(7,(i64 c)),(8,(i64 g)),(37,(vb (c == a)))] ?_))
      refine AWP.cif hF (fun e6 hF=>?_) (fun e6 hF=>?_)
      ·refine AWP.seq (AWP.rg0 [] [(6,(vb true))] (AWP.ret ?_))
       exact LeQ.of (.inr ⟨rfl,(true,k),(someb hF).symm,(FnQ.f0 1 (.inr rfl))⟩)
      ·refine AWP.skip (AWP.seq (AWP.seq (AWP.rg0 [] [(0,(.vw 0 0 f)),(1,(i64 b)),(2,(i64 a)),(7,(i64 c)),(8,(i64 g)),(41,(vb (decide ((ZI (a - b))<(50:Int)))))] ?_)))
       refine AWP.cif hF (fun e7 hF=>?_) (fun e7 hF=>?_)
       ·refine AWP.seq (AWP.rg0 [] [(6,(vb false))] (AWP.ret ?_))
        exact LeQ.of (.inr ⟨rfl,(false,k),(someb hF).symm,(FnQ.f0 1 (.inr rfl))⟩)
       ·refine AWP.skip (AWP.seq ?_)
        obtain⟨a1,b5,hF⟩:=bindb hF
        obtain⟨a2,b6,hF⟩:=bindb hF
        obtain⟨g5,b7,hF⟩:=bindb hF
        obtain⟨g6,b8,hF⟩:=bindb hF
        refine AWP.dr [(8,.idxV (Zk b5)),(9,.ldV Zc (s:=1) (fun _=>rfl) d (Zi b5) (0 + Int.toNat (ZI (c - (1:Int))) * 1) (Nat.zero_add _) []),(12,.idxV (Zk b6)),(13,.ldV Zc (s:=1) (fun _=>rfl) d (Zi b6) (0 + Int.toNat c * 1) (Nat.zero_add _) []),(14,.idxV (Zk b7)),(15,.stV Zc (s:=1) (fun _=>rfl) d (Zi b7) a1 (0 + Int.toNat c * 1) (Nat.zero_add _) []),(16,.idxV (Zk b8)),(17,.stV Zc (s:=1) (fun _=>rfl) d (Zi b8) a2 (0 + Int.toNat (ZI (c - (1:Int))) * 1) (Nat.zero_add _) [])] 16 [] [15] [] [(0,(.vw 0 0 f)),(1,(i64 b)),(2,(i64 a)),(7,(i64 c)),(8,(i64 g))] [.cells (cel Zc (List.set (List.set k (Int.toNat c) a1) (Int.toNat (ZI (c - (1:Int)))) a2) d)] ?_
        obtain⟨a3,e8,hF⟩:=bindb hF
        refine AWP.seq ?_
        refine AWP.mid (fun e st H=>e=.normal∧st=[(0,(.vw 0 0 f)),(1,(i64 b)),(2,(i64 a)),(7,(i64 c)),(8,(i64 g))]∧H=[.cells (cel Zc a3 d)]) ?_ ?_
        ·clear hF
         have hF:=e8
         refine AWP.seq (AWP.rg0 [] [(0,(.vw 0 0 f)),(1,(i64 b)),(2,(i64 a)),(7,(i64 c)),(8,(i64 g)),(61,(vb (decide ((ZI (c - b)) ≥ (2:Int)))))] ?_)
         refine AWP.cif hF (fun e9 hF=>?_) (fun e9 hF=>?_)
         ·refine AWP.seq (AWP.rg0 [] [(0,(.vw 0 0 f)),(1,(i64 b)),(2,(i64 a)),(7,(i64 c)),(8,(i64 g)),(9,(i64 (ZI (c - (1:Int)))))] ?_)
          obtain⟨b9,f1,hF⟩:=bindb hF
          refine AWP.mid (fun e st H=>e=.normal∧st=[(0,(.vw 0 0 f)),(1,(i64 b)),(2,(i64 a)),(7,(i64 c)),(8,(i64 g))]∧H=[.cells (cel Zc b9 d)]) ?_ ?_
          ·clear hF
           refine AWP.kp [0,1,2,7,8,9] 1 ?_
           refine AWP.bround (fun n st H=>∃ o,∃ i,Zr f n o i=some b9∧st=[(0,(.vw 0 0 f)),(1,(i64 b)),(2,(i64 a)),(7,(i64 c)),(8,(i64 g)),(9,(i64 i))]∧H=[.cells (cel Zc o d)]) fuel ⟨(List.set (List.set k (Int.toNat c) a1) (Int.toNat (ZI (c - (1:Int)))) a2),(ZI (c - (1:Int))),f1,by kernel_rfl,by kernel_rfl⟩ ?_
           rintro a4 st H ⟨o,i,hF,rfl,rfl⟩
           cases a4 with
           | zero=>exact noneb hF
           | succ a4=>
            rw [Zr] at hF
            refine AWP.seq (AWP.seq (AWP.rg0 [] [(0,(.vw 0 0 f)),(1,(i64 b)),(2,(i64 a)),(7,(i64 c)),(8,(i64 g)),(9,(i64 i)),(65,(vb (decide (i ≥ (1:Int)))))] ?_))
            refine AWP.cif hF (fun f2 hF=>?_) (fun f2 hF=>?_)
            ·refine AWP.skip (AWP.seq (AWP.block (AWP.seq (AWP.seq ?_))))
             obtain⟨f3,c0,hF⟩:=bindb hF
             obtain⟨f4,c1,hF⟩:=bindb hF
             obtain⟨c2,f5,hF⟩:=bindb hF
             refine AWP.dr [(2,.idxV (Zk c0)),(3,.ldV Zc (s:=1) (fun _=>rfl) d (Zi c0) (0 + Int.toNat i * 1) (Nat.zero_add _) []),(7,.idxV (Zk c1)),(8,.ldV Zc (s:=1) (fun _=>rfl) d (Zi c1) (0 + Int.toNat (ZI (i - (1:Int))) * 1) (Nat.zero_add _) []),(9,.call Tryz.func119 [] (Zas f3 f4 c2 f5))] 11 [] [] [] [(0,(.vw 0 0 f)),(1,(i64 b)),(2,(i64 a)),(7,(i64 c)),(8,(i64 g)),(9,(i64 i)),(78,(vb (!c2)))] [.cells (cel Zc o d)] ?_
             refine AWP.cif hF (fun f6 hF=>?_) (fun f6 hF=>?_)
             ·refine AWP.exit (LeQ.start (LeQ.pk [0,1,2,7,8] 1 ?_))
              have hr:=someb hF
              subst hr
              exact⟨rfl,by kernel_rfl,by kernel_rfl⟩
             ·refine AWP.skip ?_
              obtain⟨a5,c3,hF⟩:=bindb hF
              obtain⟨a6,c4,hF⟩:=bindb hF
              obtain⟨g7,c5,hF⟩:=bindb hF
              obtain⟨g8,c6,hF⟩:=bindb hF
              refine AWP.dr [(8,.idxV (Zk c3)),(9,.ldV Zc (s:=1) (fun _=>rfl) d (Zi c3) (0 + Int.toNat (ZI (i - (1:Int))) * 1) (Nat.zero_add _) []),(12,.idxV (Zk c4)),(13,.ldV Zc (s:=1) (fun _=>rfl) d (Zi c4) (0 + Int.toNat i * 1) (Nat.zero_add _) []),(14,.idxV (Zk c5)),(15,.stV Zc (s:=1) (fun _=>rfl) d (Zi c5) a5 (0 + Int.toNat i * 1) (Nat.zero_add _) []),(16,.idxV (Zk c6)),(17,.stV Zc (s:=1) (fun _=>rfl) d (Zi c6) a6 (0 + Int.toNat (ZI (i - (1:Int))) * 1) (Nat.zero_add _) [])] 16 [] [15] [] [(0,(.vw 0 0 f)),(1,(i64 b)),(2,(i64 a)),(7,(i64 c)),(8,(i64 g)),(9,(i64 i))] [.cells (cel Zc (List.set (List.set o (Int.toNat i) a5) (Int.toNat (ZI (i - (1:Int)))) a6) d)] (AWP.rg0 [] [(0,(.vw 0 0 f)),(1,(i64 b)),(2,(i64 a)),(7,(i64 c)),(8,(i64 g)),(9,(i64 (ZI (i - (1:Int)))))] (LeQ.start (LeQ.pk [0,1,2,7,8,9] 1 ?_)))
              exact⟨a4,Nat.lt_succ_self _,(List.set (List.set o (Int.toNat i) a5) (Int.toNat (ZI (i - (1:Int)))) a6),(ZI (i - (1:Int))),hF,by kernel_rfl,by kernel_rfl⟩
            ·refine AWP.exit (LeQ.start (LeQ.pk [0,1,2,7,8] 1 ?_))
             have hr:=someb hF
             subst hr
             exact⟨rfl,by kernel_rfl,by kernel_rfl⟩
          ·rintro _ _ _ ⟨rfl,rfl,rfl⟩
           refine LeQ.start (LeQ.pk [0,1,2,7,8] 1 ?_)
           have hr:=someb hF
           subst hr
           exact⟨rfl,by kernel_rfl,by kernel_rfl⟩
         ·refine AWP.skip (LeQ.start (LeQ.pk [0,1,2,7,8] 1 ?_))
          have hr:=someb hF
          subst hr
          exact⟨rfl,by kernel_rfl,by kernel_rfl⟩
        ·rintro _ _ _ ⟨rfl,rfl,rfl⟩
         refine AWP.seq (AWP.rg0 [] [(0,(.vw 0 0 f)),(1,(i64 b)),(2,(i64 a)),(7,(i64 c)),(8,(i64 g)),(98,(vb (decide ((ZI (a - c)) ≥ (2:Int)))))] ?_)
         refine AWP.cif hF (fun f7 hF=>?_) (fun f7 hF=>?_)
         ·refine AWP.seq (AWP.rg0 [] [(0,(.vw 0 0 f)),(1,(i64 b)),(2,(i64 a)),(7,(i64 c)),(8,(i64 g)),(10,(i64 (ZI (c + (1:Int)))))] ?_)
          obtain⟨a7,f8,hF⟩:=bindb hF
          refine AWP.mid (fun e st H=>e=.normal∧st=[(0,(.vw 0 0 f)),(1,(i64 b)),(2,(i64 a)),(7,(i64 c)),(8,(i64 g))]∧H=[.cells (cel Zc a7 d)]) ?_ ?_
          ·clear hF
           refine AWP.kp [0,1,2,7,8,10] 1 ?_
           refine AWP.bround (fun n st H=>∃ p,∃ j,Zw f a n p j=some a7∧st=[(0,(.vw 0 0 f)),(1,(i64 b)),(2,(i64 a)),(7,(i64 c)),(8,(i64 g)),(10,(i64 j))]∧H=[.cells (cel Zc p d)]) fuel ⟨a3,(ZI (c + (1:Int))),f8,by kernel_rfl,by kernel_rfl⟩ ?_
           rintro a8 st H ⟨p,j,hF,rfl,rfl⟩
           cases a8 with
           | zero=>exact noneb hF
           | succ a8=>
            rw [Zw] at hF
            refine AWP.seq (AWP.seq (AWP.rg0 [] [(0,(.vw 0 0 f)),(1,(i64 b)),(2,(i64 a)),(7,(i64 c)),(8,(i64 g)),(10,(i64 j)),(103,(vb (decide (j<a))))] ?_))
            refine AWP.cif hF (fun f9 hF=>?_) (fun f9 hF=>?_)
            ·refine AWP.skip (AWP.seq (AWP.block (AWP.seq (AWP.seq ?_))))
             obtain⟨g0,c7,hF⟩:=bindb hF
             obtain⟨g1,c8,hF⟩:=bindb hF
             obtain⟨c9,g2,hF⟩:=bindb hF
             refine AWP.dr [(2,.idxV (Zk c7)),(3,.ldV Zc (s:=1) (fun _=>rfl) d (Zi c7) (0 + Int.toNat j * 1) (Nat.zero_add _) []),(7,.idxV (Zk c8)),(8,.ldV Zc (s:=1) (fun _=>rfl) d (Zi c8) (0 + Int.toNat (ZI (j - (1:Int))) * 1) (Nat.zero_add _) []),(9,.call Tryz.func119 [] (Zas g0 g1 c9 g2))] 11 [] [] [] [(0,(.vw 0 0 f)),(1,(i64 b)),(2,(i64 a)),(7,(i64 c)),(8,(i64 g)),(10,(i64 j)),(116,(vb (!c9)))] [.cells (cel Zc p d)] ?_
             refine AWP.cif hF (fun g3 hF=>?_) (fun g3 hF=>?_)
             ·refine AWP.exit (LeQ.start (LeQ.pk [0,1,2,7,8] 1 ?_))
              have hr:=someb hF
              subst hr
              exact⟨rfl,by kernel_rfl,by kernel_rfl⟩
             ·refine AWP.skip ?_
              obtain⟨a9,d0,hF⟩:=bindb hF
              obtain⟨b0,d1,hF⟩:=bindb hF
              obtain⟨g9,d2,hF⟩:=bindb hF
              obtain⟨h0,d3,hF⟩:=bindb hF
              refine AWP.dr [(8,.idxV (Zk d0)),(9,.ldV Zc (s:=1) (fun _=>rfl) d (Zi d0) (0 + Int.toNat (ZI (j - (1:Int))) * 1) (Nat.zero_add _) []),(12,.idxV (Zk d1)),(13,.ldV Zc (s:=1) (fun _=>rfl) d (Zi d1) (0 + Int.toNat j * 1) (Nat.zero_add _) []),(14,.idxV (Zk d2)),(15,.stV Zc (s:=1) (fun _=>rfl) d (Zi d2) a9 (0 + Int.toNat j * 1) (Nat.zero_add _) []),(16,.idxV (Zk d3)),(17,.stV Zc (s:=1) (fun _=>rfl) d (Zi d3) b0 (0 + Int.toNat (ZI (j - (1:Int))) * 1) (Nat.zero_add _) [])] 16 [] [15] [] [(0,(.vw 0 0 f)),(1,(i64 b)),(2,(i64 a)),(7,(i64 c)),(8,(i64 g)),(10,(i64 j))] [.cells (cel Zc (List.set (List.set p (Int.toNat j) a9) (Int.toNat (ZI (j - (1:Int)))) b0) d)] (AWP.rg0 [] [(0,(.vw 0 0 f)),(1,(i64 b)),(2,(i64 a)),(7,(i64 c)),(8,(i64 g)),(10,(i64 (ZI (j + (1:Int)))))] (LeQ.start (LeQ.pk [0,1,2,7,8,10] 1 ?_)))
              exact⟨a8,Nat.lt_succ_self _,(List.set (List.set p (Int.toNat j) a9) (Int.toNat (ZI (j - (1:Int)))) b0),(ZI (j + (1:Int))),hF,by kernel_rfl,by kernel_rfl⟩
            ·refine AWP.exit (LeQ.start (LeQ.pk [0,1,2,7,8] 1 ?_))
             have hr:=someb hF
             subst hr
             exact⟨rfl,by kernel_rfl,by kernel_rfl⟩
          ·rintro _ _ _ ⟨rfl,rfl,rfl⟩
           refine LeQ.start (LeQ.pk [0,1,2,7,8] 1 ?_)
           exact(.inl ⟨rfl,a7,c,(someb hF).symm,by kernel_rfl,by kernel_rfl⟩)
         ·refine AWP.skip (LeQ.start (LeQ.pk [0,1,2,7,8] 1 ?_))
          exact(.inl ⟨rfl,a3,c,(someb hF).symm,by kernel_rfl,by kernel_rfl⟩)
    ·rintro _ _ _ (⟨rfl,u,t,rfl,rfl,rfl⟩ | ⟨rfl,g4,rfl,hq⟩)
     ·refine AWP.rg0 [] [(0,(.vw 0 0 f)),(1,(i64 b)),(2,(i64 a)),(7,(i64 t)),(8,(i64 (ZI (g + (1:Int)))))] (LeQ.start (LeQ.pk [0,1,2,7,8] 1 ?_))
      exact⟨z,Nat.lt_succ_self _,u,t,(ZI (g + (1:Int))),hF,by kernel_rfl,by kernel_rfl⟩
     ·exact LeQ.of (.inr ⟨rfl,g4,(someb hF).symm,hq⟩)
   ·refine AWP.exit (LeQ.start (LeQ.pk [] 1 ?_))
    exact(.inl ⟨rfl,k,(someb hF).symm,by kernel_rfl,by kernel_rfl⟩)
 ·rintro _ _ _ (⟨rfl,y,rfl,rfl,rfl⟩ | ⟨rfl,h1,rfl,hq⟩)
  ·refine AWP.seq (AWP.rg0 [] [(6,(vb false))] (AWP.ret ?_))
   have hr:=someb hF
   subst hr
   exact(FnQ.f0 1 (.inr rfl))
  ·have hr:=someb hF
   subst hr
   exact hq
def Zfj (a:List Value) (r:(Int × (List Int))):PV→List Blk→Prop:=fun p K=>p=(i64 r.1)∧K=[.cells (cel Zc r.2 a)]
theorem Zfk (c:Nat) (q:(List Int)) (b:List Value) (a:Int) (p:Int) (l:Int) (r:(Int × (List Int))) (hF:Za8 c q a p l=some r):ACall Tryz.prog glob 120 [(.vw 0 0 c),(i64 a),(i64 p),(i64 l)] [.cells (cel Zc q b)] (Zfj b r):=by
 refine ACall.body Tryz.func120 rfl (by kernel_rfl) ?_
 unfold Za8 at hF
 refine AWP.seq (AWP.rg0 [] [(0,(.vw 0 0 c)),(1,(i64 a)),(2,(i64 p)),(3,(i64 l))] (AWP.seq ?_))
 obtain⟨x,a5,hF⟩:=bindb hF
 obtain⟨y,a6,hF⟩:=bindb hF
 obtain⟨e0,a7,hF⟩:=bindb hF
 obtain⟨e1,a8,hF⟩:=bindb hF
 refine AWP.dr [(6,.idxV (Zk a5)),(7,.ldV Zc (s:=1) (fun _=>rfl) b (Zi a5) (0 + Int.toNat l * 1) (Nat.zero_add _) []),(10,.idxV (Zk a6)),(11,.ldV Zc (s:=1) (fun _=>rfl) b (Zi a6) (0 + Int.toNat a * 1) (Nat.zero_add _) []),(12,.idxV (Zk a7)),(13,.stV Zc (s:=1) (fun _=>rfl) b (Zi a7) x (0 + Int.toNat a * 1) (Nat.zero_add _) []),(14,.idxV (Zk a8)),(15,.stV Zc (s:=1) (fun _=>rfl) b (Zi a8) y (0 + Int.toNat l * 1) (Nat.zero_add _) [])] 14 [] [13] [] [(0,(.vw 0 0 c)),(1,(i64 a)),(2,(i64 p))] [.cells (cel Zc (List.set (List.set q (Int.toNat a) x) (Int.toNat l) y) b)] (AWP.seq (AWP.rg0 [] [(0,(.vw 0 0 c)),(1,(i64 a)),(9,(i64 (ZI (a + (1:Int))))),(10,(i64 (ZI (p - (1:Int)))))] (AWP.seq ?_)))
 obtain⟨a9,c0,hF⟩:=bindb hF
 refine AWP.mid (fun e st H=>(e=.normal∧∃ z,∃ t,a9=(z,t)∧st=[(9,(i64 t))]∧H=[.cells (cel Zc z b)])) ?_ ?_
 ·clear hF
  refine AWP.kp [0,1,9,10] 1 ?_
  refine AWP.bround (fun n st H=>∃ f,∃ u,∃ i,Z6 c a n f u i=some a9∧st=[(0,(.vw 0 0 c)),(1,(i64 a)),(9,(i64 u)),(10,(i64 i))]∧H=[.cells (cel Zc f b)]) fuel ⟨(List.set (List.set q (Int.toNat a) x) (Int.toNat l) y),(ZI (a + (1:Int))),(ZI (p - (1:Int))),c0,by kernel_rfl,by kernel_rfl⟩ ?_
  rintro a0 st H ⟨f,u,i,hF,rfl,rfl⟩
  cases a0 with
  | zero=>exact noneb hF
  | succ a0=>
   rw [Z6] at hF
   refine AWP.block (AWP.seq ?_)
   obtain⟨d,c1,hF⟩:=bindb hF
   refine AWP.mid (fun e st H=>e=.normal∧st=[(0,(.vw 0 0 c)),(1,(i64 a)),(9,(i64 d)),(10,(i64 i))]∧H=[.cells (cel Zc f b)]) ?_ ?_
   ·clear hF
    refine AWP.kp [0,1,9,10] 1 ?_
    refine AWP.bround (fun n st H=>∃ m,Zag c a f i n m=some d∧st=[(0,(.vw 0 0 c)),(1,(i64 a)),(9,(i64 m)),(10,(i64 i))]∧H=[.cells (cel Zc f b)]) fuel ⟨u,c1,by kernel_rfl,by kernel_rfl⟩ ?_
    rintro a1 st H ⟨m,hF,rfl,rfl⟩
    cases a1 with
    | zero=>exact noneb hF
    | succ a1=>
     rw [Zag] at hF
     refine AWP.seq (AWP.seq ?_)
     obtain⟨c2,v,hF⟩:=bindb hF
     replace v:=someb v
     obtain⟨c3,b0,hF⟩:=bindb hF
     refine AWP.to [(0,(.vw 0 0 c)),(1,(i64 a)),(9,(i64 m)),(10,(i64 i)),(43,(vb c3))] [.cells (cel Zc f b)] ?_ ?_
     ·cases c2 with
      | false=>
       have c4:=someb (ifF b0 rfl)
       subst c4
       exact AWP.drT [(3,.bool v)] 15 [] [] []
      | true=>
       have j:=ifT b0 rfl
       obtain⟨c5,b1,j⟩:=bindb j
       obtain⟨c6,b2,j⟩:=bindb j
       obtain⟨c7,c8,j⟩:=bindb j
       replace j:=someb j
       subst j
       exact AWP.drT [(3,.bool v),(6,.idxV (Zk b1)),(7,.ldV Zc (s:=1) (fun _=>rfl) b (Zi b1) (0 + Int.toNat a * 1) (Nat.zero_add _) []),(10,.idxV (Zk b2)),(11,.ldV Zc (s:=1) (fun _=>rfl) b (Zi b2) (0 + Int.toNat m * 1) (Nat.zero_add _) []),(12,.call Tryz.func119 [] (Zas c5 c6 c7 c8))] 15 [] [] []
     refine AWP.cif hF (fun c9 hF=>?_) (fun c9 hF=>?_)
     ·refine AWP.skip (AWP.block (AWP.rg0 [] [(0,(.vw 0 0 c)),(1,(i64 a)),(9,(i64 (ZI (m + (1:Int))))),(10,(i64 i))] (LeQ.start (LeQ.pk [0,1,9,10] 1 ?_))))
      exact⟨a1,Nat.lt_succ_self _,(ZI (m + (1:Int))),hF,by kernel_rfl,by kernel_rfl⟩
     ·refine AWP.exit (LeQ.start (LeQ.pk [0,1,9,10] 1 ?_))
      have hr:=someb hF
      subst hr
      exact⟨rfl,by kernel_rfl,by kernel_rfl⟩
   ·rintro _ _ _ ⟨rfl,rfl,rfl⟩
    refine AWP.seq ?_
    obtain⟨g,d0,hF⟩:=bindb hF
    refine AWP.mid (fun e st H=>e=.normal∧st=[(0,(.vw 0 0 c)),(1,(i64 a)),(9,(i64 d)),(10,(i64 g))]∧H=[.cells (cel Zc f b)]) ?_ ?_
    ·clear hF
     refine AWP.kp [0,1,9,10] 1 ?_
     refine AWP.bround (fun n st H=>∃ o,Zah c a f d n o=some g∧st=[(0,(.vw 0 0 c)),(1,(i64 a)),(9,(i64 d)),(10,(i64 o))]∧H=[.cells (cel Zc f b)]) fuel ⟨i,d0,by kernel_rfl,by kernel_rfl⟩ ?_
     rintro a2 st H ⟨o,hF,rfl,rfl⟩
     cases a2 with
     | zero=>exact noneb hF
     | succ a2=>
      rw [Zah] at hF
      refine AWP.seq (AWP.seq ?_)
      obtain⟨d1,w,hF⟩:=bindb hF
      replace w:=someb w
      obtain⟨d2,b3,hF⟩:=bindb hF
      refine AWP.to [(0,(.vw 0 0 c)),(1,(i64 a)),(9,(i64 d)),(10,(i64 o)),(59,(vb d2))] [.cells (cel Zc f b)] ?_ ?_
      ·cases d1 with
       | false=>
        have d3:=someb (ifF b3 rfl)
        subst d3
        exact AWP.drT [(3,.bool w)] 14 [] [] []
       | true=>
        have k:=ifT b3 rfl
        obtain⟨d4,b4,k⟩:=bindb k
        obtain⟨d5,b5,k⟩:=bindb k
        obtain⟨d6,d7,k⟩:=bindb k
        replace k:=someb k
        subst k
        exact AWP.drT [(3,.bool w),(6,.idxV (Zk b4)),(7,.ldV Zc (s:=1) (fun _=>rfl) b (Zi b4) (0 + Int.toNat a * 1) (Nat.zero_add _) []),(10,.idxV (Zk b5)),(11,.ldV Zc (s:=1) (fun _=>rfl) b (Zi b5) (0 + Int.toNat o * 1) (Nat.zero_add _) []),(12,.call Tryz.func119 [] (Zas d4 d5 d6 d7))] 14 [] [] []
      refine AWP.cif hF (fun d8 hF=>?_) (fun d8 hF=>?_)
      ·refine AWP.skip (AWP.block (AWP.rg0 [] [(0,(.vw 0 0 c)),(1,(i64 a)),(9,(i64 d)),(10,(i64 (ZI (o - (1:Int)))))] (LeQ.start (LeQ.pk [0,1,9,10] 1 ?_))))
       exact⟨a2,Nat.lt_succ_self _,(ZI (o - (1:Int))),hF,by kernel_rfl,by kernel_rfl⟩
      ·refine AWP.exit (LeQ.start (LeQ.pk [0,1,9,10] 1 ?_))
       have hr:=someb hF
       subst hr
       exact⟨rfl,by kernel_rfl,by kernel_rfl⟩
    ·rintro _ _ _ ⟨rfl,rfl,rfl⟩
     refine AWP.seq (AWP.seq (AWP.rg0 [] [(0,(.vw 0 0 c)),(1,(i64 a)),(9,(i64 d)),(10,(i64 g)),(64,(vb (decide (d > g))))] ?_))
     refine AWP.cif hF (fun d9 hF=>?_) (fun d9 hF=>?_)
     ·refine AWP.exit (LeQ.start (LeQ.pk [9] 1 ?_))
      exact⟨rfl,f,d,(someb hF).symm,by kernel_rfl,by kernel_rfl⟩
     ·refine AWP.skip (AWP.seq ?_)
      obtain⟨a3,b6,hF⟩:=bindb hF
      obtain⟨a4,b7,hF⟩:=bindb hF
      obtain⟨e2,b8,hF⟩:=bindb hF
      obtain⟨e3,b9,hF⟩:=bindb hF
      refine AWP.dr [(6,.idxV (Zk b6)),(7,.ldV Zc (s:=1) (fun _=>rfl) b (Zi b6) (0 + Int.toNat g * 1) (Nat.zero_add _) []),(10,.idxV (Zk b7)),(11,.ldV Zc (s:=1) (fun _=>rfl) b (Zi b7) (0 + Int.toNat d * 1) (Nat.zero_add _) []),(12,.idxV (Zk b8)),(13,.stV Zc (s:=1) (fun _=>rfl) b (Zi b8) a3 (0 + Int.toNat d * 1) (Nat.zero_add _) []),(14,.idxV (Zk b9)),(15,.stV Zc (s:=1) (fun _=>rfl) b (Zi b9) a4 (0 + Int.toNat g * 1) (Nat.zero_add _) [])] 14 [] [13] [] [(0,(.vw 0 0 c)),(1,(i64 a)),(9,(i64 d)),(10,(i64 g))] [.cells (cel Zc (List.set (List.set f (Int.toNat d) a3) (Int.toNat g) a4) b)] (AWP.seq (AWP.rg0 [] [(0,(.vw 0 0 c)),(1,(i64 a)),(9,(i64 (ZI (d + (1:Int))))),(10,(i64 g))] (AWP.rg0 [] [(0,(.vw 0 0 c)),(1,(i64 a)),(9,(i64 (ZI (d + (1:Int))))),(10,(i64 (ZI (g - (1:Int)))))] (LeQ.start (LeQ.pk [0,1,9,10] 1 ?_)))))
      exact⟨a0,Nat.lt_succ_self _,(List.set (List.set f (Int.toNat d) a3) (Int.toNat g) a4),(ZI (d + (1:Int))),(ZI (g - (1:Int))),hF,by kernel_rfl,by kernel_rfl⟩
 ·rintro _ _ _ ⟨rfl,z,t,rfl,rfl,rfl⟩
  refine AWP.seq (AWP.rg0 [] [(8,(i64 t))] (AWP.ret ?_))
  have hr:=someb hF
  subst hr
  exact(FnQ.f0 1 (.inr rfl))
def Zgd (a:List Value) (r:(Int × Bool × (List Int))):PV→List Blk→Prop:=fun p K=>p=(.tup [(i64 r.1),(vb r.2.1)])∧K=[.cells (cel Zc r.2.2 a)]
theorem Zge (c:Nat) (j:(List Int)) (b:List Value) (a:Int) (p:Int) (d:Int) (r:(Int × Bool × (List Int))) (hF:Zbm c j a p d=some r):ACall Tryz.prog glob 121 [(.vw 0 0 c),(i64 a),(i64 p),(i64 d)] [.cells (cel Zc j b)] (Zgd b r):=by
 refine ACall.body Tryz.func121 rfl (by kernel_rfl) ?_
 unfold Zbm at hF
 refine AWP.seq (AWP.rg0 [] [(0,(.vw 0 0 c)),(1,(i64 a)),(2,(i64 p)),(3,(i64 d))] (AWP.seq ?_))
 obtain⟨l,b7,hF⟩:=bindb hF
 obtain⟨m,b8,hF⟩:=bindb hF
 obtain⟨j4,b9,hF⟩:=bindb hF
 obtain⟨j5,c0,hF⟩:=bindb hF
 refine AWP.dr [(6,.idxV (Zk b7)),(7,.ldV Zc (s:=1) (fun _=>rfl) b (Zi b7) (0 + Int.toNat d * 1) (Nat.zero_add _) []),(10,.idxV (Zk b8)),(11,.ldV Zc (s:=1) (fun _=>rfl) b (Zi b8) (0 + Int.toNat a * 1) (Nat.zero_add _) []),(12,.idxV (Zk b9)),(13,.stV Zc (s:=1) (fun _=>rfl) b (Zi b9) l (0 + Int.toNat a * 1) (Nat.zero_add _) []),(14,.idxV (Zk c0)),(15,.stV Zc (s:=1) (fun _=>rfl) b (Zi c0) m (0 + Int.toNat d * 1) (Nat.zero_add _) [])] 14 [] [13] [] [(0,(.vw 0 0 c)),(1,(i64 a)),(2,(i64 p))] [.cells (cel Zc (List.set (List.set j (Int.toNat a) l) (Int.toNat d) m) b)] (AWP.seq (AWP.rg0 [] [(0,(.vw 0 0 c)),(1,(i64 a)),(10,(i64 (ZI (a + (1:Int))))),(11,(i64 (ZI (p - (1:Int)))))] (AWP.seq ?_)))
 obtain⟨f,f5,hF⟩:=bindb hF
 refine AWP.mid (fun e st H=>e=.normal∧st=[(0,(.vw 0 0 c)),(1,(i64 a)),(10,(i64 f)),(11,(i64 (ZI (p - (1:Int)))))]∧H=[.cells (cel Zc (List.set (List.set j (Int.toNat a) l) (Int.toNat d) m) b)]) ?_ ?_
 ·clear hF
  refine AWP.kp [0,1,10,11] 1 ?_
  refine AWP.bround (fun n st H=>∃ y,Zaw c j a p d l m n y=some f∧st=[(0,(.vw 0 0 c)),(1,(i64 a)),(10,(i64 y)),(11,(i64 (ZI (p - (1:Int)))))]∧H=[.cells (cel Zc (List.set (List.set j (Int.toNat a) l) (Int.toNat d) m) b)]) fuel ⟨(ZI (a + (1:Int))),f5,by kernel_rfl,by kernel_rfl⟩ ?_
  rintro a8 st H ⟨y,hF,rfl,rfl⟩
  cases a8 with
  | zero=>exact noneb hF
  | succ a8=>
   rw [Zaw] at hF
   refine AWP.seq (AWP.seq ?_)
   obtain⟨f6,a2,hF⟩:=bindb hF
   replace a2:=someb a2
   obtain⟨f7,c1,hF⟩:=bindb hF
   refine AWP.to [(0,(.vw 0 0 c)),(1,(i64 a)),(10,(i64 y)),(11,(i64 (ZI (p - (1:Int))))),(43,(vb f7))] [.cells (cel Zc (List.set (List.set j (Int.toNat a) l) (Int.toNat d) m) b)] ?_ ?_
   ·cases f6 with
    | false=>
     have f8:=someb (ifF c1 rfl)
     subst f8
     exact AWP.drT [(3,.bool a2)] 14 [] [] []
    | true=>
     have q:=ifT c1 rfl
     obtain⟨f9,c2,q⟩:=bindb q
     obtain⟨g0,c3,q⟩:=bindb q
     obtain⟨g1,g2,q⟩:=bindb q
     replace q:=someb q
     subst q
     exact AWP.drT [(3,.bool a2),(6,.idxV (Zk c2)),(7,.ldV Zc (s:=1) (fun _=>rfl) b (Zi c2) (0 + Int.toNat y * 1) (Nat.zero_add _) []),(10,.idxV (Zk c3)),(11,.ldV Zc (s:=1) (fun _=>rfl) b (Zi c3) (0 + Int.toNat a * 1) (Nat.zero_add _) []),(12,.call Tryz.func119 [] (Zas f9 g0 g1 g2))] 14 [] [] []
   refine AWP.cif hF (fun g3 hF=>?_) (fun g3 hF=>?_)
   ·refine AWP.skip (AWP.block (AWP.rg0 [] [(0,(.vw 0 0 c)),(1,(i64 a)),(10,(i64 (ZI (y + (1:Int))))),(11,(i64 (ZI (p - (1:Int)))))] (LeQ.start (LeQ.pk [0,1,10,11] 1 ?_))))
    exact⟨a8,Nat.lt_succ_self _,(ZI (y + (1:Int))),hF,by kernel_rfl,by kernel_rfl⟩
   ·refine AWP.exit (LeQ.start (LeQ.pk [0,1,10,11] 1 ?_))
    have hr:=someb hF
    subst hr
    exact⟨rfl,by kernel_rfl,by kernel_rfl⟩
 ·rintro _ _ _ ⟨rfl,rfl,rfl⟩
  refine AWP.seq ?_
  obtain⟨g,g4,hF⟩:=bindb hF
  refine AWP.mid (fun e st H=>e=.normal∧st=[(0,(.vw 0 0 c)),(1,(i64 a)),(10,(i64 f)),(11,(i64 g))]∧H=[.cells (cel Zc (List.set (List.set j (Int.toNat a) l) (Int.toNat d) m) b)]) ?_ ?_
  ·clear hF
   refine AWP.kp [0,1,10,11] 1 ?_
   refine AWP.bround (fun n st H=>∃ z,Zax c j a d l m f n z=some g∧st=[(0,(.vw 0 0 c)),(1,(i64 a)),(10,(i64 f)),(11,(i64 z))]∧H=[.cells (cel Zc (List.set (List.set j (Int.toNat a) l) (Int.toNat d) m) b)]) fuel ⟨(ZI (p - (1:Int))),g4,by kernel_rfl,by kernel_rfl⟩ ?_
   rintro a9 st H ⟨z,hF,rfl,rfl⟩
   cases a9 with
   | zero=>exact noneb hF
   | succ a9=>
    rw [Zax] at hF
    refine AWP.seq (AWP.seq ?_)
    obtain⟨g5,a3,hF⟩:=bindb hF
    replace a3:=someb a3
    obtain⟨g6,c4,hF⟩:=bindb hF
    refine AWP.to [(0,(.vw 0 0 c)),(1,(i64 a)),(10,(i64 f)),(11,(i64 z)),(60,(vb g6))] [.cells (cel Zc (List.set (List.set j (Int.toNat a) l) (Int.toNat d) m) b)] ?_ ?_
    ·cases g5 with
     | false=>
      have g7:=someb (ifF c4 rfl)
      subst g7
      exact AWP.drT [(3,.bool a3)] 15 [] [] []
     | true=>
      have t:=ifT c4 rfl
      obtain⟨g8,c5,t⟩:=bindb t
      obtain⟨g9,c6,t⟩:=bindb t
      obtain⟨h0,h1,t⟩:=bindb t
      replace t:=someb t
      subst t
      exact AWP.drT [(3,.bool a3),(6,.idxV (Zk c5)),(7,.ldV Zc (s:=1) (fun _=>rfl) b (Zi c5) (0 + Int.toNat z * 1) (Nat.zero_add _) []),(10,.idxV (Zk c6)),(11,.ldV Zc (s:=1) (fun _=>rfl) b (Zi c6) (0 + Int.toNat a * 1) (Nat.zero_add _) []),(12,.call Tryz.func119 [] (Zas g8 g9 h0 h1))] 15 [] [] []
    refine AWP.cif hF (fun h2 hF=>?_) (fun h2 hF=>?_)
    ·refine AWP.skip (AWP.block (AWP.rg0 [] [(0,(.vw 0 0 c)),(1,(i64 a)),(10,(i64 f)),(11,(i64 (ZI (z - (1:Int)))))] (LeQ.start (LeQ.pk [0,1,10,11] 1 ?_))))
     exact⟨a9,Nat.lt_succ_self _,(ZI (z - (1:Int))),hF,by kernel_rfl,by kernel_rfl⟩
    ·refine AWP.exit (LeQ.start (LeQ.pk [0,1,10,11] 1 ?_))
     have hr:=someb hF
     subst hr
     exact⟨rfl,by kernel_rfl,by kernel_rfl⟩
  ·rintro _ _ _ ⟨rfl,rfl,rfl⟩
   refine AWP.seq (AWP.seq (AWP.rg0 [] [(0,(.vw 0 0 c)),(1,(i64 a)),(10,(i64 f)),(11,(i64 g)),(65,(vb (decide (f > g))))] ?_))
   refine AWP.cif hF (fun h3 hF=>?_) (fun h3 hF=>?_)
   ·refine AWP.seq ?_
    obtain⟨c7,c8,hF⟩:=bindb hF
    obtain⟨c9,d0,hF⟩:=bindb hF
    obtain⟨j6,d1,hF⟩:=bindb hF
    obtain⟨j7,d2,hF⟩:=bindb hF
    refine AWP.dr [(6,.idxV (Zk c8)),(7,.ldV Zc (s:=1) (fun _=>rfl) b (Zi c8) (0 + Int.toNat a * 1) (Nat.zero_add _) []),(10,.idxV (Zk d0)),(11,.ldV Zc (s:=1) (fun _=>rfl) b (Zi d0) (0 + Int.toNat g * 1) (Nat.zero_add _) []),(12,.idxV (Zk d1)),(13,.stV Zc (s:=1) (fun _=>rfl) b (Zi d1) c7 (0 + Int.toNat g * 1) (Nat.zero_add _) []),(14,.idxV (Zk d2)),(15,.stV Zc (s:=1) (fun _=>rfl) b (Zi d2) c9 (0 + Int.toNat a * 1) (Nat.zero_add _) [])] 14 [] [13] [] [(11,(i64 g))] [.cells (cel Zc (List.set (List.set (List.set (List.set j (Int.toNat a) l) (Int.toNat d) m) (Int.toNat g) c7) (Int.toNat a) c9) b)] (AWP.seq (AWP.rg0 [] [(8,(i64 g)),(9,(vb true))] (AWP.ret ?_)))
    have hr:=someb hF
    subst hr
    exact(FnQ.f0 1 (.inr rfl))
   ·refine AWP.skip (AWP.seq ?_)
    obtain⟨b0,d3,hF⟩:=bindb hF
    obtain⟨b1,d4,hF⟩:=bindb hF
    obtain⟨j8,d5,hF⟩:=bindb hF
    obtain⟨j9,d6,hF⟩:=bindb hF
    refine AWP.dr [(6,.idxV (Zk d3)),(7,.ldV Zc (s:=1) (fun _=>rfl) b (Zi d3) (0 + Int.toNat g * 1) (Nat.zero_add _) []),(10,.idxV (Zk d4)),(11,.ldV Zc (s:=1) (fun _=>rfl) b (Zi d4) (0 + Int.toNat f * 1) (Nat.zero_add _) []),(12,.idxV (Zk d5)),(13,.stV Zc (s:=1) (fun _=>rfl) b (Zi d5) b0 (0 + Int.toNat f * 1) (Nat.zero_add _) []),(14,.idxV (Zk d6)),(15,.stV Zc (s:=1) (fun _=>rfl) b (Zi d6) b1 (0 + Int.toNat g * 1) (Nat.zero_add _) [])] 14 [] [13] [] [(0,(.vw 0 0 c)),(1,(i64 a)),(10,(i64 f)),(11,(i64 g))] [.cells (cel Zc (List.set (List.set (List.set (List.set j (Int.toNat a) l) (Int.toNat d) m) (Int.toNat f) b0) (Int.toNat g) b1) b)] (AWP.seq (AWP.rg0 [] [(0,(.vw 0 0 c)),(1,(i64 a)),(10,(i64 (ZI (f + (1:Int))))),(11,(i64 g))] (AWP.seq (AWP.rg0 [] [(0,(.vw 0 0 c)),(1,(i64 a)),(10,(i64 (ZI (f + (1:Int))))),(11,(i64 (ZI (g - (1:Int)))))] (AWP.seq ?_)))))
    obtain⟨d7,h4,hF⟩:=bindb hF
    refine AWP.mid (fun e st H=>(e=.normal∧∃ a4,∃ x,d7=(a4,x)∧st=[(0,(.vw 0 0 c)),(1,(i64 a)),(11,(i64 x))]∧H=[.cells (cel Zc a4 b)])) ?_ ?_
    ·clear hF
     refine AWP.kp [0,1,10,11] 1 ?_
     refine AWP.bround (fun n st H=>∃ k,∃ a5,∃ u,Zai c a n k a5 u=some d7∧st=[(0,(.vw 0 0 c)),(1,(i64 a)),(10,(i64 a5)),(11,(i64 u))]∧H=[.cells (cel Zc k b)]) fuel ⟨(List.set (List.set (List.set (List.set j (Int.toNat a) l) (Int.toNat d) m) (Int.toNat f) b0) (Int.toNat g) b1),(ZI (f + (1:Int))),(ZI (g - (1:Int))),h4,by kernel_rfl,by kernel_rfl⟩ ?_
     rintro b2 st H ⟨k,a5,u,hF,rfl,rfl⟩
     cases b2 with
     | zero=>exact noneb hF
     | succ b2=>
      rw [Zai] at hF
      refine AWP.block (AWP.seq ?_)
      obtain⟨i,h5,hF⟩:=bindb hF
      refine AWP.mid (fun e st H=>e=.normal∧st=[(0,(.vw 0 0 c)),(1,(i64 a)),(10,(i64 i)),(11,(i64 u))]∧H=[.cells (cel Zc k b)]) ?_ ?_
      ·clear hF
       refine AWP.kp [0,1,10,11] 1 ?_
       refine AWP.bround (fun n st H=>∃ a0,Zay c a k u n a0=some i∧st=[(0,(.vw 0 0 c)),(1,(i64 a)),(10,(i64 a0)),(11,(i64 u))]∧H=[.cells (cel Zc k b)]) fuel ⟨a5,h5,by kernel_rfl,by kernel_rfl⟩ ?_
       rintro b3 st H ⟨a0,hF,rfl,rfl⟩
       cases b3 with
       | zero=>exact noneb hF
       | succ b3=>
        rw [Zay] at hF
        refine AWP.seq (AWP.seq ?_)
        obtain⟨h6,a6,hF⟩:=bindb hF
        replace a6:=someb a6
        obtain⟨h7,d8,hF⟩:=bindb hF
        refine AWP.to [(0,(.vw 0 0 c)),(1,(i64 a)),(10,(i64 a0)),(11,(i64 u)),(112,(vb h7))] [.cells (cel Zc k b)] ?_ ?_
        ·cases h6 with
         | false=>
          have h8:=someb (ifF d8 rfl)
          subst h8
          exact AWP.drT [(3,.bool a6)] 14 [] [] []
         | true=>
          have v:=ifT d8 rfl
          obtain⟨h9,d9,v⟩:=bindb v
          obtain⟨i0,e0,v⟩:=bindb v
          obtain⟨i1,i2,v⟩:=bindb v
          replace v:=someb v
          subst v
          exact AWP.drT [(3,.bool a6),(6,.idxV (Zk d9)),(7,.ldV Zc (s:=1) (fun _=>rfl) b (Zi d9) (0 + Int.toNat a0 * 1) (Nat.zero_add _) []),(10,.idxV (Zk e0)),(11,.ldV Zc (s:=1) (fun _=>rfl) b (Zi e0) (0 + Int.toNat a * 1) (Nat.zero_add _) []),(12,.call Tryz.func119 [] (Zas h9 i0 i1 i2))] 14 [] [] []
        refine AWP.cif hF (fun i3 hF=>?_) (fun i3 hF=>?_)
        ·refine AWP.skip (AWP.block (AWP.rg0 [] [(0,(.vw 0 0 c)),(1,(i64 a)),(10,(i64 (ZI (a0 + (1:Int))))),(11,(i64 u))] (LeQ.start (LeQ.pk [0,1,10,11] 1 ?_))))
         exact⟨b3,Nat.lt_succ_self _,(ZI (a0 + (1:Int))),hF,by kernel_rfl,by kernel_rfl⟩
        ·refine AWP.exit (LeQ.start (LeQ.pk [0,1,10,11] 1 ?_))
         have hr:=someb hF
         subst hr
         exact⟨rfl,by kernel_rfl,by kernel_rfl⟩
      ·rintro _ _ _ ⟨rfl,rfl,rfl⟩
       refine AWP.seq ?_
       obtain⟨o,i4,hF⟩:=bindb hF
       refine AWP.mid (fun e st H=>e=.normal∧st=[(0,(.vw 0 0 c)),(1,(i64 a)),(10,(i64 i)),(11,(i64 o))]∧H=[.cells (cel Zc k b)]) ?_ ?_
       ·clear hF
        refine AWP.kp [0,1,10,11] 1 ?_
        refine AWP.bround (fun n st H=>∃ a1,Zaz c a k i n a1=some o∧st=[(0,(.vw 0 0 c)),(1,(i64 a)),(10,(i64 i)),(11,(i64 a1))]∧H=[.cells (cel Zc k b)]) fuel ⟨u,i4,by kernel_rfl,by kernel_rfl⟩ ?_
        rintro b4 st H ⟨a1,hF,rfl,rfl⟩
        cases b4 with
        | zero=>exact noneb hF
        | succ b4=>
         rw [Zaz] at hF
         refine AWP.seq (AWP.seq ?_)
         obtain⟨i5,a7,hF⟩:=bindb hF
         replace a7:=someb a7
         obtain⟨i6,e1,hF⟩:=bindb hF
         refine AWP.to [(0,(.vw 0 0 c)),(1,(i64 a)),(10,(i64 i)),(11,(i64 a1)),(129,(vb i6))] [.cells (cel Zc k b)] ?_ ?_
         ·cases i5 with
          | false=>
           have i7:=someb (ifF e1 rfl)
           subst i7
           exact AWP.drT [(3,.bool a7)] 15 [] [] []
          | true=>
           have w:=ifT e1 rfl
           obtain⟨i8,e2,w⟩:=bindb w
           obtain⟨i9,e3,w⟩:=bindb w
           obtain⟨j0,j1,w⟩:=bindb w
           replace w:=someb w
           subst w
           exact AWP.drT [(3,.bool a7),(6,.idxV (Zk e2)),(7,.ldV Zc (s:=1) (fun _=>rfl) b (Zi e2) (0 + Int.toNat a1 * 1) (Nat.zero_add _) []),(10,.idxV (Zk e3)),(11,.ldV Zc (s:=1) (fun _=>rfl) b (Zi e3) (0 + Int.toNat a * 1) (Nat.zero_add _) []),(12,.call Tryz.func119 [] (Zas i8 i9 j0 j1))] 15 [] [] []
         refine AWP.cif hF (fun j2 hF=>?_) (fun j2 hF=>?_)
         ·refine AWP.skip (AWP.block (AWP.rg0 [] [(0,(.vw 0 0 c)),(1,(i64 a)),(10,(i64 i)),(11,(i64 (ZI (a1 - (1:Int)))))] (LeQ.start (LeQ.pk [0,1,10,11] 1 ?_))))
          exact⟨b4,Nat.lt_succ_self _,(ZI (a1 - (1:Int))),hF,by kernel_rfl,by kernel_rfl⟩
         ·refine AWP.exit (LeQ.start (LeQ.pk [0,1,10,11] 1 ?_))
          have hr:=someb hF
          subst hr
          exact⟨rfl,by kernel_rfl,by kernel_rfl⟩
       ·rintro _ _ _ ⟨rfl,rfl,rfl⟩
        refine AWP.seq (AWP.seq (AWP.rg0 [] [(0,(.vw 0 0 c)),(1,(i64 a)),(10,(i64 i)),(11,(i64 o)),(134,(vb (decide (i > o))))] ?_))
        refine AWP.cif hF (fun j3 hF=>?_) (fun j3 hF=>?_)
        ·refine AWP.exit (LeQ.start (LeQ.pk [0,1,11] 1 ?_))
         exact⟨rfl,k,o,(someb hF).symm,by kernel_rfl,by kernel_rfl⟩
        ·refine AWP.skip (AWP.seq ?_)
         obtain⟨b5,e4,hF⟩:=bindb hF
         obtain⟨b6,e5,hF⟩:=bindb hF
         obtain⟨k0,e6,hF⟩:=bindb hF
         obtain⟨k1,e7,hF⟩:=bindb hF
         refine AWP.dr [(6,.idxV (Zk e4)),(7,.ldV Zc (s:=1) (fun _=>rfl) b (Zi e4) (0 + Int.toNat o * 1) (Nat.zero_add _) []),(10,.idxV (Zk e5)),(11,.ldV Zc (s:=1) (fun _=>rfl) b (Zi e5) (0 + Int.toNat i * 1) (Nat.zero_add _) []),(12,.idxV (Zk e6)),(13,.stV Zc (s:=1) (fun _=>rfl) b (Zi e6) b5 (0 + Int.toNat i * 1) (Nat.zero_add _) []),(14,.idxV (Zk e7)),(15,.stV Zc (s:=1) (fun _=>rfl) b (Zi e7) b6 (0 + Int.toNat o * 1) (Nat.zero_add _) [])] 14 [] [13] [] [(0,(.vw 0 0 c)),(1,(i64 a)),(10,(i64 i)),(11,(i64 o))] [.cells (cel Zc (List.set (List.set k (Int.toNat i) b5) (Int.toNat o) b6) b)] (AWP.seq (AWP.rg0 [] [(0,(.vw 0 0 c)),(1,(i64 a)),(10,(i64 (ZI (i + (1:Int))))),(11,(i64 o))] (AWP.rg0 [] [(0,(.vw 0 0 c)),(1,(i64 a)),(10,(i64 (ZI (i + (1:Int))))),(11,(i64 (ZI (o - (1:Int)))))] (LeQ.start (LeQ.pk [0,1,10,11] 1 ?_)))))
         exact⟨b2,Nat.lt_succ_self _,(List.set (List.set k (Int.toNat i) b5) (Int.toNat o) b6),(ZI (i + (1:Int))),(ZI (o - (1:Int))),hF,by kernel_rfl,by kernel_rfl⟩
    ·rintro _ _ _ ⟨rfl,a4,x,rfl,rfl,rfl⟩
     refine AWP.seq ?_
     obtain⟨e8,e9,hF⟩:=bindb hF
     obtain⟨f1,f2,hF⟩:=bindb hF
     obtain⟨k2,f3,hF⟩:=bindb hF
     obtain⟨k3,f4,hF⟩:=bindb hF
     refine AWP.dr [(6,.idxV (Zk e9)),(7,.ldV Zc (s:=1) (fun _=>rfl) b (Zi e9) (0 + Int.toNat a * 1) (Nat.zero_add _) []),(10,.idxV (Zk f2)),(11,.ldV Zc (s:=1) (fun _=>rfl) b (Zi f2) (0 + Int.toNat x * 1) (Nat.zero_add _) []),(12,.idxV (Zk f3)),(13,.stV Zc (s:=1) (fun _=>rfl) b (Zi f3) e8 (0 + Int.toNat x * 1) (Nat.zero_add _) []),(14,.idxV (Zk f4)),(15,.stV Zc (s:=1) (fun _=>rfl) b (Zi f4) f1 (0 + Int.toNat a * 1) (Nat.zero_add _) [])] 14 [] [13] [] [(11,(i64 x))] [.cells (cel Zc (List.set (List.set a4 (Int.toNat x) e8) (Int.toNat a) f1) b)] (AWP.seq (AWP.rg0 [] [(8,(i64 x)),(9,(vb false))] (AWP.ret ?_)))
     have hr:=someb hF
     subst hr
     exact(FnQ.f0 1 (.inr rfl))
def Zc6 (a:List Value) (r:(List Int)):PV→List Blk→Prop:=fun p K=>p=(.tup [])∧K=[.cells (cel Zc r a)]
abbrev Zey (a:List Value) (r:(List Int)):Exit→St→List Blk→Prop:=FnQ Tryz.prog Tryz.f111.results 1 (Zc6 a r)
theorem Zgf:∀(nr:Nat) (g:Nat) (a1:(List Int)) (d:List Value) (v:Int) (w:Int) (x:Int) (r:(List Int)) (hF:Zp nr g a1 v w x=some r),ACall Tryz.prog glob 111 [(.vw 0 0 g),(i64 v),(i64 w),(i64 x)] [.cells (cel Zc a1 d)] (Zc6 d r):=by
 intro nr
 induction nr with
 | zero=>intro g a1 d v w x r hF; exact noneb (by rw [Zp] at hF; exact hF)
 | succ nr ih=>
  intro g a1 d v w x r hF
  refine ACall.body Tryz.func111 rfl (by kernel_rfl) ?_
  rw [Zp] at hF
  refine AWP.seq (AWP.rg0 [] [(0,(.vw 0 0 g)),(1,(i64 v)),(2,(i64 w)),(3,(i64 x)),(8,(vb true))] (AWP.seq (AWP.rg0 [] [(0,(.vw 0 0 g)),(1,(i64 v)),(2,(i64 w)),(3,(i64 x)),(8,(vb true)),(9,(vb true))] ?_)))
  obtain⟨b3,b9,hF⟩:=bindb hF
  refine AWP.mid (fun e st H=>(e=.ret∧∃ r,b3=r∧Zey d r e st H)) ?_ ?_
  ·clear hF
   refine AWP.kp [0,1,2,3,8,9] 1 ?_
   refine AWP.bround (fun n st H=>∃ o,∃ b,∃ a,∃ l,∃ j,∃ k,Zad g (Zp nr) n o b a l j k=some b3∧st=[(0,(.vw 0 0 g)),(1,(i64 b)),(2,(i64 a)),(3,(i64 l)),(8,(vb j)),(9,(vb k))]∧H=[.cells (cel Zc o d)]) fuel ⟨a1,v,w,x,true,true,b9,by kernel_rfl,by kernel_rfl⟩ ?_
   rintro a2 st H ⟨o,b,a,l,j,k,hF,rfl,rfl⟩
   cases a2 with
   | zero=>exact noneb hF
   | succ a2=>
    rw [Zad] at hF
    refine AWP.block (AWP.seq (AWP.rg0 [] [(0,(.vw 0 0 g)),(1,(i64 b)),(2,(i64 a)),(3,(i64 l)),(8,(vb j)),(9,(vb k)),(10,(i64 (ZI (a - b))))] (AWP.seq (AWP.seq (AWP.rg0 [] [(0,(.vw 0 0 g)),(1,(i64 b)),(2,(i64 a)),(3,(i64 l)),(8,(vb j)),(9,(vb k)),(10,(i64 (ZI (a - b)))),(23,(vb (decide ((ZI (a - b))≤(12:Int)))))] ?_)))))
    refine AWP.cif hF (fun c0 hF=>?_) (fun c0 hF=>?_)
    ·refine AWP.seq ?_
     obtain⟨a5,c1,hF⟩:=bindb hF
     refine AWP.rg [(3,.callC Tryz.func113 [] (closedH.c (Zn (row:=Zc) (fun _=>rfl) o d) closedH.n) (closedH.c (Zn (row:=Zc) (fun _=>rfl) a5 d) closedH.n) (Zfq g o d b a a5 c1))] [] [.cells (cel Zc a5 d)] (AWP.ret ?_)
     exact LeQ.of ⟨rfl,a5,(someb hF).symm,(FnQ.f0 1 (.inr rfl))⟩
    ·refine AWP.skip (AWP.seq (AWP.seq (AWP.rg0 [] [(0,(.vw 0 0 g)),(1,(i64 b)),(2,(i64 a)),(3,(i64 l)),(8,(vb j)),(9,(vb k)),(10,(i64 (ZI (a - b)))),(29,(vb (l == (0:Int))))] ?_)))
     refine AWP.cif hF (fun c2 hF=>?_) (fun c2 hF=>?_)
     ·refine AWP.seq ?_
      obtain⟨a6,c3,hF⟩:=bindb hF
      refine AWP.rg [(3,.callC Tryz.func114 [] (closedH.c (Zn (row:=Zc) (fun _=>rfl) o d) closedH.n) (closedH.c (Zn (row:=Zc) (fun _=>rfl) a6 d) closedH.n) (Zgl g o d b a a6 c3))] [] [.cells (cel Zc a6 d)] (AWP.ret ?_)
      exact LeQ.of ⟨rfl,a6,(someb hF).symm,(FnQ.f0 1 (.inr rfl))⟩
     ·refine AWP.skip ?_
      obtain⟨c4,c5,hF⟩:=bindb hF
      refine AWP.seq ?_
      refine AWP.mid (fun e st H=>(e=.normal∧∃ q,∃ i,c4=(q,i)∧st=[(0,(.vw 0 0 g)),(1,(i64 b)),(2,(i64 a)),(3,(i64 i)),(8,(vb j)),(9,(vb k)),(10,(i64 (ZI (a - b))))]∧H=[.cells (cel Zc q d)])) ?_ ?_
      ·clear hF
       have hF:=c5
       refine AWP.seq (AWP.rg0 [] [(0,(.vw 0 0 g)),(1,(i64 b)),(2,(i64 a)),(3,(i64 l)),(8,(vb j)),(9,(vb k)),(10,(i64 (ZI (a - b)))),(35,(vb (!j)))] ?_)
       refine AWP.cif hF (fun c6 hF=>?_) (fun c6 hF=>?_)
       ·refine AWP.seq ?_
        obtain⟨a7,c7,hF⟩:=bindb hF
        refine AWP.rg [(3,.callC Tryz.func115 [] (closedH.c (Zn (row:=Zc) (fun _=>rfl) o d) closedH.n) (closedH.c (Zn (row:=Zc) (fun _=>rfl) a7 d) closedH.n) (Zfs g o d b a a7 c7))] [(0,(.vw 0 0 g)),(1,(i64 b)),(2,(i64 a)),(3,(i64 l)),(8,(vb j)),(9,(vb k)),(10,(i64 (ZI (a - b))))] [.cells (cel Zc a7 d)] (AWP.rg0 [] [(0,(.vw 0 0 g)),(1,(i64 b)),(2,(i64 a)),(3,(i64 (ZI (l - (1:Int))))),(8,(vb j)),(9,(vb k)),(10,(i64 (ZI (a - b))))] (LeQ.start (LeQ.pk [0,1,2,3,8,9,10] 1 ?_)))
        exact⟨rfl,a7,(ZI (l - (1:Int))),(someb hF).symm,by kernel_rfl,by kernel_rfl⟩
       ·refine AWP.skip (LeQ.start (LeQ.pk [0,1,2,3,8,9,10] 1 ?_))
        exact⟨rfl,o,l,(someb hF).symm,by kernel_rfl,by kernel_rfl⟩
      ·rintro _ _ _ ⟨rfl,q,i,rfl,rfl,rfl⟩
       refine AWP.seq ?_
       obtain⟨m,c8,hF⟩:=bindb hF
       refine AWP.rg0 [(3,.callC Tryz.func116 [] (closedH.c (Zn (row:=Zc) (fun _=>rfl) q d) closedH.n) (closedH.c (Zn (row:=Zc) (fun _=>rfl) q d) closedH.n) (Zf6 g q d b a m c8))] [(0,(.vw 0 0 g)),(1,(i64 b)),(2,(i64 a)),(3,(i64 i)),(8,(vb j)),(9,(vb k)),(10,(i64 (ZI (a - b)))),(11,(i64 m.1)),(12,(i64 m.2))] ?_
       obtain⟨c9,d0,hF⟩:=bindb hF
       refine AWP.seq ?_
       refine AWP.mid (fun e st H=>(e=.normal∧∃ y,∃ p,∃ a8,c9=(y,p,a8)∧st=[(0,(.vw 0 0 g)),(1,(i64 b)),(2,(i64 a)),(3,(i64 i)),(8,(vb j)),(9,(vb k)),(10,(i64 (ZI (a - b)))),(11,(i64 p)),(12,(i64 a8))]∧H=[.cells (cel Zc y d)])) ?_ ?_
       ·clear hF
        have hF:=d0
        refine AWP.seq (AWP.rg0 [] [(0,(.vw 0 0 g)),(1,(i64 b)),(2,(i64 a)),(3,(i64 i)),(8,(vb j)),(9,(vb k)),(10,(i64 (ZI (a - b)))),(11,(i64 m.1)),(12,(i64 m.2)),(50,(vb (m.2 == (2:Int))))] ?_)
        refine AWP.cif hF (fun d1 hF=>?_) (fun d1 hF=>?_)
        ·refine AWP.seq ?_
         obtain⟨a9,d2,hF⟩:=bindb hF
         refine AWP.rg [(3,.callC Tryz.func117 [] (closedH.c (Zn (row:=Zc) (fun _=>rfl) q d) closedH.n) (closedH.c (Zn (row:=Zc) (fun _=>rfl) a9 d) closedH.n) (Zf1 g q d b a a9 d2))] [(0,(.vw 0 0 g)),(1,(i64 b)),(2,(i64 a)),(3,(i64 i)),(8,(vb j)),(9,(vb k)),(10,(i64 (ZI (a - b)))),(11,(i64 m.1))] [.cells (cel Zc a9 d)] (AWP.seq (AWP.rg0 [] [(0,(.vw 0 0 g)),(1,(i64 b)),(2,(i64 a)),(3,(i64 i)),(8,(vb j)),(9,(vb k)),(10,(i64 (ZI (a - b)))),(11,(i64 (ZI ((ZI (a - (1:Int))) - (ZI (m.1 - b))))))] (AWP.rg0 [] [(0,(.vw 0 0 g)),(1,(i64 b)),(2,(i64 a)),(3,(i64 i)),(8,(vb j)),(9,(vb k)),(10,(i64 (ZI (a - b)))),(11,(i64 (ZI ((ZI (a - (1:Int))) - (ZI (m.1 - b)))))),(12,(i64 (1:Int)))] (LeQ.start (LeQ.pk [0,1,2,3,8,9,10,11,12] 1 ?_)))))
         exact⟨rfl,a9,(ZI ((ZI (a - (1:Int))) - (ZI (m.1 - b)))),(1:Int),(someb hF).symm,by kernel_rfl,by kernel_rfl⟩
        ·refine AWP.skip (LeQ.start (LeQ.pk [0,1,2,3,8,9,10,11,12] 1 ?_))
         exact⟨rfl,q,m.1,m.2,(someb hF).symm,by kernel_rfl,by kernel_rfl⟩
       ·rintro _ _ _ ⟨rfl,y,p,a8,rfl,rfl,rfl⟩
        obtain⟨b4,d3,hF⟩:=bindb hF
        refine AWP.seq ?_
        refine AWP.mid (fun e st H=>(e=.normal∧∃ u,b4=(.inl u)∧st=[(0,(.vw 0 0 g)),(1,(i64 b)),(2,(i64 a)),(3,(i64 i)),(8,(vb j)),(9,(vb k)),(10,(i64 (ZI (a - b)))),(11,(i64 p))]∧H=[.cells (cel Zc u d)])∨(e=.ret∧∃ r,b4=(.inr r)∧Zey d r e st H)) ?_ ?_
        ·clear hF
         have hF:=d3
         refine AWP.seq ?_
         obtain⟨d4,a3,hF⟩:=bindb hF
         replace a3:=someb a3
         obtain⟨b5,a4,hF⟩:=bindb hF
         replace a4:=someb a4
         refine AWP.to [(0,(.vw 0 0 g)),(1,(i64 b)),(2,(i64 a)),(3,(i64 i)),(8,(vb j)),(9,(vb k)),(10,(i64 (ZI (a - b)))),(11,(i64 p)),(68,(vb (b5 && (a8 == (1:Int)))))] [.cells (cel Zc y d)] ?_ ?_
         ·cases d4 with
          | false=>
           subst a4
           exact AWP.rgT [(1,.bool a3)]
          | true=>
           cases b5 with
           | false=>
            exact AWP.rgT [(1,.bool a3),(4,.bool a4)]
           | true=>
            exact AWP.rgT [(1,.bool a3),(4,.bool a4)]
         refine AWP.cif hF (fun d5 hF=>?_) (fun d5 hF=>?_)
         ·refine AWP.seq ?_
          obtain⟨a0,d6,hF⟩:=bindb hF
          refine AWP.rg [(3,.callC Tryz.func118 [] (closedH.c (Zn (row:=Zc) (fun _=>rfl) y d) closedH.n) (closedH.c (Zn (row:=Zc) (fun _=>rfl) a0.2 d) closedH.n) (Ze1 g y d b a a0 d6))] [(0,(.vw 0 0 g)),(1,(i64 b)),(2,(i64 a)),(3,(i64 i)),(8,(vb j)),(9,(vb k)),(10,(i64 (ZI (a - b)))),(11,(i64 p)),(72,(vb a0.1))] [.cells (cel Zc a0.2 d)] ?_
          refine AWP.cif hF (fun d7 hF=>?_) (fun d7 hF=>?_)
          ·refine AWP.ret ?_
           exact LeQ.of (.inr ⟨rfl,a0.2,(someb hF).symm,(FnQ.f0 1 (.inr rfl))⟩)
          ·refine AWP.skip (LeQ.start (LeQ.pk [0,1,2,3,8,9,10,11] 1 ?_))
           exact(.inl ⟨rfl,a0.2,(someb hF).symm,by kernel_rfl,by kernel_rfl⟩)
         ·refine AWP.skip (LeQ.start (LeQ.pk [0,1,2,3,8,9,10,11] 1 ?_))
          exact(.inl ⟨rfl,y,(someb hF).symm,by kernel_rfl,by kernel_rfl⟩)
        ·rintro _ _ _ (⟨rfl,u,rfl,rfl,rfl⟩ | ⟨rfl,d8,rfl,hq⟩)
         ·refine AWP.seq (AWP.seq ?_)
          obtain⟨d9,b0,hF⟩:=bindb hF
          replace b0:=someb b0
          obtain⟨e0,b6,hF⟩:=bindb hF
          refine AWP.to [(0,(.vw 0 0 g)),(1,(i64 b)),(2,(i64 a)),(3,(i64 i)),(8,(vb j)),(9,(vb k)),(10,(i64 (ZI (a - b)))),(11,(i64 p)),(87,(vb e0))] [.cells (cel Zc u d)] ?_ ?_
          ·cases d9 with
           | false=>
            have e1:=someb (ifF b6 rfl)
            subst e1
            exact AWP.drT [(2,.bool b0)] 15 [] [] []
           | true=>
            have t:=ifT b6 rfl
            obtain⟨e2,b7,t⟩:=bindb t
            obtain⟨e3,b8,t⟩:=bindb t
            obtain⟨e4,e5,t⟩:=bindb t
            replace t:=someb t
            subst t
            exact AWP.drT [(2,.bool b0),(6,.idxV (Zk b7)),(7,.ldV Zc (s:=1) (fun _=>rfl) d (Zi b7) (0 + Int.toNat (ZI (b - (1:Int))) * 1) (Nat.zero_add _) []),(10,.idxV (Zk b8)),(11,.ldV Zc (s:=1) (fun _=>rfl) d (Zi b8) (0 + Int.toNat p * 1) (Nat.zero_add _) []),(12,.call Tryz.func119 [] (Zas e2 e3 e4 e5))] 15 [] [] []
          refine AWP.cif hF (fun e6 hF=>?_) (fun e6 hF=>?_)
          ·refine AWP.seq ?_
           obtain⟨z,e7,hF⟩:=bindb hF
           refine AWP.rg [(4,.callC Tryz.func120 [] (closedH.c (Zn (row:=Zc) (fun _=>rfl) u d) closedH.n) (closedH.c (Zn (row:=Zc) (fun _=>rfl) z.2 d) closedH.n) (Zfk g u d b a p z e7))] [(0,(.vw 0 0 g)),(2,(i64 a)),(3,(i64 i)),(8,(vb j)),(9,(vb k)),(13,(i64 z.1))] [.cells (cel Zc z.2 d)] (AWP.seq (AWP.rg0 [] [(0,(.vw 0 0 g)),(1,(i64 z.1)),(2,(i64 a)),(3,(i64 i)),(8,(vb j)),(9,(vb k))] (AWP.exit (LeQ.start (LeQ.pk [0,1,2,3,8,9] 1 ?_)))))
           exact⟨a2,Nat.lt_succ_self _,z.2,z.1,a,i,j,k,hF,by kernel_rfl,by kernel_rfl⟩
          ·refine AWP.skip (AWP.seq ?_)
           obtain⟨f,e8,hF⟩:=bindb hF
           refine AWP.rg [(4,.callC Tryz.func121 [] (closedH.c (Zn (row:=Zc) (fun _=>rfl) u d) closedH.n) (closedH.c (Zn (row:=Zc) (fun _=>rfl) f.2.2 d) closedH.n) (Zge g u d b a p f e8))] [(0,(.vw 0 0 g)),(1,(i64 b)),(2,(i64 a)),(3,(i64 i)),(10,(i64 (ZI (a - b)))),(14,(i64 f.1)),(15,(vb f.2.1))] [.cells (cel Zc f.2.2 d)] (AWP.seq (AWP.rg0 [] [(0,(.vw 0 0 g)),(1,(i64 b)),(2,(i64 a)),(3,(i64 i)),(9,(vb f.2.1)),(10,(i64 (ZI (a - b)))),(14,(i64 f.1))] (AWP.seq (AWP.rg0 [] [(0,(.vw 0 0 g)),(1,(i64 b)),(2,(i64 a)),(3,(i64 i)),(9,(vb f.2.1)),(10,(i64 (ZI (a - b)))),(14,(i64 f.1)),(16,(i64 (ZI (f.1 - b)))),(17,(i64 (ZI (a - f.1))))] (AWP.seq (AWP.rg0 [] [(0,(.vw 0 0 g)),(1,(i64 b)),(2,(i64 a)),(3,(i64 i)),(9,(vb f.2.1)),(14,(i64 f.1)),(16,(i64 (ZI (f.1 - b)))),(17,(i64 (ZI (a - f.1)))),(18,(i64 (ZI (Int.tdiv (ZI (a - b)) (8:Int)))))] ?_))))))
           refine AWP.seq (AWP.rg0 [] [(0,(.vw 0 0 g)),(1,(i64 b)),(2,(i64 a)),(3,(i64 i)),(9,(vb f.2.1)),(14,(i64 f.1)),(16,(i64 (ZI (f.1 - b)))),(17,(i64 (ZI (a - f.1)))),(18,(i64 (ZI (Int.tdiv (ZI (a - b)) (8:Int))))),(113,(vb (decide ((ZI (f.1 - b))<(ZI (a - f.1))))))] ?_)
           refine AWP.cif hF (fun e9 hF=>?_) (fun e9 hF=>?_)
           ·refine AWP.seq (AWP.rg0 [] [(0,(.vw 0 0 g)),(1,(i64 b)),(2,(i64 a)),(3,(i64 i)),(8,(vb (decide ((ZI (f.1 - b)) ≥ (ZI (Int.tdiv (ZI (a - b)) (8:Int))))))),(9,(vb f.2.1)),(14,(i64 f.1))] (AWP.seq ?_))
            obtain⟨b1,f1,hF⟩:=bindb hF
            refine AWP.rg [(4,.callC Tryz.func111 [] (closedH.c (Zn (row:=Zc) (fun _=>rfl) f.2.2 d) closedH.n) (closedH.c (Zn (row:=Zc) (fun _=>rfl) b1 d) closedH.n) (ih g f.2.2 d b f.1 i b1 f1))] [(0,(.vw 0 0 g)),(2,(i64 a)),(3,(i64 i)),(8,(vb (decide ((ZI (f.1 - b)) ≥ (ZI (Int.tdiv (ZI (a - b)) (8:Int))))))),(9,(vb f.2.1)),(14,(i64 f.1))] [.cells (cel Zc b1 d)] (AWP.rg0 [] [(0,(.vw 0 0 g)),(1,(i64 (ZI (f.1 + (1:Int))))),(2,(i64 a)),(3,(i64 i)),(8,(vb (decide ((ZI (f.1 - b)) ≥ (ZI (Int.tdiv (ZI (a - b)) (8:Int))))))),(9,(vb f.2.1))] (LeQ.start (LeQ.pk [0,1,2,3,8,9] 1 ?_)))
            exact⟨a2,Nat.lt_succ_self _,b1,(ZI (f.1 + (1:Int))),a,i,(decide ((ZI (f.1 - b)) ≥ (ZI (Int.tdiv (ZI (a - b)) (8:Int))))),f.2.1,hF,by kernel_rfl,by kernel_rfl⟩
           ·refine AWP.seq (AWP.rg0 [] [(0,(.vw 0 0 g)),(1,(i64 b)),(2,(i64 a)),(3,(i64 i)),(8,(vb (decide ((ZI (a - f.1)) ≥ (ZI (Int.tdiv (ZI (a - b)) (8:Int))))))),(9,(vb f.2.1)),(14,(i64 f.1))] (AWP.seq ?_))
            obtain⟨b2,f2,hF⟩:=bindb hF
            refine AWP.rg [(5,.callC Tryz.func111 [] (closedH.c (Zn (row:=Zc) (fun _=>rfl) f.2.2 d) closedH.n) (closedH.c (Zn (row:=Zc) (fun _=>rfl) b2 d) closedH.n) (ih g f.2.2 d (ZI (f.1 + (1:Int))) a i b2 f2))] [(0,(.vw 0 0 g)),(1,(i64 b)),(3,(i64 i)),(8,(vb (decide ((ZI (a - f.1)) ≥ (ZI (Int.tdiv (ZI (a - b)) (8:Int))))))),(9,(vb f.2.1)),(14,(i64 f.1))] [.cells (cel Zc b2 d)] (AWP.rg0 [] [(0,(.vw 0 0 g)),(1,(i64 b)),(2,(i64 f.1)),(3,(i64 i)),(8,(vb (decide ((ZI (a - f.1)) ≥ (ZI (Int.tdiv (ZI (a - b)) (8:Int))))))),(9,(vb f.2.1))] (LeQ.start (LeQ.pk [0,1,2,3,8,9] 1 ?_)))
            exact⟨a2,Nat.lt_succ_self _,b2,b,f.1,i,(decide ((ZI (a - f.1)) ≥ (ZI (Int.tdiv (ZI (a - b)) (8:Int))))),f.2.1,hF,by kernel_rfl,by kernel_rfl⟩
         ·exact LeQ.of ⟨rfl,d8,(someb hF).symm,hq⟩
  ·rintro _ _ _ ⟨rfl,f3,rfl,hq⟩
   have hr:=someb hF
   subst hr
   exact hq
theorem Zgw (a:Nat) (b:(List Int)) (c:List Value) (d:Int) (f:Int) (g:Int) (r:(List Int)) (hF:Zp fuel a b d f g=some r):ACall Tryz.prog glob 111 [(.vw 0 0 a),(i64 d),(i64 f),(i64 g)] [.cells (cel Zc b c)] (Zc6 c r):=Zgf fuel a b c d f g r hF
def Zhj (a:List Value) (r:(List Int)):PV→List Blk→Prop:=fun p K=>p=(.tup [])∧K=[.cells (cel Zc r a)]
theorem Zhk (a:Nat) (d:(List Int)) (b:List Value) (r:(List Int)) (hF:Zb2 a d=some r):ACall Tryz.prog glob 109 [(.vw 0 0 a)] [.cells (cel Zc d b)] (Zhj b r):=by
 refine ACall.body Tryz.func109 rfl (by kernel_rfl) ?_
 unfold Zb2 at hF
 refine AWP.seq (AWP.rg0 [(1,.lenV a)] [(0,(.vw 0 0 a)),(2,(i64 (a:Int)))] ?_)
 obtain⟨g,i,hF⟩:=bindb hF
 obtain⟨f,j,hF⟩:=bindb hF
 refine AWP.rg [(4,.call Tryz.func112 [] (Zim (IntKind.wrap .u64 (a:Int)) g i)),(5,.callC Tryz.func111 [] (closedH.c (Zn (row:=Zc) (fun _=>rfl) d b) closedH.n) (closedH.c (Zn (row:=Zc) (fun _=>rfl) f b) closedH.n) (Zgw a d b (0:Int) (a:Int) g f j))] [] [.cells (cel Zc f b)] ?_
 have hr:=someb hF
 subst hr
 exact(FnQ.f0 1 (.inl rfl))
def Zez (a:List Value) (r:(Nat × (List Int))):PV→List Blk→Prop:=fun p K=>p=(.vw 0 0 r.1)∧K=[.cells (cel Zc r.2 a)]
abbrev Zgx (a:List Value) (r:(Nat × (List Int))):Exit→St→List Blk→Prop:=FnQ Tryz.prog Tryz.f110.results 1 (Zez a r)
theorem Zgy (a:Nat) (k:(List Int)) (c:List Value) (r:(Nat × (List Int))) (hF:Zbs a k=some r):ACall Tryz.prog glob 110 [(.vw 0 0 a)] [.cells (cel Zc k c)] (Zez c r):=by
 refine ACall.body Tryz.func110 rfl (by kernel_rfl) ?_
 unfold Zbs at hF
 refine AWP.seq (AWP.rg0 [] [(0,(.vw 0 0 a))] (AWP.seq (AWP.seq (AWP.rg0 [(1,.lenV a)] [(0,(.vw 0 0 a)),(8,(vb (decide ((a:Int)<(2:Int)))))] ?_))))
 refine AWP.cif hF (fun a2 hF=>?_) (fun a2 hF=>?_)
 ·refine AWP.seq (AWP.rg0 [] [(2,(.vw 0 0 a))] (AWP.ret ?_))
  have hr:=someb hF
  subst hr
  exact(FnQ.f0 1 (.inr rfl))
 ·refine AWP.skip (AWP.seq (AWP.seq (AWP.rg0 [] [(0,(.vw 0 0 a)),(3,(i64 (1:Int)))] ?_)))
  obtain⟨p,a3,hF⟩:=bindb hF
  refine AWP.mid (fun e st H=>(e=.normal∧p=(.inl ())∧st=[(0,(.vw 0 0 a))]∧H=[.cells (cel Zc k c)])∨(e=.ret∧∃ r,p=(.inr r)∧Zgx c r e st H)) ?_ ?_
  ·clear hF
   refine AWP.kp [0,3] 1 ?_
   refine AWP.bround (fun n st H=>∃ b,Zar a k n b=some p∧st=[(0,(.vw 0 0 a)),(3,(i64 b))]∧H=[.cells (cel Zc k c)]) fuel ⟨(1:Int),a3,by kernel_rfl,by kernel_rfl⟩ ?_
   rintro q st H ⟨b,hF,rfl,rfl⟩
   cases q with
   | zero=>exact noneb hF
   | succ q=>
    rw [Zar] at hF
    refine AWP.seq (AWP.seq (AWP.rg0 [(2,.lenV a)] [(0,(.vw 0 0 a)),(3,(i64 b)),(13,(vb (decide (b<(a:Int)))))] ?_))
    refine AWP.cif hF (fun a4 hF=>?_) (fun a4 hF=>?_)
    ·refine AWP.skip (AWP.seq (AWP.block (AWP.seq ?_)))
     obtain⟨a5,y,hF⟩:=bindb hF
     obtain⟨a6,z,hF⟩:=bindb hF
     refine AWP.dr [(2,.idxV (Zk y)),(3,.ldV Zc (s:=1) (fun _=>rfl) c (Zi y) (0 + Int.toNat b * 1) (Nat.zero_add _) []),(7,.idxV (Zk z)),(8,.ldV Zc (s:=1) (fun _=>rfl) c (Zi z) (0 + Int.toNat (ZI (b - (1:Int))) * 1) (Nat.zero_add _) [])] 10 [] [] [] [(0,(.vw 0 0 a)),(3,(i64 b)),(25,(vb (a5 == a6)))] [.cells (cel Zc k c)] ?_
     refine AWP.cif hF (fun a7 hF=>?_) (fun a7 hF=>?_)
     ·refine AWP.seq ?_
      obtain⟨m,hF⟩:=chkb hF
      refine AWP.rg0 [(2,.sliceV m)] [(0,(.vw 0 0 a)),(3,(i64 b)),(4,(.vw 0 (0 + Int.toNat b * 1) (Int.toNat (a:Int) - Int.toNat b)))] (AWP.seq (AWP.seq (AWP.rg0 [] [(0,(.vw 0 0 a)),(3,(i64 b)),(4,(.vw 0 (0 + Int.toNat b * 1) (Int.toNat (a:Int) - Int.toNat b))),(5,(i64 (1:Int)))] ?_)))
      obtain⟨a0,a8,hF⟩:=bindb hF
      refine AWP.mid (fun e st H=>(e=.normal∧∃ i,∃ d,a0=(i,d)∧st=[(0,(.vw 0 0 a)),(3,(i64 d))]∧H=[.cells (cel Zc i c)])) ?_ ?_
      ·clear hF
       refine AWP.kp [0,3,4,5] 1 ?_
       refine AWP.bround (fun n st H=>∃ j,∃ g,∃ f,Zaq a b n j g f=some a0∧st=[(0,(.vw 0 0 a)),(3,(i64 g)),(4,(.vw 0 (0 + Int.toNat b * 1) (Int.toNat (a:Int) - Int.toNat b))),(5,(i64 f))]∧H=[.cells (cel Zc j c)]) fuel ⟨k,b,(1:Int),a8,by kernel_rfl,by kernel_rfl⟩ ?_
       rintro t st H ⟨j,g,f,hF,rfl,rfl⟩
       cases t with
       | zero=>exact noneb hF
       | succ t=>
        rw [Zaq] at hF
        refine AWP.seq (AWP.seq (AWP.rg0 [(2,.lenV (Int.toNat (a:Int) - Int.toNat b))] [(0,(.vw 0 0 a)),(3,(i64 g)),(4,(.vw 0 (0 + Int.toNat b * 1) (Int.toNat (a:Int) - Int.toNat b))),(5,(i64 f)),(32,(vb (decide (f<(((Int.toNat (a:Int) - Int.toNat b):Nat):Int)))))] ?_))
        refine AWP.cif hF (fun a9 hF=>?_) (fun a9 hF=>?_)
        ·refine AWP.skip ?_
         obtain⟨b0,b1,hF⟩:=bindb hF
         refine AWP.seq ?_
         refine AWP.mid (fun e st H=>(e=.normal∧∃ o,∃ l,b0=(o,l)∧st=[(0,(.vw 0 0 a)),(3,(i64 l)),(4,(.vw 0 (0 + Int.toNat b * 1) (Int.toNat (a:Int) - Int.toNat b))),(5,(i64 f))]∧H=[.cells (cel Zc o c)])) ?_ ?_
         ·clear hF
          have hF:=b1
          refine AWP.block (AWP.seq ?_)
          obtain⟨b2,u,hF⟩:=bindb hF
          obtain⟨b3,v,hF⟩:=bindb hF
          refine AWP.dr [(2,.idxV (Zhu u)),(3,.ldV Zc (s:=1) (fun _=>rfl) c (Zl7 u) ((0 + Int.toNat b * 1) + Int.toNat f * 1) (Zn7 m.1 (Zhu u).1 _) []),(7,.idxV (Zhu v)),(8,.ldV Zc (s:=1) (fun _=>rfl) c (Zl7 v) ((0 + Int.toNat b * 1) + Int.toNat (ZI (f - (1:Int))) * 1) (Zn7 m.1 (Zhu v).1 _) [])] 10 [] [] [] [(0,(.vw 0 0 a)),(3,(i64 g)),(4,(.vw 0 (0 + Int.toNat b * 1) (Int.toNat (a:Int) - Int.toNat b))),(5,(i64 f)),(44,(vb (b2 != b3)))] [.cells (cel Zc j c)] ?_
          refine AWP.cif hF (fun b4 hF=>?_) (fun b4 hF=>?_)
          ·refine AWP.seq ?_
           obtain⟨w,x,hF⟩:=bindb hF
           obtain⟨b8,a1,hF⟩:=bindb hF
           refine AWP.rg [(4,.idxV (Zhu x)),(5,.ldV Zc (s:=1) (fun _=>rfl) c (Zl7 x) ((0 + Int.toNat b * 1) + Int.toNat f * 1) (Zn7 m.1 (Zhu x).1 _) []),(6,.idxV (Zk a1)),(7,.stV Zc (s:=1) (fun _=>rfl) c (Zi a1) w (0 + Int.toNat g * 1) (Nat.zero_add _) [])] [(0,(.vw 0 0 a)),(3,(i64 g)),(4,(.vw 0 (0 + Int.toNat b * 1) (Int.toNat (a:Int) - Int.toNat b))),(5,(i64 f))] [.cells (cel Zc (List.set j (Int.toNat g) w) c)] (AWP.rg0 [] [(0,(.vw 0 0 a)),(3,(i64 (ZI (g + (1:Int))))),(4,(.vw 0 (0 + Int.toNat b * 1) (Int.toNat (a:Int) - Int.toNat b))),(5,(i64 f))] (LeQ.start (LeQ.pk [0,3,4,5] 1 ?_)))
           exact⟨rfl,(List.set j (Int.toNat g) w),(ZI (g + (1:Int))),(someb hF).symm,by kernel_rfl,by kernel_rfl⟩
          ·refine AWP.skip (LeQ.start (LeQ.pk [0,3,4,5] 1 ?_))
           exact⟨rfl,j,g,(someb hF).symm,by kernel_rfl,by kernel_rfl⟩
         ·rintro _ _ _ ⟨rfl,o,l,rfl,rfl,rfl⟩
          refine AWP.rg0 [] [(0,(.vw 0 0 a)),(3,(i64 l)),(4,(.vw 0 (0 + Int.toNat b * 1) (Int.toNat (a:Int) - Int.toNat b))),(5,(i64 (ZI (f + (1:Int)))))] (LeQ.start (LeQ.pk [0,3,4,5] 1 ?_))
          exact⟨t,Nat.lt_succ_self _,o,l,(ZI (f + (1:Int))),hF,by kernel_rfl,by kernel_rfl⟩
        ·refine AWP.exit (LeQ.start (LeQ.pk [0,3] 1 ?_))
         exact⟨rfl,j,g,(someb hF).symm,by kernel_rfl,by kernel_rfl⟩
      ·rintro _ _ _ ⟨rfl,i,d,rfl,rfl,rfl⟩
       refine AWP.seq ?_
       obtain⟨b5,hF⟩:=chkb hF
       obtain⟨b6,hF⟩:=chkb hF
       refine AWP.rg [(2,.sliceV b5),(3,.clrV Zc (s:=1) (fun _=>rfl) (fun _=>rfl) c i (0:Int) (lo:=Int.toNat d) (n:=(Int.toNat (a:Int) - Int.toNat d)) b6 (0 + Int.toNat d * 1) (Nat.zero_add _))] [(0,(.vw 0 0 a)),(3,(i64 d))] [.cells (cel Zc (List.take (Int.toNat d) i++List.replicate (Int.toNat (a:Int) - Int.toNat d) (0:Int)++List.drop (Int.toNat d + (Int.toNat (a:Int) - Int.toNat d)) i) c)] (AWP.seq ?_)
       obtain⟨b7,hF⟩:=chkb hF
       refine AWP.rg0 [(2,.sliceV b7)] [(2,(.vw 0 0 (Int.toNat d)))] (AWP.ret ?_)
       exact LeQ.of (.inr ⟨rfl,((Int.toNat d),(List.take (Int.toNat d) i++List.replicate (Int.toNat (a:Int) - Int.toNat d) (0:Int)++List.drop (Int.toNat d + (Int.toNat (a:Int) - Int.toNat d)) i)),(someb hF).symm,(FnQ.f0 1 (.inr rfl))⟩)
     ·refine AWP.skip (AWP.rg0 [] [(0,(.vw 0 0 a)),(3,(i64 (ZI (b + (1:Int)))))] (LeQ.start (LeQ.pk [0,3] 1 ?_)))
      exact⟨q,Nat.lt_succ_self _,(ZI (b + (1:Int))),hF,by kernel_rfl,by kernel_rfl⟩
    ·refine AWP.exit (LeQ.start (LeQ.pk [0] 1 ?_))
     exact(.inl ⟨rfl,(someb hF).symm,by kernel_rfl,by kernel_rfl⟩)
  ·rintro _ _ _ (⟨rfl,rfl,rfl,rfl⟩ | ⟨rfl,b9,rfl,hq⟩)
   ·refine AWP.seq (AWP.rg0 [] [(2,(.vw 0 0 a))] (AWP.ret ?_))
    have hr:=someb hF
    subst hr
    exact(FnQ.f0 1 (.inr rfl))
   ·have hr:=someb hF
    subst hr
    exact hq
def Zdp (r:(List Int)):PV→List Blk→Prop:=fun p K=>p=(slc 1 Zc r)∧K=[]
abbrev Zft (r:(List Int)):Exit→St→List Blk→Prop:=FnQ Tryz.prog Tryz.f110.results 0 (Zdp r)
theorem Zfu (r:(List Int)) (hF:Zbt=some r):ACall Tryz.prog glob 110 [(slc 1 Zc ([]:(List Int)))] [] (Zdp r):=by
 refine ACall.body Tryz.func110 rfl (by kernel_rfl) ?_
 unfold Zbt at hF
 refine AWP.seq (AWP.rg0 [] [(0,(slc 1 Zc ([]:(List Int))))] (AWP.seq (AWP.seq (AWP.rg0 [(1,.len Zc ([]:(List Int)))] [(0,(slc 1 Zc ([]:(List Int)))),(8,(vb (decide ((List.length ([]:(List Int)):Int)<(2:Int)))))] ?_))))
 refine AWP.cif hF (fun j hF=>?_) (fun j hF=>?_)
 ·refine AWP.seq (AWP.rg0 [] [(2,(slc 1 Zc ([]:(List Int))))] (AWP.ret ?_))
  have hr:=someb hF
  subst hr
  exact(FnQ.f0 0 (.inr rfl))
 ·refine AWP.skip (AWP.seq (AWP.seq (AWP.rg0 [] [(0,(slc 1 Zc ([]:(List Int)))),(3,(i64 (1:Int)))] ?_)))
  obtain⟨d,k,hF⟩:=bindb hF
  refine AWP.mid (fun e st H=>(e=.normal∧d=(.inl ())∧st=[(0,(slc 1 Zc ([]:(List Int))))]∧H=[])∨(e=.ret∧∃ r,d=(.inr r)∧Zft r e st H)) ?_ ?_
  ·clear hF
   refine AWP.kp [0,3] 0 ?_
   refine AWP.bround (fun n st H=>∃ a,Zbl n a=some d∧st=[(0,(slc 1 Zc ([]:(List Int)))),(3,(i64 a))]∧H=[]) fuel ⟨(1:Int),k,by kernel_rfl,by kernel_rfl⟩ ?_
   rintro f st H ⟨a,hF,rfl,rfl⟩
   cases f with
   | zero=>exact noneb hF
   | succ f=>
    rw [Zbl] at hF
    refine AWP.seq (AWP.seq (AWP.rg0 [(2,.len Zc ([]:(List Int)))] [(0,(slc 1 Zc ([]:(List Int)))),(3,(i64 a)),(13,(vb (decide (a<(List.length ([]:(List Int)):Int)))))] ?_))
    refine AWP.cif hF (fun l hF=>?_) (fun l hF=>?_)
    ·refine AWP.skip (AWP.seq (AWP.block (AWP.seq ?_)))
     obtain⟨m,o,hF⟩:=bindb hF
     obtain⟨p,q,hF⟩:=bindb hF
     refine AWP.dr [(2,.idx Zc o),(7,.idx Zc q)] 10 [] [] [] [(0,(slc 1 Zc ([]:(List Int)))),(3,(i64 a)),(25,(vb (m == p)))] [] ?_
     refine AWP.cif hF (fun s hF=>?_) (fun s hF=>?_)
     ·refine AWP.seq ?_
      obtain⟨t,hF⟩:=chkb hF
      refine AWP.rg0 [(2,.slice Zc ([]:(List Int)) t)] [(0,(slc 1 Zc ([]:(List Int)))),(3,(i64 a)),(4,(slc 1 Zc (List.drop (Int.toNat a) (List.take (Int.toNat (List.length ([]:(List Int)):Int)) ([]:(List Int))))))] (AWP.seq (AWP.seq (AWP.rg0 [] [(0,(slc 1 Zc ([]:(List Int)))),(3,(i64 a)),(4,(slc 1 Zc (List.drop (Int.toNat a) (List.take (Int.toNat (List.length ([]:(List Int)):Int)) ([]:(List Int)))))),(5,(i64 (1:Int)))] ?_)))
      obtain⟨i,u,hF⟩:=bindb hF
      refine AWP.mid (fun e st H=>e=.normal∧st=[(0,(slc 1 Zc ([]:(List Int)))),(3,(i64 i))]∧H=[]) ?_ ?_
      ·clear hF
       refine AWP.kp [0,3,4,5] 0 ?_
       refine AWP.bround (fun n st H=>∃ c,∃ b,Zbk a n c b=some i∧st=[(0,(slc 1 Zc ([]:(List Int)))),(3,(i64 c)),(4,(slc 1 Zc (List.drop (Int.toNat a) (List.take (Int.toNat (List.length ([]:(List Int)):Int)) ([]:(List Int)))))),(5,(i64 b))]∧H=[]) fuel ⟨a,(1:Int),u,by kernel_rfl,by kernel_rfl⟩ ?_
       rintro g st H ⟨c,b,hF,rfl,rfl⟩
       cases g with
       | zero=>exact noneb hF
       | succ g=>
        rw [Zbk] at hF
        refine AWP.seq (AWP.seq (AWP.rg0 [(2,.len Zc (List.drop (Int.toNat a) (List.take (Int.toNat (List.length ([]:(List Int)):Int)) ([]:(List Int)))))] [(0,(slc 1 Zc ([]:(List Int)))),(3,(i64 c)),(4,(slc 1 Zc (List.drop (Int.toNat a) (List.take (Int.toNat (List.length ([]:(List Int)):Int)) ([]:(List Int)))))),(5,(i64 b)),(32,(vb (decide (b<(List.length (List.drop (Int.toNat a) (List.take (Int.toNat (List.length ([]:(List Int)):Int)) ([]:(List Int)))):Int)))))] ?_))
        refine AWP.cif hF (fun v hF=>?_) (fun v hF=>?_)
        ·refine AWP.skip ?_
         obtain⟨w,x,hF⟩:=bindb hF
         refine AWP.seq ?_
         refine AWP.mid (fun e st H=>(e=.normal∧w=()∧st=[(0,(slc 1 Zc ([]:(List Int)))),(3,(i64 c)),(4,(slc 1 Zc (List.drop (Int.toNat a) (List.take (Int.toNat (List.length ([]:(List Int)):Int)) ([]:(List Int)))))),(5,(i64 b))]∧H=[])) ?_ ?_
         ·clear hF
          have hF:=x
          refine AWP.block (AWP.seq ?_)
          obtain⟨y,z,hF⟩:=bindb hF
          obtain⟨a0,a1,hF⟩:=bindb hF
          refine AWP.dr [(2,.idx Zc z),(7,.idx Zc a1)] 10 [] [] [] [(0,(slc 1 Zc ([]:(List Int)))),(3,(i64 c)),(4,(slc 1 Zc (List.drop (Int.toNat a) (List.take (Int.toNat (List.length ([]:(List Int)):Int)) ([]:(List Int)))))),(5,(i64 b)),(44,(vb (y != a0)))] [] ?_
          refine AWP.cif hF (fun a2 hF=>?_) (fun a2 hF=>?_)
          ·refine AWP.seq ?_
           exact noneb hF
          ·refine AWP.skip (LeQ.start (LeQ.pk [0,3,4,5] 0 ?_))
           exact⟨rfl,(someb hF).symm,by kernel_rfl,by kernel_rfl⟩
         ·rintro _ _ _ ⟨rfl,rfl,rfl,rfl⟩
          refine AWP.rg0 [] [(0,(slc 1 Zc ([]:(List Int)))),(3,(i64 c)),(4,(slc 1 Zc (List.drop (Int.toNat a) (List.take (Int.toNat (List.length ([]:(List Int)):Int)) ([]:(List Int)))))),(5,(i64 (ZI (b + (1:Int)))))] (LeQ.start (LeQ.pk [0,3,4,5] 0 ?_))
          exact⟨g,Nat.lt_succ_self _,c,(ZI (b + (1:Int))),hF,by kernel_rfl,by kernel_rfl⟩
        ·refine AWP.exit (LeQ.start (LeQ.pk [0,3] 0 ?_))
         have hr:=someb hF
         subst hr
         exact⟨rfl,by kernel_rfl,by kernel_rfl⟩
      ·rintro _ _ _ ⟨rfl,rfl,rfl⟩
       refine AWP.seq ?_
       exact noneb hF
     ·refine AWP.skip (AWP.rg0 [] [(0,(slc 1 Zc ([]:(List Int)))),(3,(i64 (ZI (a + (1:Int)))))] (LeQ.start (LeQ.pk [0,3] 0 ?_)))
      exact⟨f,Nat.lt_succ_self _,(ZI (a + (1:Int))),hF,by kernel_rfl,by kernel_rfl⟩
    ·refine AWP.exit (LeQ.start (LeQ.pk [0] 0 ?_))
     exact(.inl ⟨rfl,(someb hF).symm,by kernel_rfl,by kernel_rfl⟩)
  ·rintro _ _ _ (⟨rfl,rfl,rfl,rfl⟩ | ⟨rfl,a3,rfl,hq⟩)
   ·refine AWP.seq (AWP.rg0 [] [(2,(slc 1 Zc ([]:(List Int))))] (AWP.ret ?_))
    have hr:=someb hF
    subst hr
    exact(FnQ.f0 0 (.inr rfl))
   ·have hr:=someb hF
    subst hr
    exact hq
def Zmf (r:(List Int)):PV→List Blk→Prop:=fun p K=>p=(slc 1 Zc r)∧K=[]
theorem Zmg (b:Int) (a:(List ZL)) (r:(List Int)) (hF:Zdk b a=some r):ACall Tryz.prog glob 106 [(i64 b),(slc 1 Z4 a)] [] (Zmf r):=by
 refine ACall.body Tryz.func106 rfl (by kernel_rfl) ?_
 unfold Zdk at hF
 refine AWP.seq (AWP.rg0 [] [(0,(i64 b)),(1,(slc 1 Z4 a))] (AWP.seq ?_))
 obtain⟨l,y,hF⟩:=bindb hF
 refine AWP.rg [(1,.call Tryz.func108 [] (Zsq b l y)),(4,.m)] [(0,(i64 b)),(1,(slc 1 Z4 a)),(5,(.own 0 (List.length [(0:Int),(IntKind.wrap .u64 ((IntKind.wrap .u64 l) + (1:Int)))])))] [bf 1 32 Zc [(0:Int),(IntKind.wrap .u64 ((IntKind.wrap .u64 l) + (1:Int)))] false] (AWP.seq (AWP.seq (AWP.rg0 [(1,.len Z4 a)] [(0,(i64 b)),(5,(.own 0 (List.length [(0:Int),(IntKind.wrap .u64 ((IntKind.wrap .u64 l) + (1:Int)))]))),(15,(slc 1 Z4 a)),(16,(i64 (List.length a:Int))),(17,(i64 (0:Int)))] ?_)))
 obtain⟨k,z,hF⟩:=bindb hF
 refine AWP.mid (fun e st H=>e=.normal∧st=[(5,(.own 0 (List.length k)))]∧H=[bf 1 32 Zc k false]) ?_ ?_
 ·clear hF
  refine AWP.kp [0,5,15,16,17] 1 ?_
  refine AWP.bround (fun n st H=>∃ j,∃ d,Zby b a n j d=some k∧st=[(0,(i64 b)),(5,(.own 0 (List.length j))),(15,(slc 1 Z4 a)),(16,(i64 (List.length a:Int))),(17,(i64 d))]∧H=[bf 1 32 Zc j false]) fuel ⟨[(0:Int),(IntKind.wrap .u64 ((IntKind.wrap .u64 l) + (1:Int)))],(0:Int),z,by kernel_rfl,by kernel_rfl⟩ ?_
  rintro q st H ⟨j,d,hF,rfl,rfl⟩
  cases q with
  | zero=>exact noneb hF
  | succ q=>
   rw [Zby] at hF
   refine AWP.seq (AWP.rg0 [] [(0,(i64 b)),(5,(.own 0 (List.length j))),(15,(slc 1 Z4 a)),(16,(i64 (List.length a:Int))),(17,(i64 d)),(18,(vb (decide (d<(List.length a:Int)))))] (AWP.seq ?_))
   refine AWP.cif hF (fun a0 hF=>?_) (fun a0 hF=>?_)
   ·refine AWP.skip (AWP.seq (AWP.block (AWP.seq ?_)))
    obtain⟨c,a1,hF⟩:=bindb hF
    refine AWP.rg0 [(0,.idx Z4 a1)] [(0,(i64 b)),(5,(.own 0 (List.length j))),(7,(slc 10 Za c)),(15,(slc 1 Z4 a)),(16,(i64 (List.length a:Int))),(17,(i64 d))] (AWP.seq (AWP.rg0 [(1,.len Za c)] [(0,(i64 b)),(5,(.own 0 (List.length j))),(15,(slc 1 Z4 a)),(16,(i64 (List.length a:Int))),(17,(i64 d)),(21,(slc 10 Za c)),(22,(i64 (List.length c:Int))),(23,(i64 (0:Int)))] ?_))
    obtain⟨o,a2,hF⟩:=bindb hF
    refine AWP.mid (fun e st H=>e=.normal∧st=[(0,(i64 b)),(5,(.own 0 (List.length o))),(15,(slc 1 Z4 a)),(16,(i64 (List.length a:Int))),(17,(i64 d))]∧H=[bf 1 32 Zc o false]) ?_ ?_
    ·clear hF
     refine AWP.kp [0,5,15,16,17,21,22,23] 1 ?_
     refine AWP.bround (fun n st H=>∃ g,∃ i,Zbx b c n g i=some o∧st=[(0,(i64 b)),(5,(.own 0 (List.length g))),(15,(slc 1 Z4 a)),(16,(i64 (List.length a:Int))),(17,(i64 d)),(21,(slc 10 Za c)),(22,(i64 (List.length c:Int))),(23,(i64 i))]∧H=[bf 1 32 Zc g false]) fuel ⟨j,(0:Int),a2,by kernel_rfl,by kernel_rfl⟩ ?_
     rintro t st H ⟨g,i,hF,rfl,rfl⟩
     cases t with
     | zero=>exact noneb hF
     | succ t=>
      rw [Zbx] at hF
      refine AWP.seq (AWP.rg0 [] [(0,(i64 b)),(5,(.own 0 (List.length g))),(15,(slc 1 Z4 a)),(16,(i64 (List.length a:Int))),(17,(i64 d)),(21,(slc 10 Za c)),(22,(i64 (List.length c:Int))),(23,(i64 i)),(24,(vb (decide (i<(List.length c:Int)))))] (AWP.seq ?_))
      refine AWP.cif hF (fun a3 hF=>?_) (fun a3 hF=>?_)
      ·refine AWP.skip (AWP.seq (AWP.block (AWP.seq ?_)))
       obtain⟨f,a4,hF⟩:=bindb hF
       refine AWP.rg [(0,.idx Za a4)] [(0,(i64 b)),(5,(.own 0 (List.length g))),(9,(.ptr 1 0)),(15,(slc 1 Z4 a)),(16,(i64 (List.length a:Int))),(17,(i64 d)),(21,(slc 10 Za c)),(22,(i64 (List.length c:Int))),(23,(i64 i))] [bf 1 32 Zc g false,.cells (Za f)] ?_
       obtain⟨v,hF⟩:=chkb hF
       obtain⟨w,hF⟩:=chkb hF
       obtain⟨a5,hF⟩:=chkb hF
       refine AWP.dr [(2,.ixd v),(4,.ldA Zf (Arr5.get f) 0 2 0 v),(7,.ixd w),(9,.ldA Zf (Arr5.get f) 0 2 1 w),(13,.app Zc (fun _=>by kernel_rfl) a5)] 14 [] [13] [] [(0,(i64 b)),(5,(.own 0 (List.length (g++[(IntKind.wrap .u64 (Arr5.get f b).Lo),(IntKind.wrap .u64 ((IntKind.wrap .u64 (Arr5.get f b).Hi) + (1:Int)))])))),(15,(slc 1 Z4 a)),(16,(i64 (List.length a:Int))),(17,(i64 d)),(21,(slc 10 Za c)),(22,(i64 (List.length c:Int))),(23,(i64 i))] [bf 1 32 Zc (g++[(IntKind.wrap .u64 (Arr5.get f b).Lo),(IntKind.wrap .u64 ((IntKind.wrap .u64 (Arr5.get f b).Hi) + (1:Int)))]) false,.cells (Za f)] (AWP.rg0 [] [(0,(i64 b)),(5,(.own 0 (List.length (g++[(IntKind.wrap .u64 (Arr5.get f b).Lo),(IntKind.wrap .u64 ((IntKind.wrap .u64 (Arr5.get f b).Hi) + (1:Int)))])))),(15,(slc 1 Z4 a)),(16,(i64 (List.length a:Int))),(17,(i64 d)),(21,(slc 10 Za c)),(22,(i64 (List.length c:Int))),(23,(i64 (ZI (i + (1:Int)))))] (LeQ.start (LeQ.pk [0,5,15,16,17,21,22,23] 1 ?_)))
       exact⟨t,Nat.lt_succ_self _,(g++[(IntKind.wrap .u64 (Arr5.get f b).Lo),(IntKind.wrap .u64 ((IntKind.wrap .u64 (Arr5.get f b).Hi) + (1:Int)))]),(ZI (i + (1:Int))),hF,by kernel_rfl,by kernel_rfl⟩
      ·refine AWP.exit (LeQ.start (LeQ.pk [0,5,15,16,17] 1 ?_))
       have hr:=someb hF
       subst hr
       exact⟨rfl,by kernel_rfl,by kernel_rfl⟩
    ·rintro _ _ _ ⟨rfl,rfl,rfl⟩
     refine AWP.rg0 [] [(0,(i64 b)),(5,(.own 0 (List.length o))),(15,(slc 1 Z4 a)),(16,(i64 (List.length a:Int))),(17,(i64 (ZI (d + (1:Int)))))] (LeQ.start (LeQ.pk [0,5,15,16,17] 1 ?_))
     exact⟨q,Nat.lt_succ_self _,o,(ZI (d + (1:Int))),hF,by kernel_rfl,by kernel_rfl⟩
   ·refine AWP.exit (LeQ.start (LeQ.pk [5] 1 ?_))
    have hr:=someb hF
    subst hr
    exact⟨rfl,by kernel_rfl,by kernel_rfl⟩
 ·rintro _ _ _ ⟨rfl,rfl,rfl⟩
  refine AWP.seq ?_
  obtain⟨a6,hF⟩:=chkb hF
  obtain⟨p,a7,hF⟩:=bindb hF
  obtain⟨x,hF⟩:=chkb hF
  refine AWP.rg [(1,.callB (s:=1) Zc Tryz.func109 (fun _=>rfl) a6 x (fun sp_=>Zhk (List.length k) k sp_ p a7))] [(5,(.own 0 (List.length k)))] [bf 1 32 Zc p false] ?_
  rw [show ([(5,(.own 0 (List.length k)))]:St)=[(5,(.own 0 (List.length p)))] by simp only [x]]
  refine AWP.seq ?_
  obtain⟨u,a8,hF⟩:=bindb hF
  refine AWP.rg [(1,.callBE (s:=1) Zc Tryz.func110 (fun _=>rfl) a8 (fun h sp_=>Zgy (List.length p) p sp_ _ h) (fun h=>Zfu _ h))] [(4,(slc 1 Zc (List.take u.1 u.2)))] [bf 1 32 Zc u.2 true] (AWP.ret ?_)
  have hr:=someb hF
  subst hr
  exact(FnQ.f0 0 (.inr rfl))
def Zjm (r:ZL):PV→List Blk→Prop:=fun p K=>p=(slc 10 Za r)∧K=[]
theorem Zgz (a:ZL) (b:Int) (c:Int) (r:ZL) (hF:Zcn a b c=some r):ACall Tryz.prog glob 107 [(slc 10 Za a),(i64 b),(u32 c)] [] (Zjm r):=by
 refine ACall.body Tryz.func107 rfl (by kernel_rfl) ?_
 unfold Zcn at hF
 refine AWP.seq (AWP.rg0 [] [(0,(slc 10 Za a)),(1,(i64 b)),(2,(u32 c))] (AWP.seq (AWP.rg0 [] [(0,(slc 10 Za a)),(1,(i64 b)),(2,(u32 c)),(7,nils)] ?_)))
 refine AWP.own (H':=[bf 10 59 Za ([]:ZL) false]) (st':=[(7,(.own 0 (List.length ([]:ZL)))),(0,(slc 10 Za a)),(1,(i64 b)),(2,(u32 c))]) 7 10 59 (by kernel_rfl) (by kernel_rfl) (by kernel_rfl) ?_
 refine AWP.pick (st':=[(0,(slc 10 Za a)),(1,(i64 b)),(2,(u32 c)),(7,(.own 0 (List.length ([]:ZL))))]) (ks:=[0,1,2,7]) (by kernel_rfl) ?_
 refine AWP.seq (AWP.seq (AWP.rg0 [(1,.len Za a)] [(1,(i64 b)),(2,(u32 c)),(7,(.own 0 (List.length ([]:ZL)))),(10,(slc 10 Za a)),(11,(i64 (List.length a:Int))),(12,(i64 (0:Int)))] ?_))
 obtain⟨j,w,hF⟩:=bindb hF
 refine AWP.mid (fun e st H=>e=.normal∧st=[(7,(.own 0 (List.length j)))]∧H=[bf 10 59 Za j false]) ?_ ?_
 ·clear hF
  refine AWP.kp [1,2,7,10,11,12] 1 ?_
  refine AWP.bround (fun n st H=>∃ d,∃ f,Zbp a b c n d f=some j∧st=[(1,(i64 b)),(2,(u32 c)),(7,(.own 0 (List.length d))),(10,(slc 10 Za a)),(11,(i64 (List.length a:Int))),(12,(i64 f))]∧H=[bf 10 59 Za d false]) fuel ⟨([]:ZL),(0:Int),w,by kernel_rfl,by kernel_rfl⟩ ?_
  rintro q st H ⟨d,f,hF,rfl,rfl⟩
  cases q with
  | zero=>exact noneb hF
  | succ q=>
   rw [Zbp] at hF
   refine AWP.seq (AWP.rg0 [] [(1,(i64 b)),(2,(u32 c)),(7,(.own 0 (List.length d))),(10,(slc 10 Za a)),(11,(i64 (List.length a:Int))),(12,(i64 f)),(13,(vb (decide (f<(List.length a:Int)))))] (AWP.seq ?_))
   refine AWP.cif hF (fun x hF=>?_) (fun x hF=>?_)
   ·refine AWP.skip ?_
    obtain⟨m,y,hF⟩:=bindb hF
    refine AWP.seq ?_
    refine AWP.mid (fun e st H=>e=.normal∧st=[(1,(i64 b)),(2,(u32 c)),(7,(.own 0 (List.length m))),(10,(slc 10 Za a)),(11,(i64 (List.length a:Int))),(12,(i64 f))]∧H=[bf 10 59 Za m false]) ?_ ?_
    ·clear hF
     have hF:=y
     refine AWP.block (AWP.seq ?_)
     obtain⟨g,z,hF⟩:=bindb hF
     refine AWP.rg [(0,.idx Za z)] [(1,(i64 b)),(2,(u32 c)),(7,(.own 0 (List.length d))),(9,(.ptr 1 0)),(10,(slc 10 Za a)),(11,(i64 (List.length a:Int))),(12,(i64 f))] [bf 10 59 Za d false,.cells (Za g)] (AWP.seq ?_)
     obtain⟨o,hF⟩:=chkb hF
     obtain⟨a0,p,hF⟩:=bindb hF
     replace p:=someb p
     obtain⟨a1,u,hF⟩:=bindb hF
     refine AWP.to [(1,(i64 b)),(2,(u32 c)),(7,(.own 0 (List.length d))),(9,(.ptr 1 0)),(10,(slc 10 Za a)),(11,(i64 (List.length a:Int))),(12,(i64 f)),(29,(vb a1))] [bf 10 59 Za d false,.cells (Za g)] ?_ ?_
     ·cases a0 with
      | false=>
       have a2:=someb (ifF u rfl)
       subst a2
       exact AWP.rgT [(1,.ixd o),(3,.ldA Zf (Arr5.get g) 0 2 0 o),(6,.bool p)]
      | true=>
       have k:=ifT u rfl
       obtain⟨v,k⟩:=chkb k
       replace k:=someb k
       subst k
       exact AWP.rgT [(1,.ixd o),(3,.ldA Zf (Arr5.get g) 0 2 0 o),(6,.bool p),(9,.ixd v),(11,.ldA Zf (Arr5.get g) 0 2 1 v)]
     refine AWP.cif hF (fun a3 hF=>?_) (fun a3 hF=>?_)
     ·obtain⟨a4,hF⟩:=chkb hF
      refine AWP.rg [(3,.app Za (fun _=>by kernel_rfl) a4)] [(1,(i64 b)),(2,(u32 c)),(7,(.own 0 (List.length (d++[g])))),(10,(slc 10 Za a)),(11,(i64 (List.length a:Int))),(12,(i64 f))] [bf 10 59 Za (d++[g]) false,.cells (Za g)] (LeQ.start (LeQ.pk [1,2,7,10,11,12] 1 ?_))
      have hr:=someb hF
      subst hr
      exact⟨rfl,by kernel_rfl,by kernel_rfl⟩
     ·refine AWP.skip (LeQ.start (LeQ.pk [1,2,7,10,11,12] 1 ?_))
      have hr:=someb hF
      subst hr
      exact⟨rfl,by kernel_rfl,by kernel_rfl⟩
    ·rintro _ _ _ ⟨rfl,rfl,rfl⟩
     refine AWP.rg0 [] [(1,(i64 b)),(2,(u32 c)),(7,(.own 0 (List.length m))),(10,(slc 10 Za a)),(11,(i64 (List.length a:Int))),(12,(i64 (ZI (f + (1:Int)))))] (LeQ.start (LeQ.pk [1,2,7,10,11,12] 1 ?_))
     exact⟨q,Nat.lt_succ_self _,m,(ZI (f + (1:Int))),hF,by kernel_rfl,by kernel_rfl⟩
   ·refine AWP.exit (LeQ.start (LeQ.pk [7] 1 ?_))
    have hr:=someb hF
    subst hr
    exact⟨rfl,by kernel_rfl,by kernel_rfl⟩
 ·rintro _ _ _ ⟨rfl,rfl,rfl⟩
  refine AWP.seq (AWP.rg0 [] [(6,(.own 0 (List.length j)))] (AWP.ret ?_))
  have hr:=someb hF
  subst hr
  exact(FnQ.f1 0 (.inr rfl) (.inl (Wk.ownT (i:=0) (s:=10) (t:=59) (l:=j) (sh:=false) (row:=Za) (by kernel_rfl) (.inl rfl))))
def Zc2 (r:(ZL × Bool)):PV→List Blk→Prop:=fun p K=>p=(.tup [(slc 10 Za r.1),(vb r.2)])∧K=[]
abbrev Zen (r:(ZL × Bool)):Exit→St→List Blk→Prop:=FnQ Tryz.prog Tryz.f103.results 0 (Zc2 r)
theorem Zga:∀(nr:Nat) (a:Int) (d:ZL) (f:ZL) (g:Int) (r:(ZL × Bool)) (hF:Z1 nr a d f g=some r),ACall Tryz.prog glob 103 [(i64 a),(slc 10 Za d),(slc 10 Za f),(.sc (.func (.func 88) #[] #[])),(i64 g)] [] (Zc2 r):=by
 intro nr
 induction nr with
 | zero=>intro a d f g r hF; exact noneb (by rw [Z1] at hF; exact hF)
 | succ nr ih=>
  intro a d f g r hF
  refine ACall.body Tryz.func103 rfl (by kernel_rfl) ?_
  rw [Z1] at hF
  refine AWP.seq (AWP.rg0 [] [(0,(i64 a)),(1,(slc 10 Za d)),(2,(slc 10 Za f)),(3,(.sc (.func (.func 88) #[] #[]))),(4,(i64 g))] (AWP.seq (AWP.seq (AWP.rg0 [] [(0,(i64 a)),(1,(slc 10 Za d)),(2,(slc 10 Za f)),(3,(.sc (.func (.func 88) #[] #[]))),(4,(i64 g)),(26,(vb (a == (5:Int))))] ?_))))
  refine AWP.cif hF (fun c8 hF=>?_) (fun c8 hF=>?_)
  ·refine AWP.seq (AWP.seq ?_)
   obtain⟨b8,c9,hF⟩:=bindb hF
   refine AWP.rg0 [(2,.len Za d),(5,.len Za f),(7,.call Tryz.func88 [] (Zhi (decide ((List.length d:Int) > (0:Int))) (decide ((List.length f:Int) > (0:Int))) b8 c9))] [(34,(vb b8))] ?_
   refine AWP.cif hF (fun d0 hF=>?_) (fun d0 hF=>?_)
   ·refine AWP.seq (AWP.rg0 [] [(10,(slc 10 Za [(Arr5.mk Zt Zt Zt Zt Zt)])),(11,(vb true))] (AWP.ret ?_))
    have hr:=someb hF
    subst hr
    exact(FnQ.f0 0 (.inr rfl))
   ·refine AWP.skip (AWP.seq (AWP.rg0 [] [(10,nils),(11,(vb true))] (AWP.ret ?_)))
    have hr:=someb hF
    subst hr
    exact(FnQ.f1 0 (.inr rfl) (.inr ⟨_,_,rfl,rfl,(.cons _ _ _ _ (.nil 10) (.cons _ _ _ _ (.refl _) .nil))⟩))
  ·refine AWP.skip (AWP.seq (AWP.seq ?_))
   obtain⟨d1,b0,hF⟩:=bindb hF
   replace b0:=someb b0
   obtain⟨d2,b9,hF⟩:=bindb hF
   refine AWP.to [(0,(i64 a)),(1,(slc 10 Za d)),(2,(slc 10 Za f)),(3,(.sc (.func (.func 88) #[] #[]))),(4,(i64 g)),(47,(vb d2))] [] ?_ ?_
   ·cases d1 with
    | false=>
     have d3:=someb (ifF b9 rfl)
     subst d3
     exact AWP.rgT [(1,.len Za d),(3,.len Za f),(6,.bool b0)]
    | true=>
     have a3:=ifT b9 rfl
     obtain⟨d4,d5,a3⟩:=bindb a3
     replace a3:=someb a3
     subst a3
     exact AWP.rgT [(1,.len Za d),(3,.len Za f),(6,.bool b0),(8,.call Tryz.func88 [] (Zhi false false d4 d5))]
   refine AWP.cif hF (fun d6 hF=>?_) (fun d6 hF=>?_)
   ·refine AWP.seq (AWP.rg0 [] [(10,nils),(11,(vb true))] (AWP.ret ?_))
    have hr:=someb hF
    subst hr
    exact(FnQ.f1 0 (.inr rfl) (.inr ⟨_,_,rfl,rfl,(.cons _ _ _ _ (.nil 10) (.cons _ _ _ _ (.refl _) .nil))⟩))
   ·refine AWP.skip (AWP.seq (AWP.rg0 [] [(0,(i64 a)),(1,(slc 10 Za d)),(2,(slc 10 Za f)),(3,(.sc (.func (.func 88) #[] #[]))),(4,(i64 g)),(12,nils)] ?_))
    refine AWP.own (H':=[bf 3 127 Zg ([]:(List Zh)) false]) (st':=[(12,(.own 0 (List.length ([]:(List Zh))))),(0,(i64 a)),(1,(slc 10 Za d)),(2,(slc 10 Za f)),(3,(.sc (.func (.func 88) #[] #[]))),(4,(i64 g))]) 12 3 127 (by kernel_rfl) (by kernel_rfl) (by kernel_rfl) ?_
    refine AWP.pick (st':=[(0,(i64 a)),(1,(slc 10 Za d)),(2,(slc 10 Za f)),(3,(.sc (.func (.func 88) #[] #[]))),(4,(i64 g)),(12,(.own 0 (List.length ([]:(List Zh)))))]) (ks:=[0,1,2,3,4,12]) (by kernel_rfl) ?_
    refine AWP.seq (AWP.rg0 [] [(0,(i64 a)),(1,(slc 10 Za d)),(2,(slc 10 Za f)),(3,(.sc (.func (.func 88) #[] #[]))),(4,(i64 g)),(12,(.own 0 (List.length ([]:(List Zh))))),(13,(i64 (0:Int)))] (AWP.seq ?_))
    obtain⟨k,d7,hF⟩:=bindb hF
    refine AWP.rg0 [(4,.call Tryz.func106 [] (Zmg a [d,f] k d7))] [(0,(i64 a)),(1,(slc 10 Za d)),(2,(slc 10 Za f)),(3,(.sc (.func (.func 88) #[] #[]))),(4,(i64 g)),(12,(.own 0 (List.length ([]:(List Zh))))),(13,(i64 (0:Int))),(14,(slc 1 Zc k))] (AWP.seq (AWP.seq (AWP.rg0 [] [(0,(i64 a)),(1,(slc 10 Za d)),(2,(slc 10 Za f)),(3,(.sc (.func (.func 88) #[] #[]))),(4,(i64 g)),(12,(.own 0 (List.length ([]:(List Zh))))),(13,(i64 (0:Int))),(14,(slc 1 Zc k)),(15,(i64 (0:Int)))] ?_)))
    obtain⟨b2,d8,hF⟩:=bindb hF
    refine AWP.mid (fun e st H=>(e=.normal∧∃ c,∃ b3,b2=(.inl (c,b3))∧st=[(0,(i64 a)),(12,(.own 0 (List.length c))),(13,(i64 b3))]∧H=[bf 3 127 Zg c false])∨(e=.ret∧∃ r,b2=(.inr r)∧Zen r e st H)) ?_ ?_
    ·clear hF
     refine AWP.kp [0,1,2,3,4,12,13,14,15] 1 ?_
     refine AWP.bround (fun n st H=>∃ b,∃ o,∃ p,Z9 a d f g (Z1 nr) k n b o p=some b2∧st=[(0,(i64 a)),(1,(slc 10 Za d)),(2,(slc 10 Za f)),(3,(.sc (.func (.func 88) #[] #[]))),(4,(i64 g)),(12,(.own 0 (List.length b))),(13,(i64 o)),(14,(slc 1 Zc k)),(15,(i64 p))]∧H=[bf 3 127 Zg b false]) fuel ⟨([]:(List Zh)),(0:Int),(0:Int),d8,by kernel_rfl,by kernel_rfl⟩ ?_
     rintro b4 st H ⟨b,o,p,hF,rfl,rfl⟩
     cases b4 with
     | zero=>exact noneb hF
     | succ b4=>
      rw [Z9] at hF
      refine AWP.seq (AWP.seq (AWP.rg0 [(3,.len Zc k)] [(0,(i64 a)),(1,(slc 10 Za d)),(2,(slc 10 Za f)),(3,(.sc (.func (.func 88) #[] #[]))),(4,(i64 g)),(12,(.own 0 (List.length b))),(13,(i64 o)),(14,(slc 1 Zc k)),(15,(i64 p)),(57,(vb (decide ((ZI (p + (1:Int)))<(List.length k:Int)))))] ?_))
      refine AWP.cif hF (fun d9 hF=>?_) (fun d9 hF=>?_)
      ·refine AWP.skip ?_
       obtain⟨c0,e0,hF⟩:=bindb hF
       refine AWP.seq ?_
       refine AWP.mid (fun e st H=>(e=.normal∧∃ a2,∃ a4,c0=(.inl (a2,a4))∧st=[(0,(i64 a)),(1,(slc 10 Za d)),(2,(slc 10 Za f)),(3,(.sc (.func (.func 88) #[] #[]))),(4,(i64 g)),(12,(.own 0 (List.length a2))),(13,(i64 a4)),(14,(slc 1 Zc k)),(15,(i64 p))]∧H=[bf 3 127 Zg a2 false])∨(e=.ret∧∃ r,c0=(.inr r)∧Zen r e st H)) ?_ ?_
       ·clear hF
        have hF:=e0
        refine AWP.block (AWP.seq ?_)
        obtain⟨w,e1,hF⟩:=bindb hF
        obtain⟨u,e2,hF⟩:=bindb hF
        refine AWP.dr [(2,.idx Zc e1),(8,.idx Zc e2)] 14 [] [13] [] [(0,(i64 a)),(1,(slc 10 Za d)),(2,(slc 10 Za f)),(3,(.sc (.func (.func 88) #[] #[]))),(4,(i64 g)),(12,(.own 0 (List.length b))),(13,(i64 o)),(14,(slc 1 Zc k)),(15,(i64 p)),(16,(.ptr 1 0))] [bf 3 127 Zg b false,.cells (Zf (Zb.mk (IntKind.wrap .u32 w) (IntKind.wrap .u32 (IntKind.wrap .u64 (u - (1:Int))))))] (AWP.seq ?_)
        obtain⟨c1,e3,hF⟩:=bindb hF
        obtain⟨c2,e4,hF⟩:=bindb hF
        obtain⟨m,e5,hF⟩:=bindb hF
        refine AWP.dr [(6,.call Tryz.func107 [] (Zgz d a (IntKind.wrap .u32 w) c1 e3)),(11,.call Tryz.func107 [] (Zgz f a (IntKind.wrap .u32 w) c2 e4)),(14,.call Tryz.func103 [] (ih (ZI (a + (1:Int))) c1 c2 g m e5))] 19 [] [] [] [(0,(i64 a)),(1,(slc 10 Za d)),(2,(slc 10 Za f)),(3,(.sc (.func (.func 88) #[] #[]))),(4,(i64 g)),(12,(.own 0 (List.length b))),(13,(i64 o)),(14,(slc 1 Zc k)),(15,(i64 p)),(16,(.ptr 1 0)),(17,(slc 10 Za m.1)),(18,(vb m.2))] [bf 3 127 Zg b false,.cells (Zf (Zb.mk (IntKind.wrap .u32 w) (IntKind.wrap .u32 (IntKind.wrap .u64 (u - (1:Int))))))] (AWP.seq (AWP.seq (AWP.rg0 [] [(0,(i64 a)),(1,(slc 10 Za d)),(2,(slc 10 Za f)),(3,(.sc (.func (.func 88) #[] #[]))),(4,(i64 g)),(12,(.own 0 (List.length b))),(13,(i64 o)),(14,(slc 1 Zc k)),(15,(i64 p)),(16,(.ptr 1 0)),(17,(slc 10 Za m.1)),(92,(vb (!m.2)))] ?_)))
        refine AWP.cif hF (fun e6 hF=>?_) (fun e6 hF=>?_)
        ·refine AWP.seq (AWP.rg0 [] [(10,nils),(11,(vb false))] (AWP.ret ?_))
         exact LeQ.of (.inr ⟨rfl,(([]:ZL),false),(someb hF).symm,(FnQ.f1 0 (.inr rfl) (.inr ⟨_,_,rfl,rfl,(.cons _ _ _ _ (.nil 10) (.cons _ _ _ _ (.refl _) .nil))⟩))⟩)
        ·refine AWP.skip (AWP.seq (AWP.seq (AWP.rg0 [(1,.len Za m.1)] [(0,(i64 a)),(1,(slc 10 Za d)),(2,(slc 10 Za f)),(3,(.sc (.func (.func 88) #[] #[]))),(4,(i64 g)),(12,(.own 0 (List.length b))),(13,(i64 o)),(14,(slc 1 Zc k)),(15,(i64 p)),(16,(.ptr 1 0)),(17,(slc 10 Za m.1)),(95,(vb ((List.length m.1:Int) == (0:Int))))] ?_)))
         refine AWP.cif hF (fun e7 hF=>?_) (fun e7 hF=>?_)
         ·refine AWP.exit (LeQ.start (LeQ.pk [0,1,2,3,4,12,13,14,15] 1 ?_))
          exact(.inl ⟨rfl,b,o,(someb hF).symm,by kernel_rfl,by kernel_rfl⟩)
         ·refine AWP.skip (AWP.seq (AWP.seq (AWP.rg0 [(1,.len Zg b)] [(0,(i64 a)),(1,(slc 10 Za d)),(2,(slc 10 Za f)),(3,(.sc (.func (.func 88) #[] #[]))),(4,(i64 g)),(12,(.own 0 (List.length b))),(13,(i64 o)),(14,(slc 1 Zc k)),(15,(i64 p)),(16,(.ptr 1 0)),(17,(slc 10 Za m.1)),(19,(i64 (List.length b:Int)))] (AWP.seq ?_))))
          obtain⟨e8,a5,hF⟩:=bindb hF
          replace a5:=someb a5
          obtain⟨h1,c3,hF⟩:=bindb hF
          obtain⟨e9,a6,hF⟩:=bindb hF
          replace a6:=someb a6
          obtain⟨f2,b5,hF⟩:=bindb hF
          refine AWP.to [(0,(i64 a)),(1,(slc 10 Za d)),(2,(slc 10 Za f)),(3,(.sc (.func (.func 88) #[] #[]))),(4,(i64 g)),(12,(.own 0 (List.length b))),(13,(i64 o)),(14,(slc 1 Zc k)),(15,(i64 p)),(16,(.ptr 1 0)),(17,(slc 10 Za m.1)),(19,(i64 (List.length b:Int))),(122,(vb f2))] [bf 3 127 Zg b false,.cells (Zf (Zb.mk (IntKind.wrap .u32 w) (IntKind.wrap .u32 (IntKind.wrap .u64 (u - (1:Int))))))] ?_ ?_
          ·cases e8 with
           | false=>
            have f3:=someb (ifF c3 rfl)
            subst f3
            subst a6
            have f4:=someb (ifF b5 rfl)
            subst f4
            exact AWP.drT [(2,.bool a5)] 25 [] [] []
           | true=>
            have a7:=ifT c3 rfl
            obtain⟨h2,b1,a7⟩:=bindb a7
            replace a7:=someb a7
            subst a7
            cases e9 with
            | false=>
             have f5:=someb (ifF b5 rfl)
             subst f5
             exact AWP.drT [(2,.bool a5),(6,.idx Zg b1),(7,.fdE Zg b (ZI ((List.length b:Int) - (1:Int)))),(8,.fdE Zg b (ZI ((List.length b:Int) - (1:Int)))),(9,.ldE Zg b1),(15,.bool a6)] 25 [] [] []
            | true=>
             have a1:=ifT b5 rfl
             obtain⟨f6,c4,a1⟩:=bindb a1
             obtain⟨f7,f8,a1⟩:=bindb a1
             replace a1:=someb a1
             subst a1
             exact AWP.drT [(2,.bool a5),(6,.idx Zg b1),(7,.fdE Zg b (ZI ((List.length b:Int) - (1:Int)))),(8,.fdE Zg b (ZI ((List.length b:Int) - (1:Int)))),(9,.ldE Zg b1),(15,.bool a6),(19,.idx Zg c4),(20,.fdE Zg b (ZI ((List.length b:Int) - (1:Int)))),(21,.ldE Zg c4),(23,.call Tryz.func102 [] (Zex f6.f_rest m.1 f7 f8))] 25 [] [] []
          refine AWP.cif hF (fun f9 hF=>?_) (fun f9 hF=>?_)
          ·refine AWP.seq ?_
           obtain⟨z,c5,hF⟩:=bindb hF
           refine AWP.rg [(5,.idx Zg c5),(6,.fdE Zg b (ZI ((List.length b:Int) - (1:Int)))),(7,.fdE Zg b (ZI ((List.length b:Int) - (1:Int)))),(8,.stE Zg c5 ({ z with f_values:=({ z.f_values with Hi:=(IntKind.wrap .u32 (IntKind.wrap .u64 (u - (1:Int)))) }:Zb) }:Zh))] [(0,(i64 a)),(1,(slc 10 Za d)),(2,(slc 10 Za f)),(3,(.sc (.func (.func 88) #[] #[]))),(4,(i64 g)),(12,(.own 0 (List.length b))),(13,(i64 o)),(14,(slc 1 Zc k)),(15,(i64 p))] [bf 3 127 Zg (List.set b (Int.toNat (ZI ((List.length b:Int) - (1:Int)))) ({ z with f_values:=({ z.f_values with Hi:=(IntKind.wrap .u32 (IntKind.wrap .u64 (u - (1:Int)))) }:Zb) }:Zh)) false,.cells (Zf (Zb.mk (IntKind.wrap .u32 w) (IntKind.wrap .u32 (IntKind.wrap .u64 (u - (1:Int))))))] ?_
           rw [show ([(0,(i64 a)),(1,(slc 10 Za d)),(2,(slc 10 Za f)),(3,(.sc (.func (.func 88) #[] #[]))),(4,(i64 g)),(12,(.own 0 (List.length b))),(13,(i64 o)),(14,(slc 1 Zc k)),(15,(i64 p))]:St)=[(0,(i64 a)),(1,(slc 10 Za d)),(2,(slc 10 Za f)),(3,(.sc (.func (.func 88) #[] #[]))),(4,(i64 g)),(12,(.own 0 (List.length (List.set b (Int.toNat (ZI ((List.length b:Int) - (1:Int)))) ({ z with f_values:=({ z.f_values with Hi:=(IntKind.wrap .u32 (IntKind.wrap .u64 (u - (1:Int)))) }:Zb) }:Zh))))),(13,(i64 o)),(14,(slc 1 Zc k)),(15,(i64 p))] by simp only [List.length_set]]
           refine AWP.exit (LeQ.start (LeQ.pk [0,1,2,3,4,12,13,14,15] 1 ?_))
           exact(.inl ⟨rfl,(List.set b (Int.toNat (ZI ((List.length b:Int) - (1:Int)))) ({ z with f_values:=({ z.f_values with Hi:=(IntKind.wrap .u32 (IntKind.wrap .u64 (u - (1:Int)))) }:Zb) }:Zh)),o,(someb hF).symm,by kernel_rfl,by kernel_rfl⟩)
          ·refine AWP.skip (AWP.seq ?_)
           obtain⟨g0,hF⟩:=chkb hF
           refine AWP.rg [(5,.app Zg (fun _=>by kernel_rfl) g0)] [(0,(i64 a)),(1,(slc 10 Za d)),(2,(slc 10 Za f)),(3,(.sc (.func (.func 88) #[] #[]))),(4,(i64 g)),(12,(.own 0 (List.length (b++[(Zh.mk (Zb.mk (IntKind.wrap .u32 w) (IntKind.wrap .u32 (IntKind.wrap .u64 (u - (1:Int))))) m.1)])))),(13,(i64 o)),(14,(slc 1 Zc k)),(15,(i64 p)),(17,(slc 10 Za m.1))] [bf 3 127 Zg (b++[(Zh.mk (Zb.mk (IntKind.wrap .u32 w) (IntKind.wrap .u32 (IntKind.wrap .u64 (u - (1:Int))))) m.1)]) false,.cells (Zf (Zb.mk (IntKind.wrap .u32 w) (IntKind.wrap .u32 (IntKind.wrap .u64 (u - (1:Int))))))] (AWP.seq (AWP.rg0 [(2,.len Za m.1)] [(0,(i64 a)),(1,(slc 10 Za d)),(2,(slc 10 Za f)),(3,(.sc (.func (.func 88) #[] #[]))),(4,(i64 g)),(12,(.own 0 (List.length (b++[(Zh.mk (Zb.mk (IntKind.wrap .u32 w) (IntKind.wrap .u32 (IntKind.wrap .u64 (u - (1:Int))))) m.1)])))),(13,(i64 (ZI (o + (List.length m.1:Int))))),(14,(slc 1 Zc k)),(15,(i64 p))] (AWP.seq (AWP.rg0 [] [(0,(i64 a)),(1,(slc 10 Za d)),(2,(slc 10 Za f)),(3,(.sc (.func (.func 88) #[] #[]))),(4,(i64 g)),(12,(.own 0 (List.length (b++[(Zh.mk (Zb.mk (IntKind.wrap .u32 w) (IntKind.wrap .u32 (IntKind.wrap .u64 (u - (1:Int))))) m.1)])))),(13,(i64 (ZI (o + (List.length m.1:Int))))),(14,(slc 1 Zc k)),(15,(i64 p)),(143,(vb (decide ((ZI (o + (List.length m.1:Int))) > g))))] ?_))))
           refine AWP.cif hF (fun g1 hF=>?_) (fun g1 hF=>?_)
           ·refine AWP.seq (AWP.rg0 [] [(10,nils),(11,(vb false))] (AWP.ret ?_))
            exact LeQ.of (.inr ⟨rfl,(([]:ZL),false),(someb hF).symm,(FnQ.f1 0 (.inr rfl) (.inr ⟨_,_,rfl,rfl,(.cons _ _ _ _ (.nil 10) (.cons _ _ _ _ (.refl _) .nil))⟩))⟩)
           ·refine AWP.skip (LeQ.start (LeQ.pk [0,1,2,3,4,12,13,14,15] 1 ?_))
            exact(.inl ⟨rfl,(b++[(Zh.mk (Zb.mk (IntKind.wrap .u32 w) (IntKind.wrap .u32 (IntKind.wrap .u64 (u - (1:Int))))) m.1)]),(ZI (o + (List.length m.1:Int))),(someb hF).symm,by kernel_rfl,by kernel_rfl⟩)
       ·rintro _ _ _ (⟨rfl,a2,a4,rfl,rfl,rfl⟩ | ⟨rfl,g2,rfl,hq⟩)
        ·refine AWP.rg0 [] [(0,(i64 a)),(1,(slc 10 Za d)),(2,(slc 10 Za f)),(3,(.sc (.func (.func 88) #[] #[]))),(4,(i64 g)),(12,(.own 0 (List.length a2))),(13,(i64 a4)),(14,(slc 1 Zc k)),(15,(i64 (ZI (p + (1:Int)))))] (LeQ.start (LeQ.pk [0,1,2,3,4,12,13,14,15] 1 ?_))
         exact⟨b4,Nat.lt_succ_self _,a2,a4,(ZI (p + (1:Int))),hF,by kernel_rfl,by kernel_rfl⟩
        ·exact LeQ.of (.inr ⟨rfl,g2,(someb hF).symm,hq⟩)
      ·refine AWP.exit (LeQ.start (LeQ.pk [0,12,13] 1 ?_))
       exact(.inl ⟨rfl,b,o,(someb hF).symm,by kernel_rfl,by kernel_rfl⟩)
    ·rintro _ _ _ (⟨rfl,c,b3,rfl,rfl,rfl⟩ | ⟨rfl,h3,rfl,hq⟩)
     ·refine AWP.seq ?_
      obtain⟨g3,hF⟩:=chkb hF
      refine AWP.rg [(1,.mk0 Za g3)] [(0,(i64 a)),(12,(.own 0 (List.length c))),(20,(.own 1 (List.length ([]:ZL))))] [bf 3 127 Zg c false,bf 10 59 Za ([]:ZL) false] (AWP.seq (AWP.seq (AWP.rg0 [(1,.len Zg c)] [(0,(i64 a)),(20,(.own 1 (List.length ([]:ZL)))),(146,(.own 0 (List.length c))),(147,(i64 (List.length c:Int))),(148,(i64 (0:Int)))] ?_)))
      obtain⟨a8,g4,hF⟩:=bindb hF
      refine AWP.mid (fun e st H=>e=.normal∧st=[(20,(.own 1 (List.length a8)))]∧H=[bf 3 127 Zg c false,bf 10 59 Za a8 false]) ?_ ?_
      ·clear hF
       refine AWP.kp [0,20,146,147,148] 2 ?_
       refine AWP.bround (fun n st H=>∃ y,∃ q,Z3 a c n y q=some a8∧st=[(0,(i64 a)),(20,(.own 1 (List.length y))),(146,(.own 0 (List.length c))),(147,(i64 (List.length c:Int))),(148,(i64 q))]∧H=[bf 3 127 Zg c false,bf 10 59 Za y false]) fuel ⟨([]:ZL),(0:Int),g4,by kernel_rfl,by kernel_rfl⟩ ?_
       rintro b6 st H ⟨y,q,hF,rfl,rfl⟩
       cases b6 with
       | zero=>exact noneb hF
       | succ b6=>
        rw [Z3] at hF
        refine AWP.seq (AWP.rg0 [] [(0,(i64 a)),(20,(.own 1 (List.length y))),(146,(.own 0 (List.length c))),(147,(i64 (List.length c:Int))),(148,(i64 q)),(149,(vb (decide (q<(List.length c:Int)))))] (AWP.seq ?_))
        refine AWP.cif hF (fun g5 hF=>?_) (fun g5 hF=>?_)
        ·refine AWP.skip (AWP.seq (AWP.block (AWP.seq ?_)))
         obtain⟨j,c6,hF⟩:=bindb hF
         refine AWP.rg [(0,.idx Zg c6),(1,.ldE Zg c6)] [(0,(i64 a)),(20,(.own 1 (List.length y))),(22,(.ptr 2 0)),(146,(.own 0 (List.length c))),(147,(i64 (List.length c:Int))),(148,(i64 q))] [bf 3 127 Zg c false,bf 10 59 Za y false,.cells (Zg j)] (AWP.seq (AWP.rg0 [(2,.len Za j.f_rest)] [(0,(i64 a)),(20,(.own 1 (List.length y))),(22,(.ptr 2 0)),(146,(.own 0 (List.length c))),(147,(i64 (List.length c:Int))),(148,(i64 q)),(153,(slc 10 Za j.f_rest)),(154,(i64 (List.length j.f_rest:Int))),(155,(i64 (0:Int)))] ?_))
         obtain⟨a9,g6,hF⟩:=bindb hF
         refine AWP.mid (fun e st H=>e=.normal∧st=[(0,(i64 a)),(20,(.own 1 (List.length a9))),(146,(.own 0 (List.length c))),(147,(i64 (List.length c:Int))),(148,(i64 q))]∧H=[bf 3 127 Zg c false,bf 10 59 Za a9 false,.cells (Zg j)]) ?_ ?_
         ·clear hF
          refine AWP.kp [0,20,22,146,147,148,153,154,155] 3 ?_
          refine AWP.bround (fun n st H=>∃ v,∃ x,Zaa a j n v x=some a9∧st=[(0,(i64 a)),(20,(.own 1 (List.length v))),(22,(.ptr 2 0)),(146,(.own 0 (List.length c))),(147,(i64 (List.length c:Int))),(148,(i64 q)),(153,(slc 10 Za j.f_rest)),(154,(i64 (List.length j.f_rest:Int))),(155,(i64 x))]∧H=[bf 3 127 Zg c false,bf 10 59 Za v false,.cells (Zg j)]) fuel ⟨y,(0:Int),g6,by kernel_rfl,by kernel_rfl⟩ ?_
          rintro b7 st H ⟨v,x,hF,rfl,rfl⟩
          cases b7 with
          | zero=>exact noneb hF
          | succ b7=>
           rw [Zaa] at hF
           refine AWP.seq (AWP.rg0 [] [(0,(i64 a)),(20,(.own 1 (List.length v))),(22,(.ptr 2 0)),(146,(.own 0 (List.length c))),(147,(i64 (List.length c:Int))),(148,(i64 q)),(153,(slc 10 Za j.f_rest)),(154,(i64 (List.length j.f_rest:Int))),(155,(i64 x)),(156,(vb (decide (x<(List.length j.f_rest:Int)))))] (AWP.seq ?_))
           refine AWP.cif hF (fun g7 hF=>?_) (fun g7 hF=>?_)
           ·refine AWP.skip (AWP.seq (AWP.block (AWP.seq ?_)))
            obtain⟨a0,g8,hF⟩:=bindb hF
            refine AWP.rg [(0,.idx Za g8)] [(0,(i64 a)),(20,(.own 1 (List.length v))),(22,(.ptr 2 0)),(24,(.ptr 3 0)),(146,(.own 0 (List.length c))),(147,(i64 (List.length c:Int))),(148,(i64 q)),(153,(slc 10 Za j.f_rest)),(154,(i64 (List.length j.f_rest:Int))),(155,(i64 x))] [bf 3 127 Zg c false,bf 10 59 Za v false,.cells (Zg j),.cells (Za a0)] (AWP.seq ?_)
            obtain⟨c7,hF⟩:=chkb hF
            refine AWP.rg [(3,.ixd c7),(4,.stA (fun g9=>Za (Arr5.set a0 g9 j.f_values)) 0 2 0 c7)] [(0,(i64 a)),(20,(.own 1 (List.length v))),(22,(.ptr 2 0)),(24,(.ptr 3 0)),(146,(.own 0 (List.length c))),(147,(i64 (List.length c:Int))),(148,(i64 q)),(153,(slc 10 Za j.f_rest)),(154,(i64 (List.length j.f_rest:Int))),(155,(i64 x))] [bf 3 127 Zg c false,bf 10 59 Za v false,.cells (Zg j),.cells (Za (Arr5.set a0 a j.f_values))] ?_
            obtain⟨h0,hF⟩:=chkb hF
            refine AWP.rg [(3,.app Za (fun _=>by kernel_rfl) h0)] [(0,(i64 a)),(20,(.own 1 (List.length (v++[(Arr5.set a0 a j.f_values)])))),(22,(.ptr 2 0)),(146,(.own 0 (List.length c))),(147,(i64 (List.length c:Int))),(148,(i64 q)),(153,(slc 10 Za j.f_rest)),(154,(i64 (List.length j.f_rest:Int))),(155,(i64 x))] [bf 3 127 Zg c false,bf 10 59 Za (v++[(Arr5.set a0 a j.f_values)]) false,.cells (Zg j),.cells (Za (Arr5.set a0 a j.f_values))] (AWP.rg0 [] [(0,(i64 a)),(20,(.own 1 (List.length (v++[(Arr5.set a0 a j.f_values)])))),(22,(.ptr 2 0)),(146,(.own 0 (List.length c))),(147,(i64 (List.length c:Int))),(148,(i64 q)),(153,(slc 10 Za j.f_rest)),(154,(i64 (List.length j.f_rest:Int))),(155,(i64 (ZI (x + (1:Int)))))] (LeQ.start (LeQ.pk [0,20,22,146,147,148,153,154,155] 3 ?_)))
            exact⟨b7,Nat.lt_succ_self _,(v++[(Arr5.set a0 a j.f_values)]),(ZI (x + (1:Int))),hF,by kernel_rfl,by kernel_rfl⟩
           ·refine AWP.exit (LeQ.start (LeQ.pk [0,20,146,147,148] 3 ?_))
            have hr:=someb hF
            subst hr
            exact⟨rfl,by kernel_rfl,by kernel_rfl⟩
         ·rintro _ _ _ ⟨rfl,rfl,rfl⟩
          refine AWP.rg0 [] [(0,(i64 a)),(20,(.own 1 (List.length a9))),(146,(.own 0 (List.length c))),(147,(i64 (List.length c:Int))),(148,(i64 (ZI (q + (1:Int)))))] (LeQ.start (LeQ.pk [0,20,146,147,148] 2 ?_))
          exact⟨b6,Nat.lt_succ_self _,a9,(ZI (q + (1:Int))),hF,by kernel_rfl,by kernel_rfl⟩
        ·refine AWP.exit (LeQ.start (LeQ.pk [20] 2 ?_))
         have hr:=someb hF
         subst hr
         exact⟨rfl,by kernel_rfl,by kernel_rfl⟩
      ·rintro _ _ _ ⟨rfl,rfl,rfl⟩
       refine AWP.seq (AWP.rg0 [] [(10,(.own 1 (List.length a8))),(11,(vb true))] (AWP.ret ?_))
       have hr:=someb hF
       subst hr
       exact(FnQ.f1 0 (.inr rfl) (.inr ⟨_,_,rfl,rfl,(.cons _ _ _ _ (Wk.ownT (i:=1) (s:=10) (t:=59) (l:=a8) (sh:=false) (row:=Za) (by kernel_rfl) (.inl rfl)) (.cons _ _ _ _ (.refl _) .nil))⟩))
     ·have hr:=someb hF
      subst hr
      exact hq
theorem Zgm (a:Int) (b:ZL) (c:ZL) (d:Int) (r:(ZL × Bool)) (hF:Z1 fuel a b c d=some r):ACall Tryz.prog glob 103 [(i64 a),(slc 10 Za b),(slc 10 Za c),(.sc (.func (.func 88) #[] #[])),(i64 d)] [] (Zc2 r):=Zga fuel a b c d r hF
def Zg6 (r:(ZL × Int)):PV→List Blk→Prop:=fun p K=>p=(.tup [(slc 10 Za r.1),(i64 r.2)])∧K=[]
theorem Zg7 (b:ZL) (c:ZL) (r:(ZL × Int)) (hF:Zbg b c=some r):ACall Tryz.prog glob 87 [(slc 10 Za b),(slc 10 Za c),(.sc (.func (.func 88) #[] #[]))] [] (Zg6 r):=by
 refine ACall.body Tryz.func87 rfl (by kernel_rfl) ?_
 unfold Zbg at hF
 refine AWP.seq (AWP.rg0 [] [(0,(slc 10 Za b)),(1,(slc 10 Za c)),(2,(.sc (.func (.func 88) #[] #[])))] (AWP.seq ?_))
 obtain⟨a,d,hF⟩:=bindb hF
 refine AWP.rg0 [(3,.call Tryz.func103 [] (Zgm (0:Int) b c (4096:Int) a d))] [(8,(slc 10 Za a.1)),(9,(vb a.2))] (AWP.seq (AWP.seq (AWP.rg0 [] [(8,(slc 10 Za a.1)),(18,(vb (!a.2)))] ?_)))
 refine AWP.cif hF (fun f hF=>?_) (fun f hF=>?_)
 ·refine AWP.seq (AWP.rg0 [] [(6,nils),(7,(i64 (3:Int)))] (AWP.ret ?_))
  have hr:=someb hF
  subst hr
  exact(FnQ.f1 0 (.inr rfl) (.inr ⟨_,_,rfl,rfl,(.cons _ _ _ _ (.nil 10) (.cons _ _ _ _ (.refl _) .nil))⟩))
 ·refine AWP.skip (AWP.seq (AWP.rg0 [] [(6,(slc 10 Za a.1)),(7,(i64 (0:Int)))] (AWP.ret ?_)))
  have hr:=someb hF
  subst hr
  exact(FnQ.f0 0 (.inr rfl))
def Zh4 (r:(ZL × Int)):PV→List Blk→Prop:=fun p K=>p=(.tup [(slc 10 Za r.1),(i64 r.2)])∧K=[]
abbrev Zmh (r:(ZL × Int)):Exit→St→List Blk→Prop:=FnQ Tryz.prog Tryz.f55.results 0 (Zh4 r)
theorem Zmi (f:ZL) (r:(ZL × Int)) (hF:Zee f=some r):ACall Tryz.prog glob 55 [(slc 10 Za f)] [] (Zh4 r):=by
 refine ACall.body Tryz.func55 rfl (by kernel_rfl) ?_
 unfold Zee at hF
 refine AWP.seq (AWP.rg0 [] [(0,(slc 10 Za f))] (AWP.seq (AWP.rg0 [] [(0,(slc 10 Za f)),(4,nils)] (AWP.seq (AWP.seq ?_)))))
 obtain⟨a,l,hF⟩:=bindb hF
 refine AWP.rg0 [(1,.call Tryz.func85 [] (Zf4 f a l)),(2,.len Za a)] [(4,nils),(10,(slc 10 Za a)),(11,(i64 (List.length a:Int))),(12,(i64 (0:Int)))] ?_
 obtain⟨i,m,hF⟩:=bindb hF
 refine AWP.mid (fun e st H=>(e=.normal∧∃ g,i=(.inl g)∧st=[(4,(slc 10 Za g))]∧H=[])∨(e=.ret∧∃ r,i=(.inr r)∧Zmh r e st H)) ?_ ?_
 ·clear hF
  refine AWP.wk (p:=nils) (q:=(slc 10 Za ([]:ZL))) (st':=[(4,(slc 10 Za ([]:ZL))),(10,(slc 10 Za a)),(11,(i64 (List.length a:Int))),(12,(i64 (0:Int)))]) 4 (by kernel_rfl) (.nil 10) (by kernel_rfl) ?_
  refine AWP.kp [4,10,11,12] 0 ?_
  refine AWP.bround (fun n st H=>∃ d,∃ b,Zcd a n d b=some i∧st=[(4,(slc 10 Za d)),(10,(slc 10 Za a)),(11,(i64 (List.length a:Int))),(12,(i64 b))]∧H=[]) fuel ⟨([]:ZL),(0:Int),m,by kernel_rfl,by kernel_rfl⟩ ?_
  rintro j st H ⟨d,b,hF,rfl,rfl⟩
  cases j with
  | zero=>exact noneb hF
  | succ j=>
   rw [Zcd] at hF
   refine AWP.seq (AWP.rg0 [] [(4,(slc 10 Za d)),(10,(slc 10 Za a)),(11,(i64 (List.length a:Int))),(12,(i64 b)),(13,(vb (decide (b<(List.length a:Int)))))] (AWP.seq ?_))
   refine AWP.cif hF (fun o hF=>?_) (fun o hF=>?_)
   ·refine AWP.skip (AWP.seq (AWP.block (AWP.seq ?_)))
    obtain⟨k,s,hF⟩:=bindb hF
    refine AWP.rg [(0,.idx Za s)] [(4,(slc 10 Za d)),(6,(.ptr 0 0)),(10,(slc 10 Za a)),(11,(i64 (List.length a:Int))),(12,(i64 b))] [.cells (Za k)] (AWP.seq ?_)
    obtain⟨c,t,hF⟩:=bindb hF
    refine AWP.rg0 [(3,.call Tryz.func87 [] (Zg7 d [k] c t))] [(7,(slc 10 Za c.1)),(8,(i64 c.2)),(10,(slc 10 Za a)),(11,(i64 (List.length a:Int))),(12,(i64 b))] (AWP.seq (AWP.seq (AWP.rg0 [] [(7,(slc 10 Za c.1)),(8,(i64 c.2)),(10,(slc 10 Za a)),(11,(i64 (List.length a:Int))),(12,(i64 b)),(24,(vb (c.2 != (0:Int))))] ?_)))
    refine AWP.cif hF (fun u hF=>?_) (fun u hF=>?_)
    ·refine AWP.seq (AWP.rg0 [] [(2,nils),(3,(i64 c.2))] (AWP.ret ?_))
     exact LeQ.of (.inr ⟨rfl,(([]:ZL),c.2),(someb hF).symm,(FnQ.f1 0 (.inr rfl) (.inr ⟨_,_,rfl,rfl,(.cons _ _ _ _ (.nil 10) (.cons _ _ _ _ (.refl _) .nil))⟩))⟩)
    ·refine AWP.skip (AWP.rg0 [] [(4,(slc 10 Za c.1)),(10,(slc 10 Za a)),(11,(i64 (List.length a:Int))),(12,(i64 b))] (AWP.rg0 [] [(4,(slc 10 Za c.1)),(10,(slc 10 Za a)),(11,(i64 (List.length a:Int))),(12,(i64 (ZI (b + (1:Int)))))] (LeQ.start (LeQ.pk [4,10,11,12] 0 ?_))))
     exact⟨j,Nat.lt_succ_self _,c.1,(ZI (b + (1:Int))),hF,by kernel_rfl,by kernel_rfl⟩
   ·refine AWP.exit (LeQ.start (LeQ.pk [4] 0 ?_))
    exact(.inl ⟨rfl,d,(someb hF).symm,by kernel_rfl,by kernel_rfl⟩)
 ·rintro _ _ _ (⟨rfl,g,rfl,rfl,rfl⟩ | ⟨rfl,v,rfl,hq⟩)
  ·refine AWP.seq (AWP.rg0 [] [(2,(slc 10 Za g)),(3,(i64 (0:Int)))] (AWP.ret ?_))
   have hr:=someb hF
   subst hr
   exact(FnQ.f0 0 (.inr rfl))
  ·have hr:=someb hF
   subst hr
   exact hq
def Zog (r:(ZL × Int)):PV→List Blk→Prop:=fun p K=>p=(.tup [(slc 10 Za r.1),(i64 r.2)])∧K=[]
theorem Zoh (a:ZL) (r:(ZL × Int)) (hF:Ze8 a=some r):ACall Tryz.prog glob 26 [(slc 10 Za a)] [] (Zog r):=by
 refine ACall.body Tryz.func26 rfl (by kernel_rfl) ?_
 unfold Ze8 at hF
 refine AWP.seq (AWP.rg0 [] [(0,(slc 10 Za a))] (AWP.seq (AWP.seq ?_)))
 obtain⟨c,d,hF⟩:=bindb hF
 refine AWP.rg0 [(1,.call Tryz.func54 [] (Zlc a c d))] [(0,(slc 10 Za a)),(5,(vb c))] ?_
 refine AWP.cif hF (fun f hF=>?_) (fun f hF=>?_)
 ·refine AWP.seq (AWP.rg0 [] [(2,(slc 10 Za a)),(3,(i64 (0:Int)))] (AWP.ret ?_))
  have hr:=someb hF
  subst hr
  exact(FnQ.f0 0 (.inr rfl))
 ·refine AWP.skip (AWP.seq ?_)
  obtain⟨b,g,hF⟩:=bindb hF
  refine AWP.rg0 [(1,.call Tryz.func55 [] (Zmi a b g))] [(2,(slc 10 Za b.1)),(3,(i64 b.2))] (AWP.ret ?_)
  have hr:=someb hF
  subst hr
  exact(FnQ.f0 0 (.inr rfl))
def Zlg (r:Zl):PV→List Blk→Prop:=fun p K=>p=(Zc4 r)∧K=[]
theorem Zlh (a:Int) (r:Zl) (hF:Ze4 a=some r):ACall Tryz.prog glob 24 [(u64 a)] [] (Zlg r):=by
 refine ACall.body Tryz.func24 rfl (by kernel_rfl) ?_
 unfold Ze4 at hF
 refine AWP.seq (AWP.rg [] [(0,(u64 a)),(2,(.ptr 0 0))] [.cells (Zj Za3)] (AWP.seq (AWP.rg [] [(2,(.ptr 0 0))] [.cells (Zj (Zl.mk (0:Int) a))] (AWP.ret ?_))))
 have hr:=someb hF
 subst hr
 exact(FnQ.f0 0 (.inr rfl))
def Zli (r:Int):PV→List Blk→Prop:=fun p K=>p=(u64 r)∧K=[]
theorem Zlj (a:Zb) (r:Int) (hF:Zd6 a=some r):ACall Tryz.prog glob 48 [(Zgr a)] [] (Zli r):=by
 refine ACall.body Tryz.func48 rfl (by kernel_rfl) ?_
 unfold Zd6 at hF
 refine AWP.seq (AWP.rg [] [(1,(.ptr 0 0))] [.cells (Zf a)] (AWP.seq (AWP.rg0 [] [(2,(u64 (IntKind.wrap .u64 ((IntKind.wrap .u64 ((IntKind.wrap .u64 a.Hi) - (IntKind.wrap .u64 a.Lo))) + (1:Int)))))] (AWP.ret ?_))))
 have hr:=someb hF
 subst hr
 exact(FnQ.f0 0 (.inr rfl))
def Zlk (r:(Int × Int)):PV→List Blk→Prop:=fun p K=>p=(.tup [(u64 r.1),(u64 r.2)])∧K=[]
theorem Zhr (a:Int) (b:Int) (r:(Int × Int)) (hF:Zdc a b=some r):ACall Tryz.prog glob 80 [(u64 a),(u64 b)] [] (Zlk r):=by
 refine ACall.body Tryz.func80 rfl (by kernel_rfl) ?_
 unfold Zdc at hF
 refine AWP.seq (AWP.rg0 [] [(0,(u64 a)),(1,(u64 b))] (AWP.seq (AWP.rg0 [] [(0,(u64 a)),(1,(u64 b)),(6,(u64 (bAnd .u64 a (4294967295:Int))))] (AWP.seq (AWP.rg0 [] [(0,(u64 a)),(1,(u64 b)),(6,(u64 (bAnd .u64 a (4294967295:Int)))),(7,(u64 (bShr .u64 a (32:Int))))] (AWP.seq ?_))))))
 refine AWP.rg0 [] [(0,(u64 a)),(1,(u64 b)),(6,(u64 (bAnd .u64 a (4294967295:Int)))),(7,(u64 (bShr .u64 a (32:Int)))),(8,(u64 (bAnd .u64 b (4294967295:Int))))] (AWP.seq (AWP.rg0 [] [(0,(u64 a)),(1,(u64 b)),(6,(u64 (bAnd .u64 a (4294967295:Int)))),(7,(u64 (bShr .u64 a (32:Int)))),(8,(u64 (bAnd .u64 b (4294967295:Int)))),(9,(u64 (bShr .u64 b (32:Int))))] (AWP.seq (AWP.rg0 [] [(0,(u64 a)),(1,(u64 b)),(6,(u64 (bAnd .u64 a (4294967295:Int)))),(7,(u64 (bShr .u64 a (32:Int)))),(8,(u64 (bAnd .u64 b (4294967295:Int)))),(9,(u64 (bShr .u64 b (32:Int)))),(10,(u64 (IntKind.wrap .u64 ((bAnd .u64 a (4294967295:Int)) * (bAnd .u64 b (4294967295:Int))))))] (AWP.seq (AWP.rg0 [] [(0,(u64 a)),(1,(u64 b)),(6,(u64 (bAnd .u64 a (4294967295:Int)))),(7,(u64 (bShr .u64 a (32:Int)))),(9,(u64 (bShr .u64 b (32:Int)))),(11,(u64 (IntKind.wrap .u64 ((IntKind.wrap .u64 ((bShr .u64 a (32:Int)) * (bAnd .u64 b (4294967295:Int)))) + (bShr .u64 (IntKind.wrap .u64 ((bAnd .u64 a (4294967295:Int)) * (bAnd .u64 b (4294967295:Int)))) (32:Int))))))] ?_))))))
 refine AWP.seq (AWP.rg0 [] [(0,(u64 a)),(1,(u64 b)),(6,(u64 (bAnd .u64 a (4294967295:Int)))),(7,(u64 (bShr .u64 a (32:Int)))),(9,(u64 (bShr .u64 b (32:Int)))),(11,(u64 (IntKind.wrap .u64 ((IntKind.wrap .u64 ((bShr .u64 a (32:Int)) * (bAnd .u64 b (4294967295:Int)))) + (bShr .u64 (IntKind.wrap .u64 ((bAnd .u64 a (4294967295:Int)) * (bAnd .u64 b (4294967295:Int)))) (32:Int)))))),(12,(u64 (bAnd .u64 (IntKind.wrap .u64 ((IntKind.wrap .u64 ((bShr .u64 a (32:Int)) * (bAnd .u64 b (4294967295:Int)))) + (bShr .u64 (IntKind.wrap .u64 ((bAnd .u64 a (4294967295:Int)) * (bAnd .u64 b (4294967295:Int)))) (32:Int)))) (4294967295:Int))))] (AWP.seq (AWP.rg0 [] [(0,(u64 a)),(1,(u64 b)),(6,(u64 (bAnd .u64 a (4294967295:Int)))),(7,(u64 (bShr .u64 a (32:Int)))),(9,(u64 (bShr .u64 b (32:Int)))),(12,(u64 (bAnd .u64 (IntKind.wrap .u64 ((IntKind.wrap .u64 ((bShr .u64 a (32:Int)) * (bAnd .u64 b (4294967295:Int)))) + (bShr .u64 (IntKind.wrap .u64 ((bAnd .u64 a (4294967295:Int)) * (bAnd .u64 b (4294967295:Int)))) (32:Int)))) (4294967295:Int)))),(13,(u64 (bShr .u64 (IntKind.wrap .u64 ((IntKind.wrap .u64 ((bShr .u64 a (32:Int)) * (bAnd .u64 b (4294967295:Int)))) + (bShr .u64 (IntKind.wrap .u64 ((bAnd .u64 a (4294967295:Int)) * (bAnd .u64 b (4294967295:Int)))) (32:Int)))) (32:Int))))] (AWP.seq (AWP.rg0 [] [(0,(u64 a)),(1,(u64 b)),(7,(u64 (bShr .u64 a (32:Int)))),(9,(u64 (bShr .u64 b (32:Int)))),(12,(u64 (IntKind.wrap .u64 ((bAnd .u64 (IntKind.wrap .u64 ((IntKind.wrap .u64 ((bShr .u64 a (32:Int)) * (bAnd .u64 b (4294967295:Int)))) + (bShr .u64 (IntKind.wrap .u64 ((bAnd .u64 a (4294967295:Int)) * (bAnd .u64 b (4294967295:Int)))) (32:Int)))) (4294967295:Int)) + (IntKind.wrap .u64 ((bAnd .u64 a (4294967295:Int)) * (bShr .u64 b (32:Int)))))))),(13,(u64 (bShr .u64 (IntKind.wrap .u64 ((IntKind.wrap .u64 ((bShr .u64 a (32:Int)) * (bAnd .u64 b (4294967295:Int)))) + (bShr .u64 (IntKind.wrap .u64 ((bAnd .u64 a (4294967295:Int)) * (bAnd .u64 b (4294967295:Int)))) (32:Int)))) (32:Int))))] (AWP.seq ?_))))))
 refine AWP.rg0 [] [(0,(u64 a)),(1,(u64 b)),(4,(u64 (IntKind.wrap .u64 ((IntKind.wrap .u64 ((IntKind.wrap .u64 ((bShr .u64 a (32:Int)) * (bShr .u64 b (32:Int)))) + (bShr .u64 (IntKind.wrap .u64 ((IntKind.wrap .u64 ((bShr .u64 a (32:Int)) * (bAnd .u64 b (4294967295:Int)))) + (bShr .u64 (IntKind.wrap .u64 ((bAnd .u64 a (4294967295:Int)) * (bAnd .u64 b (4294967295:Int)))) (32:Int)))) (32:Int)))) + (bShr .u64 (IntKind.wrap .u64 ((bAnd .u64 (IntKind.wrap .u64 ((IntKind.wrap .u64 ((bShr .u64 a (32:Int)) * (bAnd .u64 b (4294967295:Int)))) + (bShr .u64 (IntKind.wrap .u64 ((bAnd .u64 a (4294967295:Int)) * (bAnd .u64 b (4294967295:Int)))) (32:Int)))) (4294967295:Int)) + (IntKind.wrap .u64 ((bAnd .u64 a (4294967295:Int)) * (bShr .u64 b (32:Int)))))) (32:Int))))))] (AWP.seq (AWP.rg0 [] [(4,(u64 (IntKind.wrap .u64 ((IntKind.wrap .u64 ((IntKind.wrap .u64 ((bShr .u64 a (32:Int)) * (bShr .u64 b (32:Int)))) + (bShr .u64 (IntKind.wrap .u64 ((IntKind.wrap .u64 ((bShr .u64 a (32:Int)) * (bAnd .u64 b (4294967295:Int)))) + (bShr .u64 (IntKind.wrap .u64 ((bAnd .u64 a (4294967295:Int)) * (bAnd .u64 b (4294967295:Int)))) (32:Int)))) (32:Int)))) + (bShr .u64 (IntKind.wrap .u64 ((bAnd .u64 (IntKind.wrap .u64 ((IntKind.wrap .u64 ((bShr .u64 a (32:Int)) * (bAnd .u64 b (4294967295:Int)))) + (bShr .u64 (IntKind.wrap .u64 ((bAnd .u64 a (4294967295:Int)) * (bAnd .u64 b (4294967295:Int)))) (32:Int)))) (4294967295:Int)) + (IntKind.wrap .u64 ((bAnd .u64 a (4294967295:Int)) * (bShr .u64 b (32:Int)))))) (32:Int)))))),(5,(u64 (IntKind.wrap .u64 (a * b))))] (AWP.ret ?_)))
 have hr:=someb hF
 subst hr
 exact(FnQ.f0 0 (.inr rfl))
def Zmj (r:(Zl × Bool)):PV→List Blk→Prop:=fun p K=>p=(.tup [(Zc4 r.1),(vb r.2)])∧K=[]
theorem Zmk (c:Zl) (d:Int) (r:(Zl × Bool)) (hF:Zef c d=some r):ACall Tryz.prog glob 47 [(Zc4 c),(u64 d)] [] (Zmj r):=by
 refine ACall.body Tryz.func47 rfl (by kernel_rfl) ?_
 unfold Zef at hF
 refine AWP.seq (AWP.rg [] [(1,(u64 d)),(2,(.ptr 0 0)),(4,(.ptr 1 0))] [.cells (Zj c),.cells (Zj Za3)] (AWP.seq ?_))
 obtain⟨a,i,hF⟩:=bindb hF
 refine AWP.rg0 [(3,.call Tryz.func80 [] (Zhr c.Lo d a i))] [(1,(u64 d)),(2,(.ptr 0 0)),(4,(.ptr 1 0)),(6,(u64 a.1)),(7,(u64 a.2))] (AWP.seq ?_)
 obtain⟨b,j,hF⟩:=bindb hF
 refine AWP.rg0 [(3,.call Tryz.func80 [] (Zhr c.Hi d b j))] [(4,(.ptr 1 0)),(6,(u64 a.1)),(7,(u64 a.2)),(8,(u64 b.1)),(9,(u64 b.2))] (AWP.seq ?_)
 obtain⟨k,hF⟩:=chkb hF
 refine AWP.rg0 [(2,.ext (e:=add64Entry) (Zke k) Tryz.func28 (by kernel_rfl) (by kernel_rfl) (by kernel_rfl) (by kernel_rfl))] [(4,(.ptr 1 0)),(7,(u64 a.2)),(8,(u64 b.1)),(9,(u64 ((b.2 + a.1 + (0:Int)) % 18446744073709551616))),(10,(u64 ((b.2 + a.1 + (0:Int)) / 18446744073709551616)))] (AWP.seq ?_)
 obtain⟨g,f,hF⟩:=bindb hF
 replace f:=someb f
 refine AWP.to [(4,(.ptr 1 0)),(5,(vb (g && (((b.2 + a.1 + (0:Int)) / 18446744073709551616) == (0:Int)))))] [.cells (Zj c),.cells (Zj (Zl.mk ((b.2 + a.1 + (0:Int)) % 18446744073709551616) a.2))] ?_ ?_
 ·cases g with
  | false=>
   exact AWP.rgT [(5,.bool f)]
  | true=>
   exact AWP.rgT [(5,.bool f)]
 refine AWP.ret ?_
 have hr:=someb hF
 subst hr
 exact(FnQ.f0 0 (.inr rfl))
def Zll (r:Zl):PV→List Blk→Prop:=fun p K=>p=(Zc4 r)∧K=[]
theorem Zlm (b:ZB) (a:Int) (r:Zl) (hF:Zd7 b a=some r):ACall Tryz.prog glob 56 [(Za6 b),(i64 a)] [] (Zll r):=by
 refine ACall.body Tryz.func56 rfl (by kernel_rfl) ?_
 unfold Zd7 at hF
 refine AWP.seq (AWP.rg [] [(1,(i64 a)),(2,(.ptr 0 0)),(4,(.ptr 1 0))] [.cells (Za b),.cells (Zj Za3)] (AWP.seq ?_))
 obtain⟨g,o,hF⟩:=bindb hF
 refine AWP.rg [(0,.call Tryz.func24 [] (Zlh (1:Int) g o))] [(1,(i64 a)),(2,(.ptr 0 0)),(4,(.ptr 1 0)),(5,(.ptr 2 0))] [.cells (Za b),.cells (Zj Za3),.cells (Zj g)] (AWP.seq (AWP.seq ?_))
 obtain⟨k,hF⟩:=chkb hF
 refine AWP.rg0 [(1,.sliceA (n:=5) k),(2,.lenV (Int.toNat (5:Int) - Int.toNat a))] [(4,(.ptr 1 0)),(5,(.ptr 2 0)),(10,(.vw 0 (0 + Int.toNat a * 2) (Int.toNat (5:Int) - Int.toNat a))),(11,(i64 (((Int.toNat (5:Int) - Int.toNat a):Nat):Int))),(12,(i64 (0:Int)))] ?_
 obtain⟨f,p,hF⟩:=bindb hF
 refine AWP.mid (fun e st H=>e=.normal∧st=[(4,(.ptr 1 0)),(5,(.ptr 2 0))]∧H=[.cells (Za b),.cells (Zj Za3),.cells (Zj f)]) ?_ ?_
 ·clear hF
  refine AWP.kp [4,5,10,11,12] 3 ?_
  refine AWP.bround (fun n st H=>∃ d,∃ c,Zb6 b a n d c=some f∧st=[(4,(.ptr 1 0)),(5,(.ptr 2 0)),(10,(.vw 0 (0 + Int.toNat a * 2) (Int.toNat (5:Int) - Int.toNat a))),(11,(i64 (((Int.toNat (5:Int) - Int.toNat a):Nat):Int))),(12,(i64 c))]∧H=[.cells (Za b),.cells (Zj Za3),.cells (Zj d)]) fuel ⟨g,(0:Int),p,by kernel_rfl,by kernel_rfl⟩ ?_
  rintro i st H ⟨d,c,hF,rfl,rfl⟩
  cases i with
  | zero=>exact noneb hF
  | succ i=>
   rw [Zb6] at hF
   refine AWP.seq (AWP.rg0 [] [(4,(.ptr 1 0)),(5,(.ptr 2 0)),(10,(.vw 0 (0 + Int.toNat a * 2) (Int.toNat (5:Int) - Int.toNat a))),(11,(i64 (((Int.toNat (5:Int) - Int.toNat a):Nat):Int))),(12,(i64 c)),(13,(vb (decide (c<(((Int.toNat (5:Int) - Int.toNat a):Nat):Int)))))] (AWP.seq ?_))
   refine AWP.cif hF (fun q hF=>?_) (fun q hF=>?_)
   ·refine AWP.skip (AWP.seq (AWP.block (AWP.seq ?_)))
    obtain⟨l,hF⟩:=chkb hF
    obtain⟨t,hF⟩:=chkb hF
    refine AWP.rg [(0,.idxVA (n:=(Int.toNat (5:Int) - Int.toNat a)) (off0:=(0 + Int.toNat a * 2)) (off1:=0 + Int.toNat (a + c) * 2) (s:=2) l (Zth k.1 l.1 _)),(1,.ldA Zf (Arr5.get b) 0 2 0 t)] [(4,(.ptr 1 0)),(5,(.ptr 2 0)),(7,(.ptr 3 0)),(10,(.vw 0 (0 + Int.toNat a * 2) (Int.toNat (5:Int) - Int.toNat a))),(11,(i64 (((Int.toNat (5:Int) - Int.toNat a):Nat):Int))),(12,(i64 c))] [.cells (Za b),.cells (Zj Za3),.cells (Zj d),.cells (Zf (Arr5.get b (a + c)))] ?_
    obtain⟨m,u,hF⟩:=bindb hF
    obtain⟨j,v,hF⟩:=bindb hF
    refine AWP.dr [(2,.call Tryz.func48 [] (Zlj (Arr5.get b (a + c)) m u)),(3,.call Tryz.func47 [] (Zmk d m j v))] 8 [] [7] [] [(4,(.ptr 1 0)),(5,(.ptr 2 0)),(10,(.vw 0 (0 + Int.toNat a * 2) (Int.toNat (5:Int) - Int.toNat a))),(11,(i64 (((Int.toNat (5:Int) - Int.toNat a):Nat):Int))),(12,(i64 c))] [.cells (Za b),.cells (Zj Za3),.cells (Zj j.1),.cells (Zf (Arr5.get b (a + c)))] (AWP.rg0 [] [(4,(.ptr 1 0)),(5,(.ptr 2 0)),(10,(.vw 0 (0 + Int.toNat a * 2) (Int.toNat (5:Int) - Int.toNat a))),(11,(i64 (((Int.toNat (5:Int) - Int.toNat a):Nat):Int))),(12,(i64 (ZI (c + (1:Int)))))] (LeQ.start (LeQ.pk [4,5,10,11,12] 3 ?_)))
    exact⟨i,Nat.lt_succ_self _,j.1,(ZI (c + (1:Int))),hF,by kernel_rfl,by kernel_rfl⟩
   ·refine AWP.exit (LeQ.start (LeQ.pk [4,5] 3 ?_))
    have hr:=someb hF
    subst hr
    exact⟨rfl,by kernel_rfl,by kernel_rfl⟩
 ·rintro _ _ _ ⟨rfl,rfl,rfl⟩
  refine AWP.seq (AWP.rg [] [(4,(.ptr 1 0))] [.cells (Za b),.cells (Zj f),.cells (Zj f)] (AWP.ret ?_))
  have hr:=someb hF
  subst hr
  exact(FnQ.f0 0 (.inr rfl))
def Zoi (r:Zl):PV→List Blk→Prop:=fun p K=>p=(Zc4 r)∧K=[]
theorem Ze9 (a:Zl) (b:Zl) (r:Zl) (hF:Zdl a b=some r):ACall Tryz.prog glob 11 [(Zc4 a),(Zc4 b)] [] (Zoi r):=by
 refine ACall.body Tryz.func11 rfl (by kernel_rfl) ?_
 unfold Zdl at hF
 refine AWP.seq (AWP.rg [] [(2,(.ptr 0 0)),(3,(.ptr 1 0)),(4,(.ptr 2 0))] [.cells (Zj a),.cells (Zj b),.cells (Zj Za3)] (AWP.seq ?_))
 obtain⟨c,hF⟩:=chkb hF
 refine AWP.rg0 [(4,.ext (e:=add64Entry) (Zke c) Tryz.func28 (by kernel_rfl) (by kernel_rfl) (by kernel_rfl) (by kernel_rfl))] [(2,(.ptr 0 0)),(3,(.ptr 1 0)),(4,(.ptr 2 0)),(5,(u64 ((a.Lo + b.Lo + (0:Int)) % 18446744073709551616))),(6,(u64 ((a.Lo + b.Lo + (0:Int)) / 18446744073709551616)))] (AWP.seq ?_)
 obtain⟨d,hF⟩:=chkb hF
 refine AWP.rg0 [(5,.ext (e:=add64Entry) (Zke d) Tryz.func28 (by kernel_rfl) (by kernel_rfl) (by kernel_rfl) (by kernel_rfl))] [(4,(.ptr 2 0)),(5,(u64 ((a.Lo + b.Lo + (0:Int)) % 18446744073709551616))),(7,(u64 ((a.Hi + b.Hi + ((a.Lo + b.Lo + (0:Int)) / 18446744073709551616)) % 18446744073709551616)))] (AWP.seq (AWP.rg [] [(4,(.ptr 2 0))] [.cells (Zj a),.cells (Zj b),.cells (Zj (Zl.mk ((a.Hi + b.Hi + ((a.Lo + b.Lo + (0:Int)) / 18446744073709551616)) % 18446744073709551616) ((a.Lo + b.Lo + (0:Int)) % 18446744073709551616)))] (AWP.ret ?_)))
 have hr:=someb hF
 subst hr
 exact(FnQ.f0 0 (.inr rfl))
def Zml (r:Zl):PV→List Blk→Prop:=fun p K=>p=(Zc4 r)∧K=[]
theorem Zmm (a:ZL) (b:Int) (r:Zl) (hF:Zeg a b=some r):ACall Tryz.prog glob 27 [(slc 10 Za a),(i64 b)] [] (Zml r):=by
 refine ACall.body Tryz.func27 rfl (by kernel_rfl) ?_
 unfold Zeg at hF
 refine AWP.seq (AWP.rg [] [(0,(slc 10 Za a)),(1,(i64 b)),(4,(.ptr 0 0))] [.cells (Zj Za3)] (AWP.seq (AWP.rg [] [(0,(slc 10 Za a)),(1,(i64 b)),(4,(.ptr 0 0)),(5,(.ptr 1 0))] [.cells (Zj Za3),.cells (Zj Za3)] (AWP.seq (AWP.seq (AWP.rg0 [(1,.len Za a)] [(1,(i64 b)),(4,(.ptr 0 0)),(5,(.ptr 1 0)),(8,(slc 10 Za a)),(9,(i64 (List.length a:Int))),(10,(i64 (0:Int)))] ?_))))))
 obtain⟨f,l,hF⟩:=bindb hF
 refine AWP.mid (fun e st H=>e=.normal∧st=[(4,(.ptr 0 0)),(5,(.ptr 1 0))]∧H=[.cells (Zj Za3),.cells (Zj f)]) ?_ ?_
 ·clear hF
  refine AWP.kp [1,4,5,8,9,10] 2 ?_
  refine AWP.bround (fun n st H=>∃ d,∃ c,Zbz a b n d c=some f∧st=[(1,(i64 b)),(4,(.ptr 0 0)),(5,(.ptr 1 0)),(8,(slc 10 Za a)),(9,(i64 (List.length a:Int))),(10,(i64 c))]∧H=[.cells (Zj Za3),.cells (Zj d)]) fuel ⟨Za3,(0:Int),l,by kernel_rfl,by kernel_rfl⟩ ?_
  rintro g st H ⟨d,c,hF,rfl,rfl⟩
  cases g with
  | zero=>exact noneb hF
  | succ g=>
   rw [Zbz] at hF
   refine AWP.seq (AWP.rg0 [] [(1,(i64 b)),(4,(.ptr 0 0)),(5,(.ptr 1 0)),(8,(slc 10 Za a)),(9,(i64 (List.length a:Int))),(10,(i64 c)),(11,(vb (decide (c<(List.length a:Int)))))] (AWP.seq ?_))
   refine AWP.cif hF (fun m hF=>?_) (fun m hF=>?_)
   ·refine AWP.skip (AWP.seq (AWP.block (AWP.seq ?_)))
    obtain⟨i,o,hF⟩:=bindb hF
    refine AWP.rg [(0,.idx Za o)] [(1,(i64 b)),(4,(.ptr 0 0)),(5,(.ptr 1 0)),(7,(.ptr 2 0)),(8,(slc 10 Za a)),(9,(i64 (List.length a:Int))),(10,(i64 c))] [.cells (Zj Za3),.cells (Zj d),.cells (Za i)] ?_
    obtain⟨k,p,hF⟩:=bindb hF
    obtain⟨j,q,hF⟩:=bindb hF
    refine AWP.dr [(3,.call Tryz.func56 [] (Zlm i b k p)),(4,.call Tryz.func11 [] (Ze9 d k j q))] 5 [] [] [] [(1,(i64 b)),(4,(.ptr 0 0)),(5,(.ptr 1 0)),(8,(slc 10 Za a)),(9,(i64 (List.length a:Int))),(10,(i64 c))] [.cells (Zj Za3),.cells (Zj j),.cells (Za i)] (AWP.rg0 [] [(1,(i64 b)),(4,(.ptr 0 0)),(5,(.ptr 1 0)),(8,(slc 10 Za a)),(9,(i64 (List.length a:Int))),(10,(i64 (ZI (c + (1:Int)))))] (LeQ.start (LeQ.pk [1,4,5,8,9,10] 2 ?_)))
    exact⟨g,Nat.lt_succ_self _,j,(ZI (c + (1:Int))),hF,by kernel_rfl,by kernel_rfl⟩
   ·refine AWP.exit (LeQ.start (LeQ.pk [4,5] 2 ?_))
    have hr:=someb hF
    subst hr
    exact⟨rfl,by kernel_rfl,by kernel_rfl⟩
 ·rintro _ _ _ ⟨rfl,rfl,rfl⟩
  refine AWP.seq (AWP.rg [] [(4,(.ptr 0 0))] [.cells (Zj f),.cells (Zj f)] (AWP.ret ?_))
  have hr:=someb hF
  subst hr
  exact(FnQ.f0 0 (.inr rfl))
def Zpo (r:(Zl × Int)):PV→List Blk→Prop:=fun p K=>p=(.tup [(Zc4 r.1),(i64 r.2)])∧K=[]
theorem Zgc (b:ZL) (r:(Zl × Int)) (hF:Zcu b=some r):ACall Tryz.prog glob 10 [(slc 10 Za b)] [] (Zpo r):=by
 refine ACall.body Tryz.func10 rfl (by kernel_rfl) ?_
 unfold Zcu at hF
 refine AWP.seq (AWP.rg [] [(0,(slc 10 Za b)),(2,(.ptr 0 0))] [.cells (Zj Za3)] (AWP.seq ?_))
 obtain⟨a,d,hF⟩:=bindb hF
 refine AWP.rg0 [(1,.call Tryz.func26 [] (Zoh b a d))] [(2,(.ptr 0 0)),(4,(slc 10 Za a.1)),(5,(i64 a.2))] (AWP.seq (AWP.seq (AWP.rg0 [] [(2,(.ptr 0 0)),(4,(slc 10 Za a.1)),(5,(i64 a.2)),(12,(vb (a.2 != (0:Int))))] ?_)))
 refine AWP.cif hF (fun f hF=>?_) (fun f hF=>?_)
 ·refine AWP.seq (AWP.rg [] [(2,(.ptr 0 0)),(3,(i64 a.2))] [.cells (Zj (Zl.mk (0:Int) (0:Int)))] (AWP.ret ?_))
  have hr:=someb hF
  subst hr
  exact(FnQ.f0 0 (.inr rfl))
 ·refine AWP.skip (AWP.seq ?_)
  obtain⟨c,g,hF⟩:=bindb hF
  refine AWP.rg [(1,.call Tryz.func27 [] (Zmm a.1 (0:Int) c g))] [(2,(.ptr 0 0)),(3,(i64 (0:Int)))] [.cells (Zj c)] (AWP.ret ?_)
  have hr:=someb hF
  subst hr
  exact(FnQ.f0 0 (.inr rfl))
def Ziz (r:Bool):PV→List Blk→Prop:=fun p K=>p=(vb r)∧K=[]
theorem Zi0 (u:(List Int)) (r:Bool) (hF:Zdm u=some r):ACall Tryz.prog glob 3 [(slc 1 Z5 u)] [] (Ziz r):=by
 refine ACall.body Tryz.func3 rfl (by kernel_rfl) ?_
 unfold Zdm at hF
 refine AWP.seq (AWP.rg0 [] [(0,(slc 1 Z5 u))] (AWP.seq ?_))
 obtain⟨w,a3,hF⟩:=bindb hF
 refine AWP.rg [(1,.call Tryz.func5 [] (Zqc u w a3))] [(3,(.ptr 0 0))] [.cells (Ze w)] (AWP.seq ?_)
 obtain⟨d,a4,hF⟩:=bindb hF
 obtain⟨a,a5,hF⟩:=bindb hF
 refine AWP.rg [(1,.call Tryz.func6 [] (Zhp w (3:Int) d a4)),(3,.call Tryz.func6 [] (Zhp d.2 (3:Int) a a5))] [(4,(slc 10 Za d.1)),(5,(slc 10 Za a.1))] [.cells (Ze a.2)] (AWP.seq ?_)
 obtain⟨f,a6,hF⟩:=bindb hF
 refine AWP.rg0 [(2,.call Tryz.func7 [] (Znq d.1 a.1 f a6))] [(4,(slc 10 Za d.1)),(5,(slc 10 Za a.1)),(6,(slc 10 Za f.1)),(7,(i64 f.2))] (AWP.seq ?_)
 obtain⟨g,a7,hF⟩:=bindb hF
 refine AWP.rg0 [(2,.call Tryz.func8 [] (Zj4 d.1 a.1 g a7))] [(4,(slc 10 Za d.1)),(5,(slc 10 Za a.1)),(6,(slc 10 Za f.1)),(7,(i64 f.2)),(8,(slc 10 Za g.1)),(9,(i64 g.2))] (AWP.seq (AWP.seq ?_))
 obtain⟨x,v,hF⟩:=bindb hF
 replace v:=someb v
 refine AWP.to [(4,(slc 10 Za d.1)),(5,(slc 10 Za a.1)),(6,(slc 10 Za f.1)),(8,(slc 10 Za g.1)),(41,(vb (x || (g.2 != (0:Int)))))] [.cells (Ze a.2)] ?_ ?_
 ·cases x with
  | false=>
   exact AWP.rgT [(2,.bool v)]
  | true=>
   exact AWP.rgT [(2,.bool v)]
 refine AWP.cif hF (fun a8 hF=>?_) (fun a8 hF=>?_)
 ·refine AWP.seq ?_
  obtain⟨y,a9,hF⟩:=bindb hF
  refine AWP.rg0 [(0,.call Tryz.func9 [] (Zi6 y a9))] [(2,(vb y))] (AWP.ret ?_)
  have hr:=someb hF
  subst hr
  exact(FnQ.f0 0 (.inr rfl))
 ·refine AWP.skip (AWP.seq ?_)
  obtain⟨b,b0,hF⟩:=bindb hF
  refine AWP.rg [(1,.call Tryz.func10 [] (Zgc d.1 b b0))] [(5,(slc 10 Za a.1)),(6,(slc 10 Za f.1)),(8,(slc 10 Za g.1)),(10,(.ptr 1 0)),(11,(i64 b.2))] [.cells (Ze a.2),.cells (Zj b.1)] (AWP.seq ?_)
  obtain⟨c,b1,hF⟩:=bindb hF
  refine AWP.rg [(1,.call Tryz.func10 [] (Zgc a.1 c b1))] [(6,(slc 10 Za f.1)),(8,(slc 10 Za g.1)),(10,(.ptr 1 0)),(11,(i64 b.2)),(12,(.ptr 2 0)),(13,(i64 c.2))] [.cells (Ze a.2),.cells (Zj b.1),.cells (Zj c.1)] (AWP.seq ?_)
  obtain⟨i,b2,hF⟩:=bindb hF
  refine AWP.rg [(1,.call Tryz.func10 [] (Zgc f.1 i b2))] [(8,(slc 10 Za g.1)),(10,(.ptr 1 0)),(11,(i64 b.2)),(12,(.ptr 2 0)),(13,(i64 c.2)),(14,(.ptr 3 0)),(15,(i64 i.2))] [.cells (Ze a.2),.cells (Zj b.1),.cells (Zj c.1),.cells (Zj i.1)] (AWP.seq ?_)
  obtain⟨p,b3,hF⟩:=bindb hF
  refine AWP.rg [(1,.call Tryz.func10 [] (Zgc g.1 p b3))] [(10,(.ptr 1 0)),(11,(i64 b.2)),(12,(.ptr 2 0)),(13,(i64 c.2)),(14,(.ptr 3 0)),(15,(i64 i.2)),(16,(.ptr 4 0)),(17,(i64 p.2))] [.cells (Ze a.2),.cells (Zj b.1),.cells (Zj c.1),.cells (Zj i.1),.cells (Zj p.1)] (AWP.seq ?_)
  obtain⟨b4,j,hF⟩:=bindb hF
  replace j:=someb j
  obtain⟨b5,k,hF⟩:=bindb hF
  replace k:=someb k
  obtain⟨b6,l,hF⟩:=bindb hF
  replace l:=someb l
  obtain⟨b7,m,hF⟩:=bindb hF
  replace m:=someb m
  obtain⟨d1,s,hF⟩:=bindb hF
  obtain⟨b8,n,hF⟩:=bindb hF
  replace n:=someb n
  obtain⟨b9,q,hF⟩:=bindb hF
  refine AWP.to [(2,(vb b9))] [.cells (Ze a.2),.cells (Zj b.1),.cells (Zj c.1),.cells (Zj i.1),.cells (Zj p.1)] ?_ ?_
  ·cases b4 with
   | false=>
    subst k
    subst l
    subst m
    have c0:=someb (ifF s rfl)
    subst c0
    subst n
    have c1:=someb (ifF q rfl)
    subst c1
    exact AWP.drT [(2,.bool j)] 26 [] [] []
   | true=>
    cases b5 with
    | false=>
     subst l
     subst m
     have c2:=someb (ifF s rfl)
     subst c2
     subst n
     have c3:=someb (ifF q rfl)
     subst c3
     exact AWP.drT [(2,.bool j),(6,.bool k)] 26 [] [] []
    | true=>
     cases b6 with
     | false=>
      subst m
      have c4:=someb (ifF s rfl)
      subst c4
      subst n
      have c5:=someb (ifF q rfl)
      subst c5
      exact AWP.drT [(2,.bool j),(6,.bool k),(10,.bool l)] 26 [] [] []
     | true=>
      cases b7 with
      | false=>
       have c6:=someb (ifF s rfl)
       subst c6
       subst n
       have c7:=someb (ifF q rfl)
       subst c7
       exact AWP.drT [(2,.bool j),(6,.bool k),(10,.bool l),(14,.bool m)] 26 [] [] []
      | true=>
       have o:=ifT s rfl
       obtain⟨z,a0,o⟩:=bindb o
       obtain⟨a1,a2,o⟩:=bindb o
       replace o:=someb o
       subst o
       cases b8 with
       | false=>
        have c8:=someb (ifF q rfl)
        subst c8
        exact AWP.drT [(2,.bool j),(6,.bool k),(10,.bool l),(14,.bool m),(17,.call Tryz.func11 [] (Ze9 b.1 c.1 z a0)),(20,.call Tryz.func11 [] (Ze9 i.1 p.1 a1 a2)),(23,.bool n)] 26 [] [] []
       | true=>
        have t:=ifT q rfl
        obtain⟨c9,d0,t⟩:=bindb t
        replace t:=someb t
        subst t
        exact AWP.drT [(2,.bool j),(6,.bool k),(10,.bool l),(14,.bool m),(17,.call Tryz.func11 [] (Ze9 b.1 c.1 z a0)),(20,.call Tryz.func11 [] (Ze9 i.1 p.1 a1 a2)),(23,.bool n),(24,.call Tryz.func9 [] (Zi6 c9 d0))] 26 [] [] []
  refine AWP.ret ?_
  have hr:=someb hF
  subst hr
  exact(FnQ.f0 0 (.inr rfl))
end Go.AM
set_option maxRecDepth 100000
namespace Go.AM
open Go
def Ok {α:Type} (x:Option α) (p:α→Prop):Prop:=∃ r,x=some r∧p r
theorem Ok.bind {α γ:Type} {x:Option α} {p:α→Prop} {f:α→Option γ} {q:γ→Prop} (h:Ok x p) (k:∀ v,p v→Ok (f v) q):Ok (x.bind f) q:=by
 obtain⟨v,rfl,hv⟩:=h
 exact k v hv
theorem Ok.ret {α:Type} {r:α} {p:α→Prop} (h:p r):Ok (some r) p:=⟨r,rfl,h⟩
theorem Ok.chk {α:Type} {c:Prop} [Decidable c] {x:Option α} {p:α→Prop} (hc:c) (h:Ok x p):Ok (if c then x else none) p:=by rw [if_pos hc]; exact h
theorem Ok.ite {α:Type} {c:Prop} [Decidable c] {x y:Option α} {p:α→Prop} (h1:c→Ok x p) (h2:¬ c→Ok y p):Ok (if c then x else y) p:=by
 split
 ·exact h1 (by assumption)
 ·exact h2 (by assumption)
theorem Ok.lift {α γ:Type} {b:α} {f:α→Option γ} {q:γ→Prop} (h:Ok (f b) q):Ok ((Option.some b).bind f) q:=h
theorem Ok.mono {α:Type} {x:Option α} {p q:α→Prop} (h:Ok x p) (k:∀ v,p v→q v):Ok x q:=by
 obtain⟨v,h1,h2⟩:=h
 exact⟨v,h1,k v h2⟩
theorem Ok.get {α:Type} {x:Option α} {p:α→Prop} (h:Ok x p) {r:α} (e:x=some r):p r:=by
 obtain⟨v,h1,h2⟩:=h
 rw [h1] at e; cases e; exact h2
theorem Ok.eq {α:Type} {x:Option α} {r:α} (h:Ok x (·=r)):x=some r:=by
 obtain⟨v,h1,rfl⟩:=h; exact h1
theorem Ok.idx {α:Type} {l:List α} {i:Int} {p:α→Prop} (h0:0≤i) (h1:i<l.length) (h:∀ x∈l,p x):Ok (idx l i) p:=by
 have hi:i.toNat<l.length:=by omega
 exact⟨l[i.toNat],by simp [AM.idx,h0,hi],h _ (List.getElem_mem hi)⟩
theorem Zao {α:Type} {l:List α} {i:Nat} (h:i<l.length):AM.idx l (i:Int)=some l[i]:=by simp [AM.idx,h]
theorem wrap_u (k:IntKind) (b:Nat) (hs:k.signed=false) (hb:k.bits=b) (x:Int):k.wrap x=x % (2 ^ b:Int):=by
 subst hb; simp [IntKind.wrap,hs]
theorem wi64 {x:Int} (h0:-9223372036854775808≤x) (h1:x<9223372036854775808):IntKind.wrap .i64 x=x:=by
 simp only [IntKind.wrap,IntKind.bits,IntKind.signed]
 simp
 omega
theorem wu64 {x:Int} (h0:0≤x) (h1:x<18446744073709551616):IntKind.wrap .u64 x=x:=by
 simp only [IntKind.wrap,IntKind.bits,IntKind.signed]
 simp
 omega
theorem wu32 {x:Int} (h0:0≤x) (h1:x<4294967296):IntKind.wrap .u32 x=x:=by
 simp only [IntKind.wrap,IntKind.bits,IntKind.signed]
 simp
 omega
theorem Zg0 (x:Int):0≤IntKind.wrap .u32 x∧IntKind.wrap .u32 x<4294967296:=by
 simp only [IntKind.wrap,IntKind.bits,IntKind.signed]
 simp
 omega
theorem Zr6 (x:Int):0≤IntKind.wrap .u64 x∧IntKind.wrap .u64 x<18446744073709551616:=by
 simp only [IntKind.wrap,IntKind.bits,IntKind.signed]
 simp
 omega
theorem Zti {k:Nat} (h:k<64):bShl .u64 1 (k:Int)=(2 ^ k:Nat):=by
 have h2:(2:Nat) ^ k<2 ^ 64:=Nat.pow_lt_pow_right (by omega) h
 unfold bShl
 have e:((1:Int) * 2 ^ min (k:Int).toNat (IntKind.bits .u64))=((2 ^ k:Nat):Int):=by
  rw [show IntKind.bits .u64=64 from rfl,Int.toNat_natCast,Nat.min_eq_left (by omega)]; simp
 have h3:((2 ^ k:Nat):Int)<18446744073709551616:=Int.ofNat_lt.2 h2
 rw [e]
 exact wu64 (Int.natCast_nonneg _) h3
structure TOk (t:Zd):Prop where
 h0:0≤t.f_i
 h1:t.f_i≤t.f_l.length
 h2:(t.f_l.length:Int)<9223372036854775808
theorem New_ok {l:List Int} (h:(l.length:Int)<9223372036854775808):Ok (Zgs l) TOk:=Ok.ret ⟨Int.le_refl 0,by simp,h⟩
theorem Mod_ok {x n:Int} (h1:1≤n) (h2:n<9223372036854775808):Ok (Ze5 x n) fun v=>0≤v∧v<n:=by
 unfold Ze5
 have hn:IntKind.wrap .u64 n=n:=wu64 (by omega) (by omega)
 rw [hn]
 have hx:=Zr6 x
 have h3:0≤Int.tmod (IntKind.wrap .u64 x) n:=Int.tmod_nonneg _ hx.1
 have h4:Int.tmod (IntKind.wrap .u64 x) n<n:=Int.tmod_lt_of_pos _ (by omega)
 refine Ok.chk (by omega) (Ok.ret ?_)
 rw [wi64 (by omega) (by omega)]
 exact⟨h3,h4⟩
theorem Zug {t:Zd} (ht:TOk t) (n:Int) (h2:n<9223372036854775808):Ok (Zy t n) fun r=>(0≤r.1∧(r.1<n∨r.1=0))∧TOk r.2:=by
 unfold Zy
 refine Ok.lift (Ok.ite (fun hc=>Ok.ret ⟨⟨by simp,.inr rfl⟩,ht⟩) fun hc=>?_)
 simp only [Bool.or_eq_true,decide_eq_true_eq] at hc
 have hc1:¬ n≤1:=fun h=>hc (.inl h)
 have hc2:¬ t.f_i ≥ t.f_l.length:=fun h=>hc (.inr h)
 have h0:=ht.h0
 have h1:=ht.h2
 have e1:IntKind.wrap .i64 (t.f_i + 1)=t.f_i + 1:=wi64 (by omega) (by omega)
 rw [e1]
 have e2:IntKind.wrap .i64 (t.f_i + 1 - 1)=t.f_i:=by rw [Int.add_sub_cancel]; exact wi64 (by omega) (by omega)
 rw [e2]
 refine Ok.bind (Ok.idx (p:=fun _=>True) h0 (by omega) fun _ _=>trivial) fun x _=>?_
 refine Ok.bind (Mod_ok (by omega) h2) fun v hv=>Ok.ret ⟨⟨hv.1,.inl hv.2⟩,?_⟩
 exact⟨by show 0≤t.f_i + 1; omega,by show t.f_i + 1≤t.f_l.length; omega,h1⟩
theorem Zdx {t:Zd} (ht:TOk t) (n:Int) (h1:1≤n) (h2:n<9223372036854775808):Ok (Zy t n) fun r=>(0≤r.1∧r.1<n)∧TOk r.2:=
 (Zug ht n h2).mono fun r ⟨⟨h3,h4⟩,h5⟩=>⟨⟨h3,by omega⟩,h5⟩
def full:Arr5 Zb:=⟨⟨0,4294967295⟩,⟨0,4294967295⟩,⟨0,255⟩,⟨0,65535⟩,⟨0,65535⟩⟩
theorem Zuh:Zfy=some full:=by kernel_rfl
structure ROk (top:Int) (r:Zb):Prop where
 h0:0≤r.Lo
 h1:r.Lo≤r.Hi
 h2:r.Hi≤top
structure RIn (r:Zb):Prop where
 h0:0≤r.Lo
 h1:r.Lo<4294967296
 h2:0≤r.Hi
 h3:r.Hi<4294967296
theorem ROk.rin {top:Int} {r:Zb} (h:ROk top r) (ht:top<4294967296):RIn r:=⟨h.h0,by have:=h.h1; have:=h.h2; omega,by have:=h.h0; have:=h.h1; omega,by have:=h.h2; omega⟩
structure BOk (b:Arr5 Zb):Prop where
 h0:ROk 4294967295 b.x0
 h1:ROk 4294967295 b.x1
 h2:ROk 255 b.x2
 h3:ROk 65535 b.x3
 h4:ROk 65535 b.x4
structure BIn (b:Arr5 Zb):Prop where
 h0:RIn b.x0
 h1:RIn b.x1
 h2:RIn b.x2
 h3:RIn b.x3
 h4:RIn b.x4
theorem BOk.bin {b:Arr5 Zb} (h:BOk b):BIn b:=⟨h.h0.rin (by omega),h.h1.rin (by omega),h.h2.rin (by omega),h.h3.rin (by omega),h.h4.rin (by omega)⟩
theorem Zui:BOk full:=⟨⟨by decide,by decide,by decide⟩,⟨by decide,by decide,by decide⟩,⟨by decide,by decide,by decide⟩,⟨by decide,by decide,by decide⟩,⟨by decide,by decide,by decide⟩⟩
def topOf (i:Int):Int:=if i=0 then 4294967295 else if i=1 then 4294967295 else if i=2 then 255 else 65535
theorem Top_eq (f:Int) (h0:0≤f) (h1:f<5):Zd0 f=some (topOf f):=by
 have hk:f=0∨f=1∨f=2∨f=3∨f=4:=by omega
 rcases hk with rfl | rfl | rfl | rfl | rfl <;> rfl
theorem fuel6:fuel=1180591620717411303418 + 6:=by kernel_rfl
theorem Zo6 {t:Zd} (ht:TOk t) {top:Int} (h0:0≤top) (h1:top<4294967296):Ok (Zcm t top) fun r=>(0≤r.1∧r.1≤top)∧TOk r.2:=by
 unfold Zcm
 refine Ok.bind (Zdx ht 17 (by omega) (by omega)) fun r ⟨⟨h2,h3⟩,h4⟩=>?_
 have hw:=Zg0 (Int.tdiv top 2)
 have hw2:=Zg0 (top - 1)
 refine Ok.bind (Ok.idx (p:=fun x=>0≤x) h2 (by simpa using h3) fun x hx=>?_) fun x hx=>Ok.ret ⟨⟨?_,?_⟩,h4⟩
 ·simp only [List.mem_cons,List.not_mem_nil,or_false] at hx
  omega
 ·show 0≤iMin x top
  unfold iMin; split <;> omega
 ·show iMin x top≤top
  unfold iMin; split <;> omega
theorem Zqg {t:Zd} (ht:TOk t) {top:Int} (h0:0≤top) (h1:top<4294967296):Ok (Zcr t top) fun r=>ROk top r.1∧TOk r.2:=by
 unfold Zcr
 refine Ok.bind (Zo6 ht h0 h1) fun r ⟨⟨h2,h3⟩,h4⟩=>Ok.bind (Zo6 h4 h0 h1) fun s ⟨⟨h5,h6⟩,h7⟩=>Ok.ret ⟨⟨?_,?_,?_⟩,h7⟩
 ·show 0≤iMin r.1 s.1
  unfold iMin; split <;> omega
 ·show iMin r.1 s.1≤iMax r.1 s.1
  unfold iMin iMax; split <;> split <;> omega
 ·show iMax r.1 s.1≤top
  unfold iMax; split <;> omega
def subnets:List Za0:=[⟨167772160,24⟩,⟨167772416,24⟩,⟨167772672,25⟩,⟨167772800,26⟩,⟨2886729728,16⟩,⟨3232237321,32⟩]
theorem Zo7 {x:Int}:Ok (Zdr x) fun p=>p∈subnets:=by
 unfold Zdr
 refine Ok.bind (Mod_ok (by omega) (by omega)) fun r ⟨h0,h1⟩=>?_
 exact Ok.bind (Ok.idx (p:=fun p=>p∈subnets) h0 (by simpa using h1) fun x hx=>hx) fun x hx=>Ok.ret hx
theorem Of_ok {p:Za0} (hp:p∈subnets):Ok (Zfn p) fun r=>ROk 4294967295 r.1:=by
 simp only [subnets,List.mem_cons,List.not_mem_nil,or_false] at hp
 rcases hp with rfl | rfl | rfl | rfl | rfl | rfl
 ·exact⟨(⟨167772160,167772415⟩,true),by kernel_rfl,by decide,by decide,by decide⟩
 ·exact⟨(⟨167772416,167772671⟩,true),by kernel_rfl,by decide,by decide,by decide⟩
 ·exact⟨(⟨167772672,167772799⟩,true),by kernel_rfl,by decide,by decide,by decide⟩
 ·exact⟨(⟨167772800,167772863⟩,true),by kernel_rfl,by decide,by decide,by decide⟩
 ·exact⟨(⟨2886729728,2886795263⟩,true),by kernel_rfl,by decide,by decide,by decide⟩
 ·exact⟨(⟨3232237321,3232237321⟩,true),by kernel_rfl,by decide,by decide,by decide⟩
theorem Zoj {t:Zd} (ht:TOk t):Ok (Zcf t) fun r=>(0≤r.1∧r.1≤4294967295)∧TOk r.2:=by
 unfold Zcf
 refine Ok.bind (Zdx ht 5 (by omega) (by omega)) fun r ⟨⟨h2,h3⟩,h4⟩=>Ok.ite (fun _=>?_) fun _=>?_
 ·refine Ok.bind (Zdx h4 6 (by omega) (by omega)) fun r ⟨⟨h2,h3⟩,h4⟩=>?_
  refine Ok.bind (Ok.idx (p:=fun x=>0≤x∧x≤4294967295) h2 (by simpa using h3) fun x hx=>?_) fun x hx=>Ok.ret ⟨hx,h4⟩
  simp only [List.mem_cons,List.not_mem_nil,or_false] at hx
  omega
 ·refine Ok.bind (Zdx h4 6 (by omega) (by omega)) fun r ⟨⟨h2,h3⟩,h4⟩=>Ok.bind Zo7 fun p hp=>Ok.bind (Of_ok hp) fun q hq=>?_
  refine Ok.bind (Zdx h4 5 (by omega) (by omega)) fun r ⟨⟨h2,h3⟩,h4⟩=>?_
  refine Ok.bind (Ok.idx (p:=fun x=>0≤x∧x≤4294967295) h2 (by simpa using h3) fun x hx=>?_) fun x hx=>Ok.ret ⟨hx,h4⟩
  have g0:=hq.h0
  have g1:=hq.h1
  have g2:=hq.h2
  have w1:=Zg0 (q.1.Lo + 5)
  have w2:=Zg0 (q.1.Hi + 1)
  have w3:=Zg0 (q.1.Lo - 1)
  simp only [List.mem_cons,List.not_mem_nil,or_false] at hx
  omega
theorem Zkm {t:Zd} (ht:TOk t):Ok (Zb3 t) fun r=>ROk 4294967295 r.1∧TOk r.2:=by
 unfold Zb3
 refine Ok.bind (Zdx ht 4 (by omega) (by omega)) fun r ⟨⟨h2,h3⟩,h4⟩=>Ok.ite (fun _=>?_) fun _=>Ok.ite (fun _=>?_) fun _=>Ok.ite (fun _=>?_) fun _=>?_
 ·exact Ok.bind (Zdx h4 6 (by omega) (by omega)) fun r ⟨⟨h2,h3⟩,h4⟩=>Ok.bind Zo7 fun p hp=>Ok.bind (Of_ok hp) fun q hq=>Ok.ret ⟨hq,h4⟩
 ·refine Ok.bind (Zoj h4) fun a ⟨⟨a1,a2⟩,a3⟩=>Ok.bind (Zoj a3) fun b ⟨⟨b1,b2⟩,b3⟩=>Ok.ret ⟨⟨?_,?_,?_⟩,b3⟩
  ·show 0≤iMin a.1 b.1
   unfold iMin; split <;> omega
  ·show iMin a.1 b.1≤iMax a.1 b.1
   unfold iMin iMax; split <;> split <;> omega
  ·show iMax a.1 b.1≤4294967295
   unfold iMax; split <;> omega
 ·exact Ok.bind (Zoj h4) fun a ⟨⟨a1,a2⟩,a3⟩=>Ok.ret ⟨⟨a1,Int.le_refl _,a2⟩,a3⟩
 ·exact Ok.ret ⟨⟨Int.le_refl _,(by decide:(0:Int)≤4294967295),Int.le_refl _⟩,h4⟩
theorem Zo8:∀(n:Nat) (t:Zd) (b:Arr5 Zb) (i:Int),TOk t→BOk b→i≤n→0≤i→i<100→Ok (Zbr (n + 1) t b i) fun r=>TOk r.1∧BOk r.2
 | 0,t,b,i,ht,hb,hi,h0,h9=>by
  rw [Zbr]
  exact Ok.ite (fun hc=>absurd (of_decide_eq_true hc) (by omega)) fun _=>Ok.ret ⟨ht,hb⟩
 | n + 1,t,b,i,ht,hb,hi,h0,h9=>by
  rw [Zbr]
  refine Ok.ite (fun hc=>?_) fun _=>Ok.ret ⟨ht,hb⟩
  have hc:=of_decide_eq_true hc
  refine Ok.bind (p:=fun r=>TOk r.1∧BOk r.2) ?_ fun r ⟨h1,h2⟩=>?_
  ·refine Ok.bind (Zdx ht 5 (by omega) (by omega)) fun r ⟨_,h4⟩=>Ok.ite (fun _=>?_) fun _=>Ok.ite (fun _=>?_) fun _=>Ok.ite (fun _=>?_) fun _=>Ok.ite (fun _=>?_) fun _=>?_
   ·exact Ok.bind (Zkm h4) fun q ⟨g1,g2⟩=>Ok.ret ⟨g2,⟨g1,hb.h1,hb.h2,hb.h3,hb.h4⟩⟩
   ·exact Ok.bind (Zkm h4) fun q ⟨g1,g2⟩=>Ok.ret ⟨g2,⟨hb.h0,g1,hb.h2,hb.h3,hb.h4⟩⟩
   ·refine Ok.bind (Zdx h4 6 (by omega) (by omega)) fun r ⟨⟨h2,h3⟩,h4⟩=>?_
    refine Ok.bind (Ok.idx (p:=fun x=>0≤x∧x≤255) h2 (by simpa using h3) fun x hx=>?_) fun x hx=>Ok.ret ⟨h4,⟨hb.h0,hb.h1,⟨hx.1,Int.le_refl _,hx.2⟩,hb.h3,hb.h4⟩⟩
    simp only [List.mem_cons,List.not_mem_nil,or_false] at hx
    omega
   ·exact Ok.bind (Zqg h4 (by omega) (by omega)) fun q ⟨g1,g2⟩=>Ok.ret ⟨g2,⟨hb.h0,hb.h1,hb.h2,g1,hb.h4⟩⟩
   ·exact Ok.bind (Zqg h4 (by omega) (by omega)) fun q ⟨g1,g2⟩=>Ok.ret ⟨g2,⟨hb.h0,hb.h1,hb.h2,hb.h3,g1⟩⟩
  ·obtain⟨r1,r2⟩:=r
   show Ok (Zbr (n + 1) r1 r2 (IntKind.wrap .i64 (i - 1))) _
   rw [wi64 (by omega) (by omega)]
   exact Zo8 n r1 r2 (i - 1) h1 h2 (by omega) (by omega) (by omega)
theorem Box_ok {t:Zd} (ht:TOk t):Ok (Zd4 t) fun r=>BOk r.1∧TOk r.2:=by
 unfold Zd4
 rw [Zuh]
 refine Ok.lift (Ok.bind (Zdx ht 3 (by omega) (by omega)) fun r ⟨⟨h2,h3⟩,h4⟩=>?_)
 have e:IntKind.wrap .i64 (1 + r.1)=1 + r.1:=wi64 (by omega) (by omega)
 rw [e]
 refine Ok.bind (Zo8 1180591620717411303423 r.2 full (1 + r.1) h4 Zui (by omega) (by omega) (by omega)) fun q ⟨g1,g2⟩=>?_
 obtain⟨q1,q2⟩:=q
 exact Ok.ret ⟨g2,g1⟩
theorem five {k:Int} (h0:0≤k) (h1:k<5):k=0∨k=1∨k=2∨k=3∨k=4:=by omega
theorem wnext {k:Int} (h0:0≤k) (h1:k<1000000):IntKind.wrap .i64 (k + (1:Int))=k + 1:=wi64 (by omega) (by omega)
def sideBad (top:Int) (r:Zb):Bool:=decide (r.Lo > r.Hi) || decide (r.Hi > top)
theorem Ztj {k:Int} (h0:0≤k) (h1:k<5):Arr5.get Zdz k=topOf k:=by
 rcases five h0 h1 with rfl | rfl | rfl | rfl | rfl <;> rfl
theorem vstep (b:Arr5 Zb) (n:Nat) {k:Int} (h0:0≤k) (h1:k<5):Zaf b (n + 1) k=if sideBad (topOf k) (b.get k)=true then some (.inr false) else Zaf b n (k + 1):=by
 rw [Zaf,if_pos (decide_eq_true h1),if_pos ⟨h0,h1⟩,if_pos ⟨h0,h1⟩,Ztj h0 h1,wnext h0 (by omega)]
 unfold sideBad
 cases decide ((b.get k).Lo > (b.get k).Hi) <;> simp
theorem rvstep (b:Arr5 Zb) (n:Nat) {k:Int} (h0:0≤k) (h1:k<5):Zz b (n + 1) k=if sideBad (topOf k) (b.get k)=true then some (.inr false) else Zz b n (k + 1):=by
 rw [Zz,if_pos (decide_eq_true h1),if_pos ⟨h0,h1⟩,if_pos ⟨h0,h1⟩,if_pos ⟨h0,h1⟩,Top_eq k h0 h1,wnext h0 (by omega)]
 unfold sideBad
 cases decide ((b.get k).Lo > (b.get k).Hi) <;> simp
def vB (b:Arr5 Zb):Bool:=
 if sideBad 4294967295 b.x0=true then false else if sideBad 4294967295 b.x1=true then false else if sideBad 255 b.x2=true then false else if sideBad 65535 b.x3=true then false else if sideBad 65535 b.x4=true then false else true
theorem Ztk (b:Arr5 Zb):Zf9 b=some (vB b):=by
 unfold Zf9
 rw [fuel6]
 generalize (1180591620717411303418:Nat)=m
 have s0:Zaf b (m + 6) 0=if sideBad 4294967295 b.x0=true then some (.inr false) else Zaf b (m + 5) 1:=vstep b (m + 5) (by omega) (by omega)
 have s1:Zaf b (m + 5) 1=if sideBad 4294967295 b.x1=true then some (.inr false) else Zaf b (m + 4) 2:=vstep b (m + 4) (by omega) (by omega)
 have s2:Zaf b (m + 4) 2=if sideBad 255 b.x2=true then some (.inr false) else Zaf b (m + 3) 3:=vstep b (m + 3) (by omega) (by omega)
 have s3:Zaf b (m + 3) 3=if sideBad 65535 b.x3=true then some (.inr false) else Zaf b (m + 2) 4:=vstep b (m + 2) (by omega) (by omega)
 have s4:Zaf b (m + 2) 4=if sideBad 65535 b.x4=true then some (.inr false) else Zaf b (m + 1) 5:=vstep b (m + 1) (by omega) (by omega)
 have s5:Zaf b (m + 1) 5=some (.inl ()):=by rw [Zaf]; rfl
 rw [s0,s1,s2,s3,s4,s5]
 unfold vB
 repeat' split
 all_goals first | rfl | (simp_all; done) | skip
theorem Zo9 (b:Arr5 Zb):Zds b=some (vB b):=by
 unfold Zds
 rw [fuel6]
 generalize (1180591620717411303418:Nat)=m
 have s0:Zz b (m + 6) 0=if sideBad 4294967295 b.x0=true then some (.inr false) else Zz b (m + 5) 1:=rvstep b (m + 5) (by omega) (by omega)
 have s1:Zz b (m + 5) 1=if sideBad 4294967295 b.x1=true then some (.inr false) else Zz b (m + 4) 2:=rvstep b (m + 4) (by omega) (by omega)
 have s2:Zz b (m + 4) 2=if sideBad 255 b.x2=true then some (.inr false) else Zz b (m + 3) 3:=rvstep b (m + 3) (by omega) (by omega)
 have s3:Zz b (m + 3) 3=if sideBad 65535 b.x3=true then some (.inr false) else Zz b (m + 2) 4:=rvstep b (m + 2) (by omega) (by omega)
 have s4:Zz b (m + 2) 4=if sideBad 65535 b.x4=true then some (.inr false) else Zz b (m + 1) 5:=rvstep b (m + 1) (by omega) (by omega)
 have s5:Zz b (m + 1) 5=some (.inl ()):=by rw [Zz]; rfl
 rw [s0,s1,s2,s3,s4,s5]
 unfold vB
 repeat' split
 all_goals first | rfl | (simp_all; done) | skip
theorem vB_ok {b:Arr5 Zb} (hb:BIn b) (h:vB b=true):BOk b:=by
 unfold vB sideBad at h
 simp only [Bool.or_eq_true,decide_eq_true_eq] at h
 split at h; · cases h
 split at h; · cases h
 split at h; · cases h
 split at h; · cases h
 split at h; · cases h
 exact⟨⟨hb.h0.h0,by omega,by omega⟩,⟨hb.h1.h0,by omega,by omega⟩,⟨hb.h2.h0,by omega,by omega⟩,⟨hb.h3.h0,by omega,by omega⟩,⟨hb.h4.h0,by omega,by omega⟩⟩
theorem ok_vB {b:Arr5 Zb} (h:BOk b):vB b=true:=by
 obtain⟨⟨_,a1,a2⟩,⟨_,b1,b2⟩,⟨_,c1,c2⟩,⟨_,d1,d2⟩,⟨_,e1,e2⟩⟩:=h
 unfold vB sideBad
 simp only [Bool.or_eq_true,decide_eq_true_eq]
 rw [if_neg (by omega),if_neg (by omega),if_neg (by omega),if_neg (by omega),if_neg (by omega)]
theorem BIn.get {b:Arr5 Zb} (h:BIn b) (k:Int):RIn (b.get k):=by
 unfold Arr5.get
 split
 ·exact h.h0
 split
 ·exact h.h1
 split
 ·exact h.h2
 split
 ·exact h.h3
 ·exact h.h4
theorem BIn.set {b:Arr5 Zb} (h:BIn b) {r:Zb} (hr:RIn r) (k:Int):BIn (b.set k r):=by
 unfold Arr5.set
 split
 ·exact⟨hr,h.h1,h.h2,h.h3,h.h4⟩
 split
 ·exact⟨h.h0,hr,h.h2,h.h3,h.h4⟩
 split
 ·exact⟨h.h0,h.h1,hr,h.h3,h.h4⟩
 split
 ·exact⟨h.h0,h.h1,h.h2,hr,h.h4⟩
 ·exact⟨h.h0,h.h1,h.h2,h.h3,hr⟩
theorem BIn.setHi {b:Arr5 Zb} (h:BIn b) {v:Int} (h0:0≤v) (h1:v<4294967296) (k:Int):BIn (b.set k { (b.get k) with Hi:=v }):=by
 have hg:=h.get k
 generalize b.get k=r at hg ⊢
 exact BIn.set h (r:=⟨r.Lo,v⟩) (RIn.mk hg.h0 hg.h1 h0 h1) k
theorem BIn.setLo {b:Arr5 Zb} (h:BIn b) {v:Int} (h0:0≤v) (h1:v<4294967296) (k:Int):BIn (b.set k { (b.get k) with Lo:=v }):=by
 have hg:=h.get k
 generalize b.get k=r at hg ⊢
 exact BIn.set h (r:=⟨v,r.Hi⟩) (RIn.mk h0 h1 hg.h2 hg.h3) k
theorem Zq3 {t:Zd} (ht:TOk t) {b:Arr5 Zb} (hb:BIn b):Ok (Zcs t b) fun r=>BIn r.1∧TOk r.2:=by
 unfold Zcs
 refine Ok.bind (Zdx ht 5 (by omega) (by omega)) fun r1 ⟨⟨h2,h3⟩,h4⟩=>?_
 refine Ok.bind (p:=fun o=>TOk o.1∧BIn o.2) ?_ fun o ⟨g1,g2⟩=>Ok.ret ⟨g2,g1⟩
 refine Ok.bind (Zdx h4 3 (by omega) (by omega)) fun r20 ⟨_,h6⟩=>?_
 have hk:0≤r1.1∧r1.1<5:=⟨h2,h3⟩
 have hg:=hb.get r1.1
 refine Ok.ite (fun _=>?_) fun _=>Ok.ite (fun _=>?_) fun _=>?_
 ·refine Ok.chk hk (Ok.chk hk (Ok.chk hk (Ok.chk hk (Ok.ret ⟨h6,?_⟩))))
  exact(hb.setLo hg.h2 hg.h3 _).setHi hg.h0 hg.h1 _
 ·exact Ok.chk hk (Ok.ret ⟨h6,hb.setHi (by decide) (by decide) _⟩)
 ·exact Ok.chk hk (Ok.ret ⟨h6,hb.set ⟨by decide,by decide,by decide,by decide⟩ _⟩)
def GB (wild:Bool) (b:Arr5 Zb):Prop:=BIn b∧(wild=false→BOk b)
theorem Zlu (wild:Bool):∀(n:Nat) (t:Zd) (l:List (Arr5 Zb)) (i:Int),TOk t→(∀ x∈l,GB wild x)→i≤n→0≤i→i<100→(l.length:Int) + i<1000 →
  Ok (Zbh wild (n + 1) t l i) fun r=>TOk r.1∧(∀ x∈r.2,GB wild x)∧(r.2.length:Int)=l.length + i
 | 0,t,l,i,ht,hl,hi,h0,h9,hlen=>by
  rw [Zbh]
  exact Ok.ite (fun hc=>absurd (of_decide_eq_true hc) (by omega)) fun _=>Ok.ret ⟨ht,hl,by show (l.length:Int)=_; omega⟩
 | n + 1,t,l,i,ht,hl,hi,h0,h9,hlen=>by
  rw [Zbh]
  refine Ok.ite (fun hc=>?_) fun hc=>Ok.ret ⟨ht,hl,by simp at hc; show (l.length:Int)=_; omega⟩
  have hc:=of_decide_eq_true hc
  refine Ok.bind (p:=fun r=>TOk r.1∧(∀ x∈r.2,GB wild x)∧r.2.length=l.length + 1) ?_ fun r ⟨h1,h2,h3⟩=>?_
  ·refine Ok.bind (Box_ok ht) fun q ⟨g1,g2⟩=>?_
   refine Ok.bind (p:=fun o=>TOk o.1∧GB wild o.2) ?_ fun o ⟨k1,k2⟩=>?_
   ·refine Ok.lift ?_
    refine Ok.bind (p:=fun v=>TOk v.2∧(v.1=true→wild=true)) ?_ fun v ⟨k1,k2⟩=>?_
    ·refine Ok.ite (fun hw=>?_) fun _=>Ok.ret ⟨g2,fun h=>by cases h⟩
     exact Ok.bind (Zdx g2 8 (by omega) (by omega)) fun r190 ⟨_,h6⟩=>Ok.ret ⟨h6,fun _=>hw⟩
    ·refine Ok.ite (fun hv=>?_) fun _=>Ok.ret ⟨k1,g1.bin,fun _=>g1⟩
     refine Ok.bind (Zq3 k1 g1.bin) fun r196 ⟨m1,m2⟩=>Ok.ret ⟨m2,m1,fun hw=>?_⟩
     rw [k2 hv] at hw; cases hw
   ·obtain⟨o1,o2⟩:=o
    refine Ok.chk (by simp only [List.length_singleton]; unfold lim; omega) (Ok.ret ⟨k1,fun x hx=>?_,by simp⟩)
    rcases List.mem_append.1 hx with hx | hx
    ·exact hl x hx
    ·simp only [List.mem_singleton] at hx; subst hx; exact k2
  ·obtain⟨r1,r2⟩:=r
   simp only at h1 h2 h3
   show Ok (Zbh wild (n + 1) r1 r2 (IntKind.wrap .i64 (i - 1))) _
   rw [wi64 (by omega) (by omega)]
   refine(Zlu wild n r1 r2 (i - 1) h1 h2 (by omega) (by omega) (by omega) (by omega)).mono fun v ⟨e1,e2,e3⟩=>⟨e1,e2,?_⟩
   omega
theorem Ztl (wild:Bool) {t:Zd} (ht:TOk t) {n:Int} (h0:0≤n) (h1:n<90):Ok (Zdh t n wild) fun r=>(∀ x∈r.1,GB wild x)∧(r.1.length:Int)≤n∧TOk r.2:=by
 unfold Zdh
 rw [wi64 (x:=n + 1) (by omega) (by omega)]
 refine Ok.bind (Zdx ht (n + 1) (by omega) (by omega)) fun r ⟨⟨h2,h3⟩,h4⟩=>?_
 refine Ok.bind (Zlu wild 1180591620717411303423 r.2 [] r.1 h4 (by simp) (by omega) h2 (by omega) (by simp; omega)) fun q ⟨g1,g2,g3⟩=>?_
 obtain⟨q1,q2⟩:=q
 refine Ok.ret ⟨g2,?_,g1⟩
 simp at g3
 show (q2.length:Int)≤n
 omega
theorem Zjn (m:Nat) (h:m≤1000000000000):∃ n,fuel=n + m + 1:=⟨fuel - m - 1,by unfold fuel; omega⟩
theorem Zuj {t:List Int} (h:Zl9 t):(t.length:Int)<9223372036854775808:=by have:=h.1; omega
end Go.AM
set_option maxRecDepth 100000
namespace Go.AM
open Go
theorem wsucc {i:Nat} (h:i<1000000000001):IntKind.wrap .i64 ((i:Int) + (1:Int))=((i + 1:Nat):Int):=by
 rw [wi64 (by omega) (by omega)]; omega
def findI {α ρ:Type} (g:Nat→α→Option ρ):Nat→List α→Option ρ
 | _,[]=>none
 | i,x :: xs=>match g i x with
  | some r=>some r
  | none=>findI g (i + 1) xs
def orS {ρ:Type}:Option ρ→Unit ⊕ ρ
 | some r=>.inr r
 | none=>.inl ()
theorem Zin {α ρ:Type} {L:Nat→Int→Option (Unit ⊕ ρ)} (l:List α) (g:Nat→α→Option ρ) (hl:l.length≤1000000000000)
  (step:∀ n (i:Nat) (h:i<l.length),L (n + 1) (i:Int)=match g i l[i] with
   | some r=>some (.inr r)
   | none=>L n ((i + 1:Nat):Int))
  (stop:∀ n,L (n + 1) (l.length:Int)=some (.inl ())):L fuel 0=some (orS (findI g 0 l)):=by
 have key:∀(m n i:Nat),i + m=l.length→L (n + m + 1) (i:Int)=some (orS (findI g i (l.drop i))):=by
  intro m
  induction m with
  | zero=>
   intro n i h
   have hi:i=l.length:=by omega
   subst hi
   rw [List.drop_length]
   exact stop _
  | succ m ih=>
   intro n i h
   have hi:i<l.length:=by omega
   rw [show n + (m + 1) + 1=(n + m + 1) + 1 by omega,step _ i hi,List.drop_eq_getElem_cons hi]
   simp only [findI]
   cases hg:g i l[i] with
   | some r=>rfl
   | none=>exact ih n (i + 1) (by omega)
 obtain⟨f,hf⟩:=Zjn l.length hl
 rw [hf]
 exact key l.length f 0 (by omega)
def foldI {α σ:Type} (f:σ→Nat→α→σ):σ→Nat→List α→σ
 | s,_,[]=>s
 | s,i,x :: xs=>foldI f (f s i x) (i + 1) xs
theorem Zd8 {α σ ρ:Type} {L:Nat→σ→Int→Option ρ} (l:List α) (f:σ→Nat→α→σ) (fin:σ→ρ) (I:Nat→σ→Prop) (hl:l.length≤1000000000000)
  (step:∀ n s (i:Nat) (h:i<l.length),I i s→L (n + 1) s (i:Int)=L n (f s i l[i]) ((i + 1:Nat):Int)∧I (i + 1) (f s i l[i]))
  (stop:∀ n s,I l.length s→L (n + 1) s (l.length:Int)=some (fin s)) (s:σ) (hs:I 0 s):L fuel s 0=some (fin (foldI f s 0 l))∧I l.length (foldI f s 0 l):=by
 have key:∀(m n i:Nat) (s:σ),I i s→i + m=l.length→L (n + m + 1) s (i:Int)=some (fin (foldI f s i (l.drop i)))∧I l.length (foldI f s i (l.drop i)):=by
  intro m
  induction m with
  | zero=>
   intro n i s hs h
   have hi:i=l.length:=by omega
   subst hi
   rw [List.drop_length]
   exact⟨stop _ _ hs,hs⟩
  | succ m ih=>
   intro n i s hs h
   have hi:i<l.length:=by omega
   obtain⟨h1,h2⟩:=step (n + m + 1) s i hi hs
   rw [show n + (m + 1) + 1=(n + m + 1) + 1 by omega,h1,List.drop_eq_getElem_cons hi]
   simp only [foldI]
   exact ih n (i + 1) _ h2 (by omega)
 obtain⟨g,hg⟩:=Zjn l.length hl
 rw [hg]
 exact key l.length g 0 s hs (by omega)
theorem Zuk {α σ ρ:Type} {L:Nat→σ→Int→Option ρ} (l:List α) (I:Nat→σ→Prop) {q:ρ→Prop} (hl:l.length≤1000000000000)
  (step:∀ n s (i:Nat),i<l.length→I i s→(∀ s',I (i + 1) s'→Ok (L n s' ((i + 1:Nat):Int)) q)→Ok (L (n + 1) s (i:Int)) q)
  (stop:∀ n s,I l.length s→Ok (L (n + 1) s (l.length:Int)) q) (s:σ) (hs:I 0 s):Ok (L fuel s 0) q:=by
 have key:∀(m n i:Nat) (s:σ),I i s→i + m=l.length→Ok (L (n + m + 1) s (i:Int)) q:=by
  intro m
  induction m with
  | zero=>
   intro n i s hs h
   have hi:i=l.length:=by omega
   subst hi
   exact stop _ _ hs
  | succ m ih=>
   intro n i s hs h
   rw [show n + (m + 1) + 1=(n + m + 1) + 1 by omega]
   exact step _ s i (by omega) hs fun s' hs'=>ih n (i + 1) s' hs' (by omega)
 obtain⟨g,hg⟩:=Zjn l.length hl
 rw [hg]
 exact key l.length g 0 s hs (by omega)
theorem Zhl {α β:Type} (g:α→β):∀(l:List α) (acc:List β) (i:Nat),foldI (fun s _ x=>s++[g x]) acc i l=acc++l.map g
 | [],acc,i=>by simp [foldI]
 | x :: xs,acc,i=>by simp only [foldI]; rw [Zhl g xs]; simp
theorem Zns {α β:Type} (g:α→List β):∀(l:List α) (acc:List β) (i:Nat),foldI (fun s _ x=>s++g x) acc i l=acc++l.flatMap g
 | [],acc,i=>by simp [foldI]
 | x :: xs,acc,i=>by simp only [foldI]; rw [Zns g xs]; simp
end Go.AM
set_option maxRecDepth 100000
namespace Go.AM
open Go
instance decRg:DecidableEq Zb:=fun a b=>
 if h:a.Lo=b.Lo∧a.Hi=b.Hi then .isTrue (by cases a; cases b; obtain⟨h1,h2⟩:=h; simp only at h1 h2; rw [h1,h2]) else .isFalse fun e=>h (by rw [e]; exact⟨rfl,rfl⟩)
def inR (v:Int) (r:Zb):Bool:=decide (r.Lo≤v) && decide (v≤r.Hi)
def mB:List Zb→List Int→Bool
 | [],[]=>true
 | r :: b,v :: p=>inR v r && mB b p
 | _,_=>false
def mS (l:List (List Zb)) (p:List Int):Bool:=l.any (mB · p)
def atv (l:List (List Zb)) (v:Int):List (List Zb):=l.flatMap fun b=>match b with
 | r :: b'=>if inR v r then [b'] else []
 | []=>[]
def vP:List Int→List Int→Prop
 | [],[]=>True
 | t :: ts,v :: p=>0≤v∧v≤t∧vP ts p
 | _,_=>False
def vR:List Int→List Zb→Prop
 | [],[]=>True
 | t :: ts,r :: b=>0≤r.Lo∧r.Lo≤r.Hi∧r.Hi≤t∧vR ts b
 | _,_=>False
theorem Zf2 (l:List (List Zb)) (v:Int) (p:List Int):mS l (v :: p)=mS (atv l v) p:=by
 induction l with
 | nil=>rfl
 | cons b l ih=>
  have e:mS (b :: l) (v :: p)=(mB b (v :: p) || mS l (v :: p)):=rfl
  rw [e,ih]
  cases b with
  | nil=>rfl
  | cons r b=>
   have e2:atv ((r :: b) :: l) v=(if inR v r then [b] else [])++atv l v:=rfl
   rw [e2]
   unfold mS
   rw [List.any_append]
   simp only [mB]
   cases inR v r <;> simp
theorem mS_app (a b:List (List Zb)) (p:List Int):mS (a++b) p=(mS a p || mS b p):=by unfold mS; rw [List.any_append]
theorem mS_nil (p:List Int):mS [] p=false:=rfl
theorem Zul (a b:List (List Zb)) (v:Int):atv (a++b) v=atv a v++atv b v:=by unfold atv; rw [List.flatMap_append]
abbrev Cell:=Zb × List (List Zb)
def gp (y x:Cell):Prop:=y.1.Hi<x.1.Lo∧(y.1.Hi + 1=x.1.Lo→y.2 ≠ x.2)
def lk (c:List Cell) (v:Int):List (List Zb):=c.flatMap fun x=>if inR v x.1 then x.2 else []
def flt (c:List Cell):List (List Zb):=c.flatMap fun x=>x.2.map (x.1 :: ·)
structure Ord (t:Int) (c:List Cell):Prop where
 pw:c.Pairwise gp
 ok:∀ x∈c,0≤x.1.Lo∧x.1.Lo≤x.1.Hi∧x.1.Hi≤t∧x.2 ≠ []
def CF:List Int→List (List Zb)→Prop
 | [],l=>l=[]∨l=[[]]
 | t :: ts,l=>∃ c,l=flt c∧Ord t c∧∀ x∈c,CF ts x.2
theorem lk_app (a b:List Cell) (v:Int):lk (a++b) v=lk a v++lk b v:=by unfold lk; rw [List.flatMap_append]
theorem Zfa (x:Cell) (b:List Cell) (v:Int):lk (x :: b) v=(if inR v x.1 then x.2 else [])++lk b v:=rfl
theorem Zcz (a b:List Cell):flt (a++b)=flt a++flt b:=by unfold flt; rw [List.flatMap_append]
theorem Zeh (x:Cell) (b:List Cell):flt (x :: b)=x.2.map (x.1 :: ·)++flt b:=rfl
theorem Zrp (r:Zb) (v:Int):∀(l:List (List Zb)),atv (l.map (r :: ·)) v=if inR v r then l else []
 | []=>by simp [atv]
 | b :: l=>by
  have e:atv ((b :: l).map (r :: ·)) v=(if inR v r then [b] else [])++atv (l.map (r :: ·)) v:=rfl
  rw [e,Zrp r v l]
  split <;> rfl
theorem Zhd (c:List Cell) (v:Int):atv (flt c) v=lk c v:=by
 induction c with
 | nil=>rfl
 | cons x c ih=>rw [Zeh,Zfa,Zul,Zrp,ih]
theorem Zeb {v:Int} {r:Zb}:inR v r=true ↔ r.Lo≤v∧v≤r.Hi:=by unfold inR; simp
theorem Zkn {c:List Cell} {v:Int} (h:∀ x∈c,¬ (x.1.Lo≤v∧v≤x.1.Hi)):lk c v=[]:=by
 induction c with
 | nil=>rfl
 | cons x c ih=>
  rw [Zfa,ih fun y hy=>h y (List.mem_cons_of_mem _ hy),if_neg (by rw [Zeb]; exact h x (List.mem_cons_self ..))]; rfl
theorem Ord.tail {t:Int} {x:Cell} {c:List Cell} (h:Ord t (x :: c)):Ord t c:=⟨(List.pairwise_cons.1 h.pw).2,fun y hy=>h.ok y (List.mem_cons_of_mem _ hy)⟩
theorem lk_mem {t:Int}:∀ {c:List Cell},Ord t c→∀ {x:Cell},x∈c→∀ {v:Int},x.1.Lo≤v→v≤x.1.Hi→lk c v=x.2
 | [],_,_,h,_,_,_=>(by cases h)
 | y :: c,ho,x,hx,v,h1,h2=>by
  have hp:=List.pairwise_cons.1 ho.pw
  rw [Zfa]
  rcases List.mem_cons.1 hx with rfl | hx
  ·rw [if_pos (Zeb.2 ⟨h1,h2⟩),Zkn,List.append_nil]
   intro z hz
   have:=(hp.1 z hz).1
   omega
  ·have:=(hp.1 x hx).1
   rw [if_neg (by rw [Zeb]; omega),lk_mem ho.tail hx h1 h2]; rfl
theorem Zhv {c:List Cell} {v:Int} (h:lk c v ≠ []):∃ x∈c,x.1.Lo≤v∧v≤x.1.Hi:=by
 apply Classical.byContradiction
 intro hn
 exact h (Zkn fun x hx hv=>hn ⟨x,hx,hv⟩)
theorem Ord.inj {t:Int}:∀ {c c':List Cell},Ord t c→Ord t c'→(∀ v,lk c v=lk c' v)→c=c'
 | [],[],_,_,_=>rfl
 | [],y :: c',_,h',h=>by
  have hy:=h'.ok y (List.mem_cons_self ..)
  have:=h y.1.Lo
  rw [lk_mem h' (List.mem_cons_self ..) (Int.le_refl _) hy.2.1] at this
  exact absurd this.symm hy.2.2.2
 | x :: c,[],h,_,he=>by
  have hy:=h.ok x (List.mem_cons_self ..)
  have:=he x.1.Lo
  rw [lk_mem h (List.mem_cons_self ..) (Int.le_refl _) hy.2.1] at this
  exact absurd this hy.2.2.2
 | x :: c,y :: c',h,h',he=>by
  have hx:=h.ok x (List.mem_cons_self ..)
  have hy:=h'.ok y (List.mem_cons_self ..)
  have px:=List.pairwise_cons.1 h.pw
  have py:=List.pairwise_cons.1 h'.pw
  have low:∀ {x:Cell} {c c':List Cell} {y:Cell},Ord t (x :: c)→Ord t (y :: c')→(∀ v,lk (x :: c) v=lk (y :: c') v)→y.1.Lo≤x.1.Lo:=by
   intro x c c' y h h' he
   have hx:=h.ok x (List.mem_cons_self ..)
   have py:=List.pairwise_cons.1 h'.pw
   have h1:=he x.1.Lo
   rw [lk_mem h (List.mem_cons_self ..) (Int.le_refl _) hx.2.1] at h1
   obtain⟨z,hz,h2,h3⟩:=Zhv (c:=y :: c') (v:=x.1.Lo) (by rw [← h1]; exact hx.2.2.2)
   rcases List.mem_cons.1 hz with rfl | hz
   ·exact h2
   ·have:=(py.1 z hz).1
    have:=(h'.ok y (List.mem_cons_self ..)).2.1
    omega
  have e1:x.1.Lo=y.1.Lo:=Int.le_antisymm (low h' h fun v=>(he v).symm) (low h h' he)
  have e2:x.2=y.2:=by
   have h1:=he x.1.Lo
   rw [lk_mem h (List.mem_cons_self ..) (Int.le_refl _) hx.2.1,lk_mem h' (List.mem_cons_self ..) (by omega) (by omega)] at h1
   exact h1
  have hi:∀ {x:Cell} {c c':List Cell} {y:Cell},Ord t (x :: c)→Ord t (y :: c')→(∀ v,lk (x :: c) v=lk (y :: c') v)→x.1.Lo=y.1.Lo→x.2=y.2→¬ x.1.Hi<y.1.Hi:=by
   intro x c c' y h h' he e1 e2 hlt
   have hx:=h.ok x (List.mem_cons_self ..)
   have px:=List.pairwise_cons.1 h.pw
   have h1:=he (x.1.Hi + 1)
   rw [lk_mem h' (v:=x.1.Hi + 1) (List.mem_cons_self ..) (by omega) (by omega)] at h1
   obtain⟨z,hz,h2,h3⟩:=Zhv (c:=x :: c) (v:=x.1.Hi + 1) (by rw [h1,← e2]; exact hx.2.2.2)
   rcases List.mem_cons.1 hz with rfl | hzc
   ·omega
   ·have hg:=px.1 z hzc
    rw [lk_mem h hz h2 h3,← e2] at h1
    exact hg.2 (by have:=hg.1; omega) h1.symm
  have e3:x.1.Hi=y.1.Hi:=by
   have a1:=hi h h' he e1 e2
   have a2:=hi h' h (fun v=>(he v).symm) e1.symm e2.symm
   omega
  have exy:x=y:=by
   obtain⟨⟨a,b⟩,r⟩:=x
   obtain⟨⟨a',b'⟩,r'⟩:=y
   simp only at e1 e2 e3
   subst e1 e2 e3
   rfl
  subst exy
  congr 1
  refine Ord.inj h.tail h'.tail fun v=>?_
  have h1:=he v
  rw [Zfa,Zfa] at h1
  exact List.append_cancel_left h1
theorem CF_nil:∀ ts,CF ts []
 | []=>.inl rfl
 | _ :: _=>⟨[],rfl,⟨List.Pairwise.nil,fun _ h=>(by cases h)⟩,fun _ h=>(by cases h)⟩
theorem CF_lk {ts:List Int} {t:Int} {c:List Cell} (h:Ord t c) (hc:∀ x∈c,CF ts x.2) (v:Int):CF ts (lk c v):=by
 by_cases hv:lk c v=[]
 ·rw [hv]; exact CF_nil ts
 ·obtain⟨x,hx,h1,h2⟩:=Zhv hv
  rw [lk_mem h hx h1 h2]
  exact hc x hx
theorem lk_out {t:Int} {c:List Cell} (h:Ord t c) {v:Int} (hv:v<0∨t<v):lk c v=[]:=
 Zkn fun x hx=>by have:=h.ok x hx; omega
theorem CF_inj:∀(ts:List Int) {l l':List (List Zb)},CF ts l→CF ts l'→(∀ p,vP ts p→mS l p=mS l' p)→l=l'
 | [],l,l',h,h',he=>by
  have:=he [] trivial
  rcases h with rfl | rfl <;> rcases h' with rfl | rfl
  ·rfl
  ·simp [mS,mB] at this
  ·simp [mS,mB] at this
  ·rfl
 | t :: ts,l,l',h,h',he=>by
  obtain⟨c,rfl,ho,hc⟩:=h
  obtain⟨c',rfl,ho',hc'⟩:=h'
  rw [Ord.inj ho ho' fun v=>?_]
  by_cases hv:0≤v∧v≤t
  ·refine CF_inj ts (CF_lk ho hc v) (CF_lk ho' hc' v) fun p hp=>?_
   have:=he (v :: p) ⟨hv.1,hv.2,hp⟩
   rw [Zf2,Zf2,Zhd,Zhd] at this
   exact this
  ·rw [lk_out ho (by omega),lk_out ho' (by omega)]
def joinC (c:List Cell) (lo hi:Int) (rest:List (List Zb)):List Cell:=
 if rest=[] then c else match c.getLast? with
  | some y=>if y.1.Hi + 1=lo∧y.2=rest then c.dropLast++[(⟨y.1.Lo,hi⟩,rest)] else c++[(⟨lo,hi⟩,rest)]
  | none=>c++[(⟨lo,hi⟩,rest)]
structure Upto (g:Int→List (List Zb)) (p:Int) (c:List Cell):Prop where
 ord:Ord (p - 1) c
 at_:∀ v,lk c v=if 0≤v∧v<p then g v else []
theorem Ord.mono {t t':Int} (h:t≤t') {c:List Cell} (ho:Ord t c):Ord t' c:=⟨ho.pw,fun x hx=>by have:=ho.ok x hx; exact⟨this.1,this.2.1,by omega,this.2.2.2⟩⟩
theorem Upto.nil (g:Int→List (List Zb)):Upto g 0 []:=⟨⟨List.Pairwise.nil,fun _ h=>(by cases h)⟩,fun v=>by rw [if_neg (by omega)]; rfl⟩
theorem Upto.inj {g:Int→List (List Zb)} {p:Int} {c c':List Cell} (h:Upto g p c) (h':Upto g p c'):c=c':=Ord.inj h.ord h'.ord fun v=>by rw [h.at_,h'.at_]
theorem lk_one (lo hi:Int) (rest:List (List Zb)) (v:Int):lk [(⟨lo,hi⟩,rest)] v=if lo≤v∧v≤hi then rest else []:=by
 rw [Zfa]
 show _++[]=_
 rw [List.append_nil]
 by_cases h:lo≤v∧v≤hi
 ·rw [if_pos h,if_pos (Zeb.2 h)]
 ·rw [if_neg h,if_neg (by rw [Zeb]; exact h)]
theorem Upto.step {g:Int→List (List Zb)} {p q:Int} {c:List Cell} (h:Upto g p c) (hp:0≤p) (hq:p<q) (hg:∀ v,p≤v→v<q→g v=g p):Upto g q (joinC c p (q - 1) (g p)):=by
 unfold joinC
 by_cases hr:g p=[]
 ·rw [if_pos hr]
  refine⟨h.ord.mono (by omega),fun v=>?_⟩
  rw [h.at_]
  by_cases h1:0≤v∧v<p
  ·rw [if_pos h1,if_pos ⟨h1.1,by omega⟩]
  ·rw [if_neg h1]
   split
   ·rw [hg v (by omega) (by omega),hr]
   ·rfl
 ·rw [if_neg hr]
  have snoc:∀(d:List Cell) (lo:Int),d.Pairwise gp→(∀ x∈d,0≤x.1.Lo∧x.1.Lo≤x.1.Hi∧x.1.Hi≤p - 1∧x.2 ≠ [])→(∀ y∈d,gp y (⟨lo,q - 1⟩,g p))→0≤lo→lo≤p →
    Ord (q - 1) (d++[(⟨lo,q - 1⟩,g p)]):=by
   intro d lo h1 h2 h3 h4 h5
   refine⟨List.pairwise_append.2 ⟨h1,List.pairwise_singleton ..,fun y hy x hx=>by rw [List.mem_singleton] at hx; subst hx; exact h3 y hy⟩,fun x hx=>?_⟩
   rcases List.mem_append.1 hx with hx | hx
   ·have:=h2 x hx
    exact⟨this.1,this.2.1,by omega,this.2.2.2⟩
   ·rw [List.mem_singleton] at hx
    subst hx
    exact⟨h4,by show lo≤q - 1; omega,by show q - 1≤q - 1; omega,hr⟩
  have look:∀ v,lk c v++(if p≤v∧v≤q - 1 then g p else [])=if 0≤v∧v<q then g v else []:=by
   intro v
   rw [h.at_]
   by_cases h1:0≤v∧v<p
   ·rw [if_pos h1,if_neg (show ¬ (p≤v∧v≤q - 1) by omega),if_pos (show 0≤v∧v<q by omega),List.append_nil]
   ·rw [if_neg h1,List.nil_append]
    by_cases h2:p≤v∧v≤q - 1
    ·rw [if_pos h2,if_pos (by omega),hg v h2.1 (by omega)]
    ·rw [if_neg h2,if_neg (by omega)]
  cases hl:c.getLast? with
  | none=>
   rw [List.getLast?_eq_none_iff] at hl
   subst hl
   refine⟨snoc [] p List.Pairwise.nil (fun _ h=>(by cases h)) (fun _ h=>(by cases h)) hp (Int.le_refl _),fun v=>?_⟩
   rw [lk_app,lk_one]
   exact look v
  | some y=>
   obtain⟨d,rfl⟩:=List.getLast?_eq_some_iff.1 hl
   have hyo:=h.ord.ok y (List.mem_append_right _ (List.mem_singleton.2 rfl))
   have hpw:=List.pairwise_append.1 h.ord.pw
   have hbe:∀ x∈d,gp x y:=fun x hx=>hpw.2.2 x hx y (List.mem_singleton.2 rfl)
   simp only
   by_cases hj:y.1.Hi + 1=p∧y.2=g p
   ·rw [if_pos hj,List.dropLast_concat]
    refine⟨snoc d y.1.Lo hpw.1 (fun x hx=>h.ord.ok x (List.mem_append_left _ hx)) (fun x hx=>⟨(hbe x hx).1,by rw [← hj.2]; exact(hbe x hx).2⟩) hyo.1 (by omega),fun v=>?_⟩
    rw [lk_app,lk_one,← look v,lk_app,List.append_assoc]
    congr 1
    obtain⟨⟨ylo,yhi⟩,yr⟩:=y
    rw [lk_one]
    simp only at hj hyo ⊢
    obtain⟨h1,rfl⟩:=hj
    by_cases h2:ylo≤v∧v≤yhi
    ·rw [if_pos h2,if_neg (show ¬ (p≤v∧v≤q - 1) by omega),if_pos (show ylo≤v∧v≤q - 1 by omega),List.append_nil]
    ·rw [if_neg h2,List.nil_append]
     by_cases h3:p≤v∧v≤q - 1
     ·rw [if_pos h3,if_pos (show ylo≤v∧v≤q - 1 by omega)]
     ·rw [if_neg h3,if_neg (show ¬ (ylo≤v∧v≤q - 1) by omega)]
   ·rw [if_neg hj]
    refine⟨snoc (d++[y]) p h.ord.pw h.ord.ok (fun x hx=>⟨?_,fun e1 e2=>?_⟩) hp (Int.le_refl _),fun v=>?_⟩
    ·have:=h.ord.ok x hx
     show x.1.Hi<p
     omega
    ·simp only at e1 e2
     rcases List.mem_append.1 hx with hx | hx
     ·have:=(hbe x hx).1
      omega
     ·rw [List.mem_singleton] at hx
      subst hx
      exact hj ⟨e1,e2⟩
    ·rw [lk_app,lk_one]
     exact look v
theorem Upto.exists_ (g:Int→List (List Zb)):∀ n:Nat,∃ c,Upto g n c
 | 0=>⟨[],Upto.nil g⟩
 | n + 1=>by
  obtain⟨c,h⟩:=Upto.exists_ g n
  refine⟨_,h.step (q:=((n + 1:Nat):Int)) (by omega) (by omega) fun v h1 h2=>?_⟩
  rw [show v=(n:Int) by omega]
structure Is (op:Bool→Bool→Bool) (ts:List Int) (a b l:List (List Zb)):Prop where
 cf:CF ts l
 mem:∀ p,vP ts p→mS l p=op (mS a p) (mS b p)
theorem Is.inj {op:Bool→Bool→Bool} {ts:List Int} {a b l l':List (List Zb)} (h:Is op ts a b l) (h':Is op ts a b l'):l=l':=
 CF_inj ts h.cf h'.cf fun p hp=>by rw [h.mem p hp,h'.mem p hp]
theorem Is.exists_ (op:Bool→Bool→Bool):∀(ts:List Int),(∀ t∈ts,0≤t)→∀ a b,∃ l,Is op ts a b l
 | [],_,a,b=>by
  by_cases h:op (mS a []) (mS b [])=true
  ·exact⟨[[]],.inr rfl,fun p hp=>by cases p with | nil=>rw [h]; rfl | cons _ _=>exact hp.elim⟩
  ·exact⟨[],.inl rfl,fun p hp=>by cases p with | nil=>rw [Bool.not_eq_true] at h; rw [h]; rfl | cons _ _=>exact hp.elim⟩
 | t :: ts,ht,a,b=>by
  have ih:=fun v=>Is.exists_ op ts (fun x hx=>ht x (List.mem_cons_of_mem _ hx)) (atv a v) (atv b v)
  have h0:=ht t (List.mem_cons_self ..)
  obtain⟨c,hc⟩:=Upto.exists_ (fun v=>(ih v).choose) (t + 1).toNat
  have hg:=fun v=>(ih v).choose_spec
  refine⟨flt c,⟨c,rfl,hc.ord.mono (by omega),fun x hx=>?_⟩,fun p hp=>?_⟩
  ·have hx2:=hc.ord.ok x hx
   have:=hc.at_ x.1.Lo
   rw [lk_mem hc.ord hx (Int.le_refl _) hx2.2.1,if_pos (by omega)] at this
   rw [this]
   exact(hg _).cf
  ·cases p with
   | nil=>exact hp.elim
   | cons v p=>
    rw [Zf2,Zhd,hc.at_,if_pos (by have:=hp.1; have:=hp.2.1; omega),(hg v).mem p hp.2.2,Zf2,Zf2]
theorem Is.at_ {op:Bool→Bool→Bool} {t:Int} {ts:List Int} {a b:List (List Zb)} {c:List Cell} (ho:Ord t c) (hc:∀ x∈c,CF ts x.2) (h:Is op (t :: ts) a b (flt c)) {v:Int} (h0:0≤v) (h1:v≤t) :
  Is op ts (atv a v) (atv b v) (lk c v):=
 ⟨CF_lk ho hc v,fun p hp=>by have:=h.mem (v :: p) ⟨h0,h1,hp⟩; rw [Zf2,Zf2,Zf2,Zhd] at this; exact this⟩
end Go.AM
set_option maxRecDepth 100000
namespace Go.AM
open Go
def runC (g:Int→List (List Zb)):List Cell→List Int→List Cell
 | c,p :: q :: ps=>runC g (joinC c p (q - 1) (g p)) (q :: ps)
 | c,[_]=>c
 | c,[]=>c
theorem Zeq (r:Zb) (rest:List (List Zb)):(flt [(r,rest)]).length=rest.length:=by
 simp [flt]
theorem Zsr (c:List Cell) (lo hi:Int) (rest:List (List Zb)):(flt c).length≤(flt (joinC c lo hi rest)).length∧(flt (joinC c lo hi rest)).length≤(flt c).length + rest.length:=by
 unfold joinC
 split
 ·omega
 ·split
  ·rename_i y hl
   obtain⟨d,rfl⟩:=List.getLast?_eq_some_iff.1 hl
   split
   ·rename_i hj
    rw [List.dropLast_concat,Zcz,Zcz,List.length_append,List.length_append,Zeq]
    obtain⟨yr,yrest⟩:=y
    rw [Zeq]
    have:=congrArg List.length hj.2
    simp only at this ⊢
    omega
   ·rw [Zcz (d++[y]),List.length_append,Zeq]; omega
  ·rw [Zcz,List.length_append,Zeq]; omega
theorem Zio (g:Int→List (List Zb)):∀(ps:List Int) (c:List Cell),(flt c).length≤(flt (runC g c ps)).length
 | [],_=>Nat.le_refl _
 | [_],_=>Nat.le_refl _
 | p :: q :: ps,c=>Nat.le_trans (Zsr c p (q - 1) (g p)).1 (Zio g (q :: ps) _)
def Steps (g:Int→List (List Zb)):List Int→Prop
 | p :: q :: ps=>p<q∧(∀ v,p≤v→v<q→g v=g p)∧Steps g (q :: ps)
 | [_]=>True
 | []=>False
theorem Upto.run {g:Int→List (List Zb)}:∀ {ps:List Int} {p:Int} {c:List Cell},0≤p→Steps g (p :: ps)→Upto g p c→∃ q,(p :: ps).getLast? = some q∧Upto g q (runC g c (p :: ps))
 | [],p,c,_,_,h=>⟨p,rfl,h⟩
 | q :: ps,p,c,h0,hs,h=>by
  obtain⟨h1,h2,h3⟩:=hs
  obtain⟨z,hz,hu⟩:=Upto.run (ps:=ps) (p:=q) (by omega) h3 (h.step h0 h1 h2)
  exact⟨z,by rw [List.getLast?_cons_cons]; exact hz,hu⟩
theorem Zum {g:Int→List (List Zb)} {t:Int} {c:List Cell} {ps:List Int} (hs:Steps g (0 :: ps)) (hl:(0 :: ps).getLast? = some (t + 1)) (ho:Ord t c) (hg:∀ v,0≤v→v≤t→lk c v=g v):runC g [] (0 :: ps)=c:=by
 obtain⟨q,h1,h2⟩:=Upto.run (Int.le_refl 0) hs (Upto.nil g)
 rw [hl,Option.some.injEq] at h1
 subst h1
 refine Ord.inj (h2.ord.mono (t':=t) (by omega)) ho fun v=>?_
 rw [h2.at_]
 by_cases hv:0≤v∧v<t + 1
 ·rw [if_pos hv,hg v hv.1 (by omega)]
 ·rw [if_neg hv,lk_out ho (by omega)]
def Cut (ps:List Int) (l:List (List Zb)):Prop:=∀ b∈l,∀ r b',b=r :: b'→r.Lo∈ps∧r.Hi + 1∈ps
theorem Ztm {l:List (List Zb)} {p q:Int} (h:∀ b∈l,∀ r b',b=r :: b'→¬ (p<r.Lo∧r.Lo<q)∧¬ (p<r.Hi + 1∧r.Hi + 1<q)) {v:Int} (h1:p≤v) (h2:v<q):atv l v=atv l p:=by
 unfold atv
 induction l with
 | nil=>rfl
 | cons b l ih=>
  rw [List.flatMap_cons,List.flatMap_cons,ih fun x hx=>h x (List.mem_cons_of_mem _ hx)]
  congr 1
  cases b with
  | nil=>rfl
  | cons r b=>
   have hb:=h (r :: b) (List.mem_cons_self ..) r b rfl
   have:inR v r=inR p r:=by
    rw [Bool.eq_iff_iff,Zeb,Zeb]
    omega
   simp only [this]
theorem Zpp:∀ {ps:List Int},ps.Pairwise (·<·)→∀ {i:Nat} (h:i + 1<ps.length),∀ x∈ps,¬ (ps[i]<x∧x<ps[i + 1]):=by
 intro ps hp i h x hx hc
 obtain⟨j,hj,rfl⟩:=List.getElem_of_mem hx
 have hm:=List.pairwise_iff_getElem.1 hp
 rcases Nat.lt_trichotomy j i with h1 | h1 | h1
 ·have:=hm j i hj (by omega) h1; omega
 ·subst h1; omega
 ·rcases Nat.lt_or_eq_of_le (show i + 1≤j by omega) with h2 | h2
  ·have:=hm (i + 1) j (by omega) hj h2; omega
  ·subst h2; omega
theorem Zqh {g:Int→List (List Zb)}:∀ {ps:List Int},ps ≠ []→ps.Pairwise (·<·)→(∀ i (h:i + 1<ps.length),∀ v,ps[i]≤v→v<ps[i + 1]→g v=g ps[i])→Steps g ps
 | [],h,_,_=>h rfl
 | [_],_,_,_=>trivial
 | p :: q :: ps,_,hp,hg=>by
  refine⟨(List.pairwise_cons.1 hp).1 q (List.mem_cons_self ..),fun v h1 h2=>hg 0 (by simp) v h1 h2,Zqh (List.cons_ne_nil _ _) (List.pairwise_cons.1 hp).2 fun i h v h1 h2=>?_⟩
  have:=hg (i + 1) (by simp at h ⊢; omega) v
  simpa using this h1 h2
structure Nx (t:Int) (ts:List Int) (last:Option Cell) (c:List Cell):Prop where
 ord:Ord t c
 cf:∀ x∈c,CF ts x.2
 gap:∀ y∈last,∀ x∈c,gp y x
theorem Nx.nil (t:Int) (ts:List Int) (last:Option Cell):Nx t ts last []:=⟨⟨List.Pairwise.nil,fun _ h=>(by cases h)⟩,fun _ h=>(by cases h),fun _ _ _ h=>(by cases h)⟩
theorem CF_iff {t:Int} {ts:List Int} {l:List (List Zb)}:CF (t :: ts) l ↔ ∃ c,l=flt c∧Nx t ts none c:=
 ⟨fun⟨c,h1,h2,h3⟩=>⟨c,h1,h2,h3,fun _ h=>(by cases h)⟩,fun⟨c,h1,h2⟩=>⟨c,h1,h2.ord,h2.cf⟩⟩
theorem Nx.run {t:Int} {ts:List Int} {last:Option Cell} {r:Zb} {run:List (List Zb)} {l:List (List Zb)} (hrun:run ≠ []) (hl:∀ b,l.head? = some b→∃ r' b',b=r' :: b'∧r' ≠ r) :
  (∃ c,run.map (r :: ·)++l=flt c∧Nx t ts last c) ↔ (0≤r.Lo∧r.Lo≤r.Hi∧r.Hi≤t)∧CF ts run∧(∀ y∈last,gp y (r,run))∧∃ c,l=flt c∧Nx t ts (some (r,run)) c:=by
 constructor
 ·rintro⟨c,hc,hn⟩
  cases c with
  | nil=>
   have:run.map (r :: ·)=[]:=(List.append_eq_nil_iff.1 hc).1
   simp at this
   exact absurd this hrun
  | cons x c=>
   rw [Zeh] at hc
   have hx:=hn.ord.ok x (List.mem_cons_self ..)
   have hp:=List.pairwise_cons.1 hn.ord.pw
   have key:∀(u w:List (List Zb)) (l l':List (List Zb)),u ≠ []→w ≠ []→(∀ b,l.head? = some b→∃ r' b',b=r' :: b'∧r' ≠ r)→(∀ b,l'.head? = some b→∃ r' b',b=r' :: b'∧r' ≠ x.1) →
     u.map (r :: ·)++l=w.map (x.1 :: ·)++l'→r=x.1∧u=w∧l=l':=by
    intro u w l l' hu hw g1 g2 he
    have hr:r=x.1:=by
     cases u with
     | nil=>exact absurd rfl hu
     | cons b u=>cases w with
      | nil=>exact absurd rfl hw
      | cons d w=>
       simp only [List.map_cons,List.cons_append,List.cons.injEq] at he
       exact he.1.1
    refine⟨hr,?_⟩
    rw [← hr] at he g2
    clear hu hw
    induction u generalizing w with
    | nil=>cases w with
     | nil=>exact⟨rfl,by simpa using he⟩
     | cons d w=>
      simp only [List.map_nil,List.nil_append,List.map_cons,List.cons_append] at he
      obtain⟨r',b',e1,e2⟩:=g1 (r :: d) (by rw [he]; rfl)
      simp only [List.cons.injEq] at e1
      exact absurd e1.1.symm e2
    | cons b u ih=>cases w with
     | nil=>
      simp only [List.map_nil,List.nil_append,List.map_cons,List.cons_append] at he
      obtain⟨r',b',e1,e2⟩:=g2 (r :: b) (by rw [← he]; rfl)
      simp only [List.cons.injEq] at e1
      exact absurd e1.1.symm e2
     | cons d w=>
      simp only [List.map_cons,List.cons_append,List.cons.injEq,true_and] at he
      obtain⟨i1,i2⟩:=ih w he.2
      exact⟨by rw [he.1,i1],i2⟩
   have hnext:∀ b,(flt c).head? = some b→∃ r' b',b=r' :: b'∧r' ≠ x.1:=by
    intro b hb
    cases c with
    | nil=>simp [flt] at hb
    | cons z c=>
     have hz:=hn.ord.ok z (List.mem_cons_of_mem _ (List.mem_cons_self ..))
     rw [Zeh] at hb
     cases hz2:z.2 with
     | nil=>exact absurd hz2 hz.2.2.2
     | cons d w=>
      rw [hz2] at hb
      simp only [List.map_cons,List.cons_append,List.head?_cons,Option.some.injEq] at hb
      refine⟨z.1,d,hb.symm,fun e=>?_⟩
      have:=(hp.1 z (List.mem_cons_self ..)).1
      rw [e] at this
      omega
   obtain⟨e1,e2,e3⟩:=key run x.2 l (flt c) hrun hx.2.2.2 hl hnext hc
   subst e1 e2 e3
   exact⟨⟨hx.1,hx.2.1,hx.2.2.1⟩,hn.cf x (List.mem_cons_self ..),fun y hy=>hn.gap y hy x (List.mem_cons_self ..),c,rfl,hn.ord.tail,fun z hz=>hn.cf z (List.mem_cons_of_mem _ hz),fun y hy z hz=>by
    have:x=y:=by simpa using hy
    subst this
    exact hp.1 z hz⟩
 ·rintro⟨h1,h2,h3,c,rfl,hn⟩
  refine⟨(r,run) :: c,rfl,⟨List.pairwise_cons.2 ⟨fun z hz=>hn.gap _ rfl z hz,hn.ord.pw⟩,fun x hx=>?_⟩,fun x hx=>?_,fun y hy x hx=>?_⟩
  ·rcases List.mem_cons.1 hx with rfl | hx
   ·exact⟨h1.1,h1.2.1,h1.2.2,hrun⟩
   ·exact hn.ord.ok x hx
  ·rcases List.mem_cons.1 hx with rfl | hx
   ·exact h2
   ·exact hn.cf x hx
  ·rcases List.mem_cons.1 hx with rfl | hx
   ·exact h3 y hy
   ·have g1:=h3 y hy
    have g2:=hn.gap _ rfl x hx
    have g3:=g1.1
    have g4:=g2.1
    simp only at g3 g4
    exact⟨by omega,fun e=>by omega⟩
end Go.AM
set_option maxRecDepth 100000
namespace Go.AM
open Go
theorem Zq {d:Array Int} {n i:Nat} (hn:d.size=n) (h:i<n):idxn n d.toList (i:Int)=some d[i]!:=by
 have hi:i<d.size:=by omega
 unfold idxn
 rw [if_pos ⟨by omega,by omega⟩]
 simp [AM.idx,hi]
theorem Ztn (d:Array Int) (i:Nat) (x:Int):d.toList.set i x=(d.setIfInBounds i x).toList:=by simp
theorem Zcx {d:Array Int} {n i j:Nat} {x:Int} (hn:d.size=n) (h:j<n):∃ y,idxn n (d.toList.set i x) (j:Int)=some y:=by
 rw [Ztn]
 exact⟨_,Zq (by simpa using hn) h⟩
theorem Zc0 (d:Array Int) (i j:Nat):(d.toList.set i d[j]!).set j d[i]! = (Sort.swp d i j).toList:=by
 unfold Sort.swp; simp
theorem swp_sz (d:Array Int) (i j:Nat):(Sort.swp d i j).size=d.size:=Sort.swp_size d i j
theorem Zdd (x y:Int):Z0 x y=some (Sort.ltInt x y):=by
 unfold Z0 Zdn Sort.ltInt
 simp
abbrev sB:Nat:=1000000000
theorem wpred {j:Nat} (h:j + 1<1000000000000):IntKind.wrap .i64 (((j + 1:Nat):Int) - (1:Int))=(j:Int):=by
 rw [wi64 (by omega) (by omega)]; omega
theorem wsuc {j:Nat} (h:j + 1<1000000000000):IntKind.wrap .i64 ((j:Int) + (1:Int))=((j + 1:Nat):Int):=by
 rw [wi64 (by omega) (by omega)]; omega
theorem wadd {i j:Nat} (h:i + j<1000000000000):IntKind.wrap .i64 ((i:Int) + (j:Int))=((i + j:Nat):Int):=by
 rw [wi64 (by omega) (by omega)]; omega
theorem wsub {i j:Nat} (h:i<1000000000000) (hj:j≤i):IntKind.wrap .i64 ((i:Int) - (j:Int))=((i - j:Nat):Int):=by
 rw [wi64 (by omega) (by omega)]; omega
theorem Zlv {n a:Nat} (hB:n≤sB):∀(j m:Nat) (d:Array Int),d.size=n→j<n→j<m→Z7 n (a:Int) m d.toList (j:Int)=some (Sort.insInner Sort.ltInt a j d).toList
 | 0,m + 1,d,hd,hj,hm=>by
  rw [Z7,decide_eq_false (by omega)]
  simp [Sort.insInner]
 | j + 1,m + 1,d,hd,hj,hm=>by
  have ih:=Zlv (a:=a) hB j m
  rw [Z7,Sort.insInner]
  unfold sB at hB
  simp only [wpred (show j + 1<1000000000000 by omega),Zq hd hj,Zq hd (show j<n by omega),Option.bind_some,Zdd,Int.toNat_natCast]
  by_cases h:j + 1 > a
  ·have h':((j + 1:Nat):Int) > (a:Int):=by omega
   simp only [decide_eq_true h,decide_eq_true h',if_true,Option.bind_some,Bool.true_and]
   cases hl:Sort.ltInt d[j + 1]! d[j]! with
   | false=>simp
   | true=>
    obtain⟨y,hy⟩:=Zcx (i:=j + 1) (x:=d[j]!) hd (show j<n by omega)
    simp only [if_true,hy,Option.bind_some,Zc0]
    exact ih _ (by rw [swp_sz,hd]) (by omega) (by omega)
  ·have h':¬ ((j + 1:Nat):Int) > (a:Int):=by omega
   rw [decide_eq_false h,decide_eq_false h']
   simp
theorem Zq4 {n a b:Nat} (hB:n≤sB) (hb:b≤n):∀(k i m:Nat) (d:Array Int),d.size=n→b - i=k→k<m→i≤sB + 1→Z8 n (a:Int) (b:Int) m d.toList (i:Int)=some (Sort.insOuter Sort.ltInt a b i d).toList:=by
 unfold sB at hB
 intro k
 induction k with
 | zero=>
  intro i m d hd hk hm hi
  cases m with
  | zero=>omega
  | succ m=>
  rw [Z8,Sort.insOuter,if_neg (by simp; omega),if_neg (by omega)]
 | succ k ih=>
  intro i m d hd hk hm hi
  cases m with
  | zero=>omega
  | succ m=>
  rw [Z8,Sort.insOuter,if_pos (by simp; omega),if_pos (by omega)]
  rw [Zlv (a:=a) (show n≤sB by unfold sB; omega) i fuel d hd (by omega) (by unfold fuel; omega)]
  simp only [Option.bind_some]
  unfold sB at hi
  rw [wsuc (by omega)]
  refine ih (i + 1) m _ ?_ (by omega) (by omega) (by unfold sB; omega)
  exact insInner_sz _ _ hd
where
 insInner_sz {n a:Nat}:∀(j:Nat) (d:Array Int),d.size=n→(Sort.insInner Sort.ltInt a j d).size=n
  | 0,d,hd=>hd
  | j + 1,d,hd=>by
   rw [Sort.insInner]
   split
   ·exact insInner_sz j _ (by rw [swp_sz,hd])
   ·exact hd
theorem Zmn {n a b:Nat} (hB:n≤sB) (hb:b≤n) (hab:a≤b) {d:Array Int} (hd:d.size=n):Zbb n d.toList (a:Int) (b:Int)=some (Sort.insertionSort Sort.ltInt d a b).toList:=by
 unfold Zbb Sort.insertionSort
 have h:(a:Int) + 1=((a + 1:Nat):Int):=by omega
 unfold sB at hB
 rw [wsuc (by omega),Zq4 (show n≤sB by unfold sB; omega) hb (b - (a + 1)) (a + 1) fuel d hd rfl (by unfold fuel; omega) (by unfold sB; omega)]
 rfl
def sTail (a0:Nat) (a3 a4:Int) (n95:Nat) (v46:List Int) (v47 v109:Int):Option (List Int ⊕ List Int):=
    (idxn a0 v46 (IntKind.wrap .i64 (a4 + v47))).bind fun(x124:Int)=>
    (idxn a0 v46 (IntKind.wrap .i64 (a4 + v109))).bind fun(x126:Int)=>
    (Z0 x124 x126).bind fun(r128:Bool)=>
    if (!r128)=true then
     some (.inr v46)
    else
     (idxn a0 v46 (IntKind.wrap .i64 (a4 + v109))).bind fun(x130:Int)=>
     (idxn a0 v46 (IntKind.wrap .i64 (a4 + v47))).bind fun(x132:Int)=>
     (idxn a0 v46 (IntKind.wrap .i64 (a4 + v47))).bind fun(_:Int)=>
     (idxn a0 (List.set v46 (Int.toNat (IntKind.wrap .i64 (a4 + v47))) x130) (IntKind.wrap .i64 (a4 + v109))).bind fun(_:Int)=>
     Z2 a0 a3 a4 n95 (List.set (List.set v46 (Int.toNat (IntKind.wrap .i64 (a4 + v47))) x130) (Int.toNat (IntKind.wrap .i64 (a4 + v109))) x132) v109
def outS (l:List Int) (o:List Int ⊕ List Int):Prop:=o=.inl l∨o=.inr l
theorem Zto {n hi first root c m:Nat} (hB:n≤sB) (hf:first + hi≤n) (hr:root<hi) (hc:c<hi) {d:Array Int} (hd:d.size=n) {r:Array Int}
  (ih:Sort.ltInt d[first + root]! d[first + c]! = true→Ok (Z2 n (hi:Int) (first:Int) m (Sort.swp d (first + root) (first + c)).toList (c:Int)) (outS r.toList)) (hs:Sort.ltInt d[first + root]! d[first + c]! = false→r=d) :
  Ok (sTail n (hi:Int) (first:Int) m d.toList (root:Int) (c:Int)) (outS r.toList):=by
 unfold sB at hB
 unfold sTail
 rw [wadd (i:=first) (j:=root) (by omega),wadd (i:=first) (j:=c) (by omega)]
 simp only [Zq hd (show first + root<n by omega),Zq hd (show first + c<n by omega),Option.bind_some,Zdd,Int.toNat_natCast]
 cases hl:Sort.ltInt d[first + root]! d[first + c]! with
 | false=>rw [hs hl]; exact⟨_,rfl,Or.inr rfl⟩
 | true=>
  obtain⟨y,hy⟩:=Zcx (i:=first + root) (x:=d[first + c]!) hd (show first + c<n by omega)
  simp only [Bool.not_true,Bool.false_eq_true,if_false,hy,Option.bind_some,Zc0]
  exact ih hl
theorem Zq5 {n hi first:Nat} (hB:n≤sB) (hf:first + hi≤n):∀(k root m:Nat) (d:Array Int),d.size=n→hi - root≤k→k<m→root≤n →
  Ok (Z2 n (hi:Int) (first:Int) m d.toList (root:Int)) (outS (Sort.siftDown Sort.ltInt hi first root d).toList):=by
 intro k
 induction k with
 | zero=>
  intro root m d hd hk hm hr
  cases m with
  | zero=>omega
  | succ m=>
  unfold sB at hB
  rw [Z2,Sort.siftDown,dif_pos (by omega),if_pos]
  ·exact⟨_,rfl,Or.inl rfl⟩
  ·rw [wi64 (x:=2 * (root:Int)) (by omega) (by omega),wi64 (by omega) (by omega)]; exact decide_eq_true (by omega)
 | succ k ih=>
  intro root m d hd hk hm hr
  cases m with
  | zero=>omega
  | succ m=>
  have hB':=hB
  unfold sB at hB
  have e1:IntKind.wrap .i64 (IntKind.wrap .i64 (2 * (root:Int)) + 1)=((2 * root + 1:Nat):Int):=by
   rw [wi64 (x:=2 * (root:Int)) (by omega) (by omega),wi64 (by omega) (by omega)]; omega
  rw [Z2,Sort.siftDown]
  rw [e1]
  by_cases h:2 * root + 1 ≥ hi
  ·rw [dif_pos h,if_pos (decide_eq_true (by omega))]
   exact⟨_,rfl,Or.inl rfl⟩
  ·rw [dif_neg h,if_neg (by simp; omega)]
   have hst:∀ c:Nat,c<hi→root<c→Ok (sTail n (hi:Int) (first:Int) m d.toList (root:Int) (c:Int)) (outS (if (!Sort.ltInt d[first + root]! d[first + c]!)=true then d else Sort.siftDown Sort.ltInt hi first c (Sort.swp d (first + root) (first + c))).toList):=fun c hc hrc=>by
    refine Zto hB' hf (by omega) hc hd (fun hl=>?_) (fun hl=>?_)
    ·rw [hl]
     simp only [Bool.not_true,Bool.false_eq_true,if_false]
     exact ih c m _ (by rw [swp_sz,hd]) (by omega) (by omega) (by omega)
    ·rw [hl]; rfl
   have e2:IntKind.wrap .i64 (((2 * root + 1:Nat):Int) + 1)=((2 * root + 2:Nat):Int):=wsuc (by omega)
   have e3:IntKind.wrap .i64 (IntKind.wrap .i64 ((first:Int) + ((2 * root + 1:Nat):Int)) + 1)=((first + (2 * root + 1) + 1:Nat):Int):=by
    rw [wadd (by omega)]; exact wsuc (by omega)
   have e4:IntKind.wrap .i64 ((first:Int) + ((2 * root + 1:Nat):Int))=((first + (2 * root + 1):Nat):Int):=wadd (by omega)
   rw [e2,e3,e4]
   by_cases h2:2 * root + 1 + 1<hi
   ·have h2':((2 * root + 2:Nat):Int)<(hi:Int):=by omega
    simp only [decide_eq_true h2,decide_eq_true h2',Option.bind_some,if_true,Zq hd (show first + (2 * root + 1)<n by omega),Zq hd (show first + (2 * root + 1) + 1<n by omega),Zdd,Bool.true_and]
    cases hl:Sort.ltInt d[first + (2 * root + 1)]! d[first + (2 * root + 1) + 1]! with
    | false=>
     simp only [Bool.false_eq_true,if_false,Option.bind_some]
     have q:=hst (2 * root + 1) (by omega) (by omega)
     simp only [sTail,Zdd,Option.bind_some] at q
     exact q
    | true=>
     simp only [if_true,Option.bind_some,dif_pos (show 2 * root + 2<hi from h2)]
     have q:=hst (2 * root + 2) (by omega) (by omega)
     simp only [sTail,Zdd,Option.bind_some] at q
     exact q
   ·have h2':¬ ((2 * root + 2:Nat):Int)<(hi:Int):=by omega
    simp only [decide_eq_false h2,decide_eq_false h2',Option.bind_some,Bool.false_eq_true,if_false,Bool.false_and]
    exact hst (2 * root + 1) (by omega) (by omega)
theorem Zok {n hi first:Nat}:∀(k root:Nat) (d:Array Int),d.size=n→hi - root≤k→(Sort.siftDown Sort.ltInt hi first root d).size=n:=by
 intro k
 induction k with
 | zero=>intro root d hd hk; rw [Sort.siftDown,dif_pos (by omega)]; exact hd
 | succ k ih=>
  intro root d hd hk
  rw [Sort.siftDown]
  split
  ·exact hd
  ·split
   ·split
    ·exact hd
    ·split
     ·exact ih _ _ (by rw [swp_sz,hd]) (by omega)
     ·exact hd
   ·split
    ·exact hd
    ·exact ih _ _ (by rw [swp_sz,hd]) (by omega)
theorem Znt {n hi first root:Nat} (hB:n≤sB) (hf:first + hi≤n) (hr:root≤n) {d:Array Int} (hd:d.size=n):Zba n d.toList (root:Int) (hi:Int) (first:Int)=some (Sort.siftDown Sort.ltInt hi first root d).toList:=by
 unfold Zba
 obtain⟨o,e,ho⟩:=Zq5 hB hf (hi - root) root fuel d hd (Nat.le_refl _) (by unfold fuel; unfold sB at hB; omega) hr
 rw [e]
 rcases ho with rfl | rfl <;> rfl
theorem Zko {n a b:Nat} (hB:n≤sB) (hab:a≤b) (hb:b≤n):∀(k m:Nat) (d:Array Int),d.size=n→k≤n + 1→k<m →
  Zal n (a:Int) (b:Int) m d.toList ((k:Int) - 1)=some (Sort.heapBuild Sort.ltInt (b - a) a k d).toList
 | 0,m + 1,d,hd,hk,hm=>by
  rw [Zal,if_neg (by simp)]; rfl
 | k + 1,m + 1,d,hd,hk,hm=>by
  have hB':=hB
  unfold sB at hB
  rw [Zal,if_pos (decide_eq_true (by omega)),show ((k + 1:Nat):Int) - 1=(k:Int) by omega,wsub (by omega) hab,Znt hB' (by omega) (by omega) hd]
  simp only [Option.bind_some]
  rw [wi64 (by omega) (by omega),Sort.heapBuild]
  exact Zko hB' hab hb k m _ (Zok _ _ _ hd (Nat.le_refl _)) (by omega) (by omega)
theorem Znu {n a b:Nat} (hB:n≤sB) (hb:b≤n):∀(k m:Nat) (d:Array Int),d.size=n→a + k≤b→k<m →
  Zam n (a:Int) m d.toList ((k:Int) - 1)=some (Sort.heapPop Sort.ltInt a k d).toList
 | 0,m + 1,d,hd,hk,hm=>by
  rw [Zam,if_neg (by simp)]; rfl
 | k + 1,m + 1,d,hd,hk,hm=>by
  have hB':=hB
  unfold sB at hB
  rw [Zam,if_pos (decide_eq_true (by omega)),show ((k + 1:Nat):Int) - 1=(k:Int) by omega,wadd (by omega)]
  obtain⟨y,hy⟩:=Zcx (i:=a) (x:=d[a + k]!) hd (show a + k<n by omega)
  simp only [Zq hd (show a + k<n by omega),Zq hd (show a<n by omega),Option.bind_some,Int.toNat_natCast,hy,Zc0]
  have e:=Znt (root:=0) (hi:=k) (first:=a) hB' (by omega) (by omega) (show (Sort.swp d a (a + k)).size=n by rw [swp_sz,hd])
  rw [show ((0:Nat):Int)=0 from rfl] at e
  rw [e]
  simp only [Option.bind_some]
  rw [wi64 (by omega) (by omega),Sort.heapPop]
  exact Znu hB' hb k m _ (Zok _ _ _ (by rw [swp_sz,hd]) (Nat.le_refl _)) (by omega) (by omega)
theorem Zpa {n hi first:Nat}:∀(k:Nat) (d:Array Int),d.size=n→(Sort.heapBuild Sort.ltInt hi first k d).size=n
 | 0,_,hd=>hd
 | k + 1,d,hd=>by rw [Sort.heapBuild]; exact Zpa k _ (Zok _ _ _ hd (Nat.le_refl _))
theorem Zq6 {n a b:Nat} (hB:n≤sB) (hab:a<b) (hb:b≤n) {d:Array Int} (hd:d.size=n):Zbo n d.toList (a:Int) (b:Int)=some (Sort.heapSort Sort.ltInt d a b).toList:=by
 have hB':=hB
 unfold sB at hB
 unfold Zbo Sort.heapSort
 have e:IntKind.wrap .i64 (Int.tdiv (IntKind.wrap .i64 (IntKind.wrap .i64 ((b:Int) - (a:Int)) - 1)) 2)=(((b - a - 1) / 2 + 1:Nat):Int) - 1:=by
  rw [wsub (by omega) (by omega),wi64 (x:=((b - a:Nat):Int) - 1) (by omega) (by omega)]
  rw [Int.tdiv_eq_ediv_of_nonneg (by omega),wi64 (by omega) (by omega)]
  omega
 rw [e,Zko hB' (by omega) hb _ _ _ hd (by omega) (by unfold fuel; omega)]
 simp only [Option.bind_some]
 rw [wsub (by omega) (by omega),wi64 (x:=((b - a:Nat):Int) - 1) (by omega) (by omega),Znu hB' hb (b - a) fuel _ (Zpa _ _ hd) (by omega) (by unfold fuel; omega)]
 rfl
end Go.AM
set_option maxRecDepth 100000
namespace Go.AM
open Go
theorem Zr7 {n:Nat} (hB:n≤sB):∀(k i j m:Nat) (d:Array Int),d.size=n→j - i≤k→k<m→j<n→i≤n →
  Zab n m d.toList (i:Int) (j:Int)=some (Sort.reverseLoop i j d).toList:=by
 intro k
 induction k with
 | zero=>
  intro i j m d hd hk hm hj hi
  cases m with
  | zero=>omega
  | succ m=>rw [Zab,Sort.reverseLoop,if_neg (by simp; omega),if_neg (by omega)]
 | succ k ih=>
  intro i j m d hd hk hm hj hi
  cases m with
  | zero=>omega
  | succ m=>
  have hB':=hB
  unfold sB at hB
  rw [Zab,Sort.reverseLoop]
  by_cases h:i<j
  ·rw [if_pos (decide_eq_true (by omega)),if_pos h]
   obtain⟨y,hy⟩:=Zcx (i:=i) (x:=d[j]!) hd hj
   simp only [Zq hd hj,Zq hd (show i<n by omega),Option.bind_some,Int.toNat_natCast,hy,Zc0]
   obtain⟨j',rfl⟩:∃ j',j=j' + 1:=⟨j - 1,by omega⟩
   rw [wsuc (by omega),wpred (by omega)]
   exact ih (i + 1) j' m _ (by rw [swp_sz,hd]) (by omega) (by omega) (by omega) (by omega)
  ·rw [if_neg (by simp; omega),if_neg h]
theorem Znv {n a b:Nat} (hB:n≤sB) (hab:a<b) (hb:b≤n) {d:Array Int} (hd:d.size=n):Zav n d.toList (a:Int) (b:Int)=some (Sort.reverseRange d a b).toList:=by
 have hB':=hB
 unfold sB at hB
 unfold Zav Sort.reverseRange
 obtain⟨b',rfl⟩:∃ b',b=b' + 1:=⟨b - 1,by omega⟩
 rw [wpred (by omega),Zr7 hB' (b' - a) a b' fuel d hd (Nat.le_refl _) (by unfold fuel; omega) (by omega) (by omega)]
 rfl
theorem up_eq {n a:Nat} {L:Nat→Int→Option Int} (hB:n≤sB) {d:Array Int} (p:Int→Bool) {j:Nat} (hj:j<n) (_ha:a<n)
  (step:∀ m (i:Nat),i≤sB + 1→L (m + 1) (i:Int)=if i≤j∧p d[i]! = true then L m ((i + 1:Nat):Int) else some (i:Int)) :
  ∀(k i m:Nat),j + 1 - i≤k→k<m→i≤j + 2→L m (i:Int)=some ((Sort.scanUp p d j i:Nat):Int):=by
 unfold sB at hB
 intro k
 induction k with
 | zero=>
  intro i m hk hm hi
  cases m with
  | zero=>omega
  | succ m=>
  rw [step m i (by unfold sB; omega),if_neg (by omega),Sort.scanUp,if_neg (by simp; omega)]
 | succ k ih=>
  intro i m hk hm hi
  cases m with
  | zero=>omega
  | succ m=>
  rw [step m i (by unfold sB; omega),Sort.scanUp]
  by_cases h:i≤j∧p d[i]! = true
  ·rw [if_pos h,if_pos (by simp [h.1,h.2])]
   exact ih (i + 1) m (by omega) (by omega) (by omega)
  ·rw [if_neg h,if_neg (by simpa using h)]
theorem Zol {n i:Nat} {L:Nat→Int→Option Int} (hi:0<i) {d:Array Int} (p:Int→Bool)
  (step:∀ m (j:Nat),j<n→L (m + 1) (j:Int)=if i≤j∧p d[j]! = true then L m ((j:Int) - 1) else some (j:Int)) :
  ∀(j m:Nat),j<m→j<n→L m (j:Int)=some ((Sort.scanDown p d i j:Nat):Int):=by
 intro j
 induction j with
 | zero=>
  intro m hm hj
  cases m with
  | zero=>omega
  | succ m=>rw [step m 0 hj,if_neg (by omega)]; rfl
 | succ j ih=>
  intro m hm hj
  cases m with
  | zero=>omega
  | succ m=>
  rw [step m (j + 1) hj,Sort.scanDown]
  by_cases h:i≤j + 1∧p d[j + 1]! = true
  ·rw [if_pos h,if_pos (by simp [h.1,h.2]),show ((j + 1:Nat):Int) - 1=(j:Int) by omega]
   exact ih m (by omega) (by omega)
  ·rw [if_neg h,if_neg (by simpa using h)]
theorem pe2_eq {n a j:Nat} (hB:n≤sB) {d:Array Int} (hd:d.size=n) (ha:a<n) (hj:j<n) (i:Nat) (hi:i≤j + 2):Zag n (a:Int) d.toList (j:Int) fuel (i:Int)=some ((Sort.scanUp (fun x=>!Sort.ltInt d[a]! x) d j i:Nat):Int):=by
 refine up_eq hB (d:=d) (fun x=>!Sort.ltInt d[a]! x) hj ha (fun m i hi=>?_) (j + 1) i fuel (by omega) (by unfold sB at hB; unfold fuel; omega) hi
 unfold sB at hB hi
 rw [Zag]
 by_cases h:i≤j
 ·rw [decide_eq_true (show (i:Int)≤(j:Int) by omega)]
  simp only [Option.bind_some,if_true,Zq hd ha,Zq hd (show i<n by omega),Zdd,wsuc (show i + 1<1000000000000 by omega),h,true_and]
 ·rw [decide_eq_false (show ¬ (i:Int)≤(j:Int) by omega)]
  simp [h]
theorem pe3_eq {n a i:Nat} (hB:n≤sB) {d:Array Int} (hd:d.size=n) (ha:a<n) (hi:0<i) (j:Nat) (hj:j<n):Zah n (a:Int) d.toList (i:Int) fuel (j:Int)=some ((Sort.scanDown (fun x=>Sort.ltInt d[a]! x) d i j:Nat):Int):=by
 refine Zol hi (n:=n) (d:=d) (fun x=>Sort.ltInt d[a]! x) (fun m j hj=>?_) j fuel (by unfold sB at hB; unfold fuel; omega) hj
 unfold sB at hB
 rw [Zah]
 by_cases h:i≤j
 ·rw [decide_eq_true (show (i:Int)≤(j:Int) by omega)]
  simp only [Option.bind_some,if_true,Zq hd ha,Zq hd hj,Zdd,wi64 (show -9223372036854775808≤(j:Int) - 1 by omega) (show (j:Int) - 1<9223372036854775808 by omega),h,true_and]
 ·rw [decide_eq_false (show ¬ (i:Int)≤(j:Int) by omega)]
  simp [h]
theorem pe1_eq {n a:Nat} (hB:n≤sB) (ha:a<n):∀(k i j m:Nat) (d:Array Int),d.size=n→j + 1 - i≤k→k<m→i≤j + 2→a<i→j<n →
  Z6 n (a:Int) m d.toList (i:Int) (j:Int)=some ((Sort.partEqLoop Sort.ltInt a i j d).2.toList,((Sort.partEqLoop Sort.ltInt a i j d).1:Int)):=by
 intro k
 induction k with
 | zero=>
  intro i j m d hd hk hm hij hai hj
  cases m with
  | zero=>omega
  | succ m=>
  have h1:Sort.scanUp (fun x=>!Sort.ltInt d[a]! x) d j i=i:=by rw [Sort.scanUp,if_neg (by simp; omega)]
  have h2:Sort.scanDown (fun x=>Sort.ltInt d[a]! x) d i j≤j:=Sort.scanDown_le _ _ _ _
  rw [Z6,pe2_eq hB hd ha hj i hij,Sort.partEqLoop_eq,h1]
  simp only [Option.bind_some]
  rw [pe3_eq hB hd ha (by omega) j hj]
  simp only [Option.bind_some]
  rw [if_pos (decide_eq_true (by omega)),if_pos (by omega)]
 | succ k ih=>
  intro i j m d hd hk hm hij hai hj
  cases m with
  | zero=>omega
  | succ m=>
  have hB':=hB
  unfold sB at hB
  rw [Z6,pe2_eq hB' hd ha hj i hij,Sort.partEqLoop_eq]
  simp only [Option.bind_some]
  have g1:=Sort.scanUp_ge (fun x=>!Sort.ltInt d[a]! x) d j i
  generalize Sort.scanUp (fun x=>!Sort.ltInt d[a]! x) d j i=i2 at g1 ⊢
  rw [pe3_eq hB' hd ha (by omega) j hj]
  simp only [Option.bind_some]
  have g2:=Sort.scanDown_le (fun x=>Sort.ltInt d[a]! x) d i2 j
  generalize Sort.scanDown (fun x=>Sort.ltInt d[a]! x) d i2 j=j2 at g2 ⊢
  by_cases h:i2 > j2
  ·rw [if_pos (decide_eq_true (by omega)),if_pos h]
  ·rw [if_neg (by simp; omega),if_neg h]
   obtain⟨y,hy⟩:=Zcx (i:=i2) (x:=d[j2]!) hd (show j2<n by omega)
   simp only [Zq hd (show j2<n by omega),Zq hd (show i2<n by omega),Option.bind_some,Int.toNat_natCast,hy,Zc0]
   obtain⟨j',rfl⟩:∃ j',j2=j' + 1:=⟨j2 - 1,by omega⟩
   rw [wsuc (by omega),wpred (by omega)]
   exact ih (i2 + 1) j' m _ (by rw [swp_sz,hd]) (by omega) (by omega) (by omega) (by omega) (by omega)
theorem Zln {n a b p:Nat} (hB:n≤sB) (hb:b≤n) (hp0:a≤p) (hp:p<b) {d:Array Int} (hd:d.size=n) :
  Za8 n d.toList (a:Int) (b:Int) (p:Int)=some (((Sort.partitionEqual Sort.ltInt d a b p).1:Int),(Sort.partitionEqual Sort.ltInt d a b p).2.toList):=by
 have hB':=hB
 unfold sB at hB
 unfold Za8 Sort.partitionEqual
 obtain⟨y,hy⟩:=Zcx (i:=a) (x:=d[p]!) hd (show p<n by omega)
 simp only [Zq hd (show p<n by omega),Zq hd (show a<n by omega),Option.bind_some,Int.toNat_natCast,hy,Zc0]
 obtain⟨b',rfl⟩:∃ b',b=b' + 1:=⟨b - 1,by omega⟩
 rw [wsuc (by omega),wpred (by omega),pe1_eq hB' (by omega) (b' + 1 - (a + 1)) (a + 1) b' fuel _ (by rw [swp_sz,hd]) (Nat.le_refl _) (by unfold fuel; omega) (by omega) (by omega) (by omega)]
 rfl
theorem pa4_eq {n a j:Nat} (hB:n≤sB) {d:Array Int} (hd:d.size=n) (ha:a<n) (hj:j<n) (i:Nat) (hi:i≤j + 2):Zay n (a:Int) d.toList (j:Int) fuel (i:Int)=some ((Sort.scanUp (fun x=>Sort.ltInt x d[a]!) d j i:Nat):Int):=by
 refine up_eq hB (d:=d) (fun x=>Sort.ltInt x d[a]!) hj ha (fun m i hi=>?_) (j + 1) i fuel (by omega) (by unfold sB at hB; unfold fuel; omega) hi
 unfold sB at hB hi
 rw [Zay]
 by_cases h:i≤j
 ·rw [decide_eq_true (show (i:Int)≤(j:Int) by omega)]
  simp only [Option.bind_some,if_true,Zq hd ha,Zq hd (show i<n by omega),Zdd,wsuc (show i + 1<1000000000000 by omega),h,true_and]
 ·rw [decide_eq_false (show ¬ (i:Int)≤(j:Int) by omega)]
  simp [h]
theorem pa5_eq {n a i:Nat} (hB:n≤sB) {d:Array Int} (hd:d.size=n) (ha:a<n) (hi:0<i) (j:Nat) (hj:j<n):Zaz n (a:Int) d.toList (i:Int) fuel (j:Int)=some ((Sort.scanDown (fun x=>!Sort.ltInt x d[a]!) d i j:Nat):Int):=by
 refine Zol hi (n:=n) (d:=d) (fun x=>!Sort.ltInt x d[a]!) (fun m j hj=>?_) j fuel (by unfold sB at hB; unfold fuel; omega) hj
 unfold sB at hB
 rw [Zaz]
 by_cases h:i≤j
 ·rw [decide_eq_true (show (i:Int)≤(j:Int) by omega)]
  simp only [Option.bind_some,if_true,Zq hd ha,Zq hd hj,Zdd,wi64 (show -9223372036854775808≤(j:Int) - 1 by omega) (show (j:Int) - 1<9223372036854775808 by omega),h,true_and]
 ·rw [decide_eq_false (show ¬ (i:Int)≤(j:Int) by omega)]
  simp [h]
theorem pa3_eq {n a:Nat} (hB:n≤sB) (ha:a<n):∀(k i j m:Nat) (d:Array Int),d.size=n→j + 1 - i≤k→k<m→i≤j + 2→a<i→j<n →
  Zai n (a:Int) m d.toList (i:Int) (j:Int)=some ((Sort.partLoop Sort.ltInt a i j d).2.toList,((Sort.partLoop Sort.ltInt a i j d).1:Int)):=by
 intro k
 induction k with
 | zero=>
  intro i j m d hd hk hm hij hai hj
  cases m with
  | zero=>omega
  | succ m=>
  have h1:Sort.scanUp (fun x=>Sort.ltInt x d[a]!) d j i=i:=by rw [Sort.scanUp,if_neg (by simp; omega)]
  have h2:Sort.scanDown (fun x=>!Sort.ltInt x d[a]!) d i j≤j:=Sort.scanDown_le _ _ _ _
  rw [Zai,pa4_eq hB hd ha hj i hij,Sort.partLoop_eq,h1]
  simp only [Option.bind_some]
  rw [pa5_eq hB hd ha (by omega) j hj]
  simp only [Option.bind_some]
  rw [if_pos (decide_eq_true (by omega)),if_pos (by omega)]
 | succ k ih=>
  intro i j m d hd hk hm hij hai hj
  cases m with
  | zero=>omega
  | succ m=>
  have hB':=hB
  unfold sB at hB
  rw [Zai,pa4_eq hB' hd ha hj i hij,Sort.partLoop_eq]
  simp only [Option.bind_some]
  have g1:=Sort.scanUp_ge (fun x=>Sort.ltInt x d[a]!) d j i
  generalize Sort.scanUp (fun x=>Sort.ltInt x d[a]!) d j i=i2 at g1 ⊢
  rw [pa5_eq hB' hd ha (by omega) j hj]
  simp only [Option.bind_some]
  have g2:=Sort.scanDown_le (fun x=>!Sort.ltInt x d[a]!) d i2 j
  generalize Sort.scanDown (fun x=>!Sort.ltInt x d[a]!) d i2 j=j2 at g2 ⊢
  by_cases h:i2 > j2
  ·rw [if_pos (decide_eq_true (by omega)),if_pos h]
  ·rw [if_neg (by simp; omega),if_neg h]
   obtain⟨y,hy⟩:=Zcx (i:=i2) (x:=d[j2]!) hd (show j2<n by omega)
   simp only [Zq hd (show j2<n by omega),Zq hd (show i2<n by omega),Option.bind_some,Int.toNat_natCast,hy,Zc0]
   obtain⟨j',rfl⟩:∃ j',j2=j' + 1:=⟨j2 - 1,by omega⟩
   rw [wsuc (by omega),wpred (by omega)]
   exact ih (i2 + 1) j' m _ (by rw [swp_sz,hd]) (by omega) (by omega) (by omega) (by omega) (by omega)
theorem pa1_eq {n a b p:Nat} (hB:n≤sB) {d:Array Int} (hd:d.size=n) (hb:b≤n) (hab:a<b) (i:Nat) (hi:i≤b - 1 + 2) :
  Zaw n d.toList (a:Int) (b:Int) (p:Int) d[p]! d[a]! fuel (i:Int)=some ((Sort.scanUp (fun x=>Sort.ltInt x (Sort.swp d a p)[a]!) (Sort.swp d a p) (b - 1) i:Nat):Int):=by
 refine up_eq hB (d:=Sort.swp d a p) (fun x=>Sort.ltInt x (Sort.swp d a p)[a]!) (show b - 1<n by omega) (show a<n by omega) (fun m i hi=>?_) b i fuel (by omega) (by unfold sB at hB; unfold fuel; omega) hi
 unfold sB at hB hi
 have hd':(Sort.swp d a p).size=n:=by rw [swp_sz,hd]
 have e1:IntKind.wrap .i64 ((b:Int) - 1)=((b - 1:Nat):Int):=by rw [wi64 (by omega) (by omega)]; omega
 rw [Zaw,e1]
 simp only [Int.toNat_natCast,Zc0]
 by_cases h:i≤b - 1
 ·rw [decide_eq_true (show (i:Int)≤((b - 1:Nat):Int) by omega)]
  simp only [Option.bind_some,if_true,Zq hd' (show a<n by omega),Zq hd' (show i<n by omega),Zdd,wsuc (show i + 1<1000000000000 by omega),h,true_and]
 ·rw [decide_eq_false (show ¬ (i:Int)≤((b - 1:Nat):Int) by omega)]
  simp [h]
theorem pa2_eq {n a p i:Nat} (hB:n≤sB) {d:Array Int} (hd:d.size=n) (ha:a<n) (hi:0<i) (j:Nat) (hj:j<n) :
  Zax n d.toList (a:Int) (p:Int) d[p]! d[a]! (i:Int) fuel (j:Int)=some ((Sort.scanDown (fun x=>!Sort.ltInt x (Sort.swp d a p)[a]!) (Sort.swp d a p) i j:Nat):Int):=by
 refine Zol hi (n:=n) (d:=Sort.swp d a p) (fun x=>!Sort.ltInt x (Sort.swp d a p)[a]!) (fun m j hj=>?_) j fuel (by unfold sB at hB; unfold fuel; omega) hj
 unfold sB at hB
 have hd':(Sort.swp d a p).size=n:=by rw [swp_sz,hd]
 rw [Zax]
 simp only [Int.toNat_natCast,Zc0]
 by_cases h:i≤j
 ·rw [decide_eq_true (show (i:Int)≤(j:Int) by omega)]
  simp only [Option.bind_some,if_true,Zq hd' ha,Zq hd' hj,Zdd,wi64 (show -9223372036854775808≤(j:Int) - 1 by omega) (show (j:Int) - 1<9223372036854775808 by omega),h,true_and]
 ·rw [decide_eq_false (show ¬ (i:Int)≤(j:Int) by omega)]
  simp [h]
theorem Zq7 {n a:Nat}:∀(k i j:Nat) (d:Array Int),d.size=n→j + 1 - i≤k→(Sort.partLoop Sort.ltInt a i j d).2.size=n:=by
 intro k
 induction k with
 | zero=>
  intro i j d hd hk
  have h1:Sort.scanUp (fun x=>Sort.ltInt x d[a]!) d j i=i:=by rw [Sort.scanUp,if_neg (by simp; omega)]
  have h2:Sort.scanDown (fun x=>!Sort.ltInt x d[a]!) d i j≤j:=Sort.scanDown_le _ _ _ _
  rw [Sort.partLoop_eq,h1,if_pos (by omega)]; exact hd
 | succ k ih=>
  intro i j d hd hk
  rw [Sort.partLoop_eq]
  have g1:=Sort.scanUp_ge (fun x=>Sort.ltInt x d[a]!) d j i
  have g2:=Sort.scanDown_le (fun x=>!Sort.ltInt x d[a]!) d (Sort.scanUp (fun x=>Sort.ltInt x d[a]!) d j i) j
  split
  ·exact hd
  ·exact ih _ _ _ (by rw [swp_sz,hd]) (by omega)
theorem Zq8 {a:Nat}:∀(k i j:Nat) (d:Array Int),j + 1 - i≤k→(Sort.partLoop Sort.ltInt a i j d).1≤j:=by
 intro k
 induction k with
 | zero=>
  intro i j d hk
  have h1:Sort.scanUp (fun x=>Sort.ltInt x d[a]!) d j i=i:=by rw [Sort.scanUp,if_neg (by simp; omega)]
  have h2:Sort.scanDown (fun x=>!Sort.ltInt x d[a]!) d i j≤j:=Sort.scanDown_le _ _ _ _
  rw [Sort.partLoop_eq,h1,if_pos (by omega)]; exact h2
 | succ k ih=>
  intro i j d hk
  rw [Sort.partLoop_eq]
  have g1:=Sort.scanUp_ge (fun x=>Sort.ltInt x d[a]!) d j i
  have g2:=Sort.scanDown_le (fun x=>!Sort.ltInt x d[a]!) d (Sort.scanUp (fun x=>Sort.ltInt x d[a]!) d j i) j
  split
  ·exact g2
  ·exact Nat.le_trans (ih _ _ _ (by omega)) (by omega)
theorem Zqi {n a b p:Nat} (hB:n≤sB) (hb:b≤n) (hp0:a≤p) (hp:p<b) {d:Array Int} (hd:d.size=n) :
  Zbm n d.toList (a:Int) (b:Int) (p:Int)=some (((Sort.partition Sort.ltInt d a b p).1:Int),(Sort.partition Sort.ltInt d a b p).2.1,(Sort.partition Sort.ltInt d a b p).2.2.toList):=by
 have hB':=hB
 unfold sB at hB
 have hd':(Sort.swp d a p).size=n:=by rw [swp_sz,hd]
 unfold Zbm Sort.partition
 obtain⟨y,hy⟩:=Zcx (i:=a) (x:=d[p]!) hd (show p<n by omega)
 have e1:IntKind.wrap .i64 ((b:Int) - 1)=((b - 1:Nat):Int):=by rw [wi64 (by omega) (by omega)]; omega
 simp only [Zq hd (show p<n by omega),Zq hd (show a<n by omega),Option.bind_some,Int.toNat_natCast,hy,Zc0]
 rw [wsuc (by omega),pa1_eq hB' hd hb (by omega) (a + 1) (by omega),e1]
 simp only [Option.bind_some]
 have g1:=Sort.scanUp_ge (fun x=>Sort.ltInt x (Sort.swp d a p)[a]!) (Sort.swp d a p) (b - 1) (a + 1)
 generalize Sort.scanUp (fun x=>Sort.ltInt x (Sort.swp d a p)[a]!) (Sort.swp d a p) (b - 1) (a + 1)=i at g1 ⊢
 rw [pa2_eq hB' hd (by omega) (by omega) (b - 1) (by omega)]
 simp only [Option.bind_some]
 have g2:=Sort.scanDown_le (fun x=>!Sort.ltInt x (Sort.swp d a p)[a]!) (Sort.swp d a p) i (b - 1)
 generalize Sort.scanDown (fun x=>!Sort.ltInt x (Sort.swp d a p)[a]!) (Sort.swp d a p) i (b - 1)=j at g2 ⊢
 by_cases h:i > j
 ·rw [if_pos (decide_eq_true (by omega)),if_pos h]
  obtain⟨y,hy⟩:=Zcx (i:=j) (x:=(Sort.swp d a p)[a]!) hd' (show a<n by omega)
  simp only [Zq hd' (show j<n by omega),Zq hd' (show a<n by omega),Option.bind_some,Int.toNat_natCast,hy,Zc0]
 ·rw [if_neg (by simp; omega),if_neg h]
  obtain⟨y,hy⟩:=Zcx (i:=i) (x:=(Sort.swp d a p)[j]!) hd' (show j<n by omega)
  simp only [Zq hd' (show j<n by omega),Zq hd' (show i<n by omega),Option.bind_some,Int.toNat_natCast,hy,Zc0]
  obtain⟨j',rfl⟩:∃ j',j=j' + 1:=⟨j - 1,by omega⟩
  have hd2:(Sort.swp (Sort.swp d a p) i (j' + 1)).size=n:=by rw [swp_sz,hd']
  rw [wsuc (by omega),wpred (by omega),pa3_eq hB' (by omega) (j' + 1 - (i + 1)) (i + 1) j' fuel _ hd2 (Nat.le_refl _) (by unfold fuel; omega) (by omega) (by omega) (by omega)]
  simp only [Option.bind_some,Nat.add_sub_cancel]
  have hz:=Zq7 (a:=a) (j' + 1 - (i + 1)) (i + 1) j' _ hd2 (Nat.le_refl _)
  have hl:=Zq8 (a:=a) (j' + 1 - (i + 1)) (i + 1) j' (Sort.swp (Sort.swp d a p) i (j' + 1)) (Nat.le_refl _)
  generalize Sort.partLoop Sort.ltInt a (i + 1) j' (Sort.swp (Sort.swp d a p) i (j' + 1))=r at hz hl ⊢
  obtain⟨r1,r2⟩:=r
  simp only at hz hl ⊢
  obtain⟨y,hy⟩:=Zcx (i:=r1) (x:=r2[a]!) hz (show a<n by omega)
  simp only [Zq hz (show r1<n by omega),Zq hz (show a<n by omega),Option.bind_some,Int.toNat_natCast,hy,Zc0]
end Go.AM
set_option maxRecDepth 100000
namespace Go.AM
open Go
theorem Zpq {n b:Nat} (hB:n≤sB) (hb:b≤n) {d:Array Int} (hd:d.size=n):∀(k i m:Nat),b - i≤k→k<m→0<i→i≤n + 1 →
  Zv n (b:Int) d.toList m (i:Int)=some ((Sort.scanSorted Sort.ltInt d b i:Nat):Int):=by
 have hB':=hB
 unfold sB at hB
 intro k
 induction k with
 | zero=>
  intro i m hk hm h0 hi
  cases m with
  | zero=>omega
  | succ m=>
  rw [Zv,Sort.scanSorted,decide_eq_false (by omega),if_neg (show ¬ (decide (i<b) && !Sort.ltInt d[i]! d[i - 1]!)=true by simp; omega)]
  simp
 | succ k ih=>
  intro i m hk hm h0 hi
  cases m with
  | zero=>omega
  | succ m=>
  rw [Zv,Sort.scanSorted]
  by_cases h:i<b
  ·obtain⟨i',rfl⟩:∃ i',i=i' + 1:=⟨i - 1,by omega⟩
   rw [decide_eq_true (show ((i' + 1:Nat):Int)<(b:Int) by omega),decide_eq_true h]
   simp only [Option.bind_some,if_true,wpred (show i' + 1<1000000000000 by omega),Zq hd (show i' + 1<n by omega),Zq hd (show i'<n by omega),Zdd,Nat.add_sub_cancel,Bool.true_and]
   cases hl:Sort.ltInt d[i' + 1]! d[i']! with
   | true=>simp
   | false=>
    simp only [Bool.not_false,if_true,wsuc (show i' + 1 + 1<1000000000000 by omega)]
    exact ih (i' + 1 + 1) m (by omega) (by omega) (by omega) (by omega)
  ·rw [decide_eq_false (show ¬ (i:Int)<(b:Int) by omega),decide_eq_false h]
   simp
theorem Zom {d:Array Int} {b:Nat}:∀(k i:Nat),b - i≤k→i≤Sort.scanSorted Sort.ltInt d b i∧(i≤b→Sort.scanSorted Sort.ltInt d b i≤b):=by
 intro k
 induction k with
 | zero=>intro i hk; rw [Sort.scanSorted,if_neg (by simp; omega)]; omega
 | succ k ih=>
  intro i hk
  rw [Sort.scanSorted]
  split
  ·rename_i h
   simp only [Bool.and_eq_true,decide_eq_true_eq] at h
   have:=ih (i + 1) (by omega)
   omega
  ·omega
theorem Zkp {n:Nat} (hB:n≤sB):∀(j m:Nat) (d:Array Int),d.size=n→j<n→j<m →
  Zr n m d.toList (j:Int)=some (Sort.shiftDown Sort.ltInt j d).toList
 | 0,m + 1,d,hd,hj,hm=>by
  rw [Zr,if_neg (by simp)]; rfl
 | j + 1,m + 1,d,hd,hj,hm=>by
  have ih:=Zkp hB j m
  unfold sB at hB
  obtain⟨y,hy⟩:=Zcx (i:=j + 1) (x:=d[j]!) hd (show j<n by omega)
  rw [Zr,Sort.shiftDown,if_pos (decide_eq_true (by omega))]
  simp only [wpred (show j + 1<1000000000000 by omega),Zq hd hj,Zq hd (show j<n by omega),Option.bind_some,Zdd,Int.toNat_natCast,hy,Zc0]
  cases hl:Sort.ltInt d[j + 1]! d[j]! with
  | false=>rfl
  | true=>
   simp only [Bool.not_true,Bool.false_eq_true,if_false]
   exact ih _ (by rw [swp_sz,hd]) (by omega) (by omega)
theorem Zg1 {n:Nat}:∀(j:Nat) (d:Array Int),d.size=n→(Sort.shiftDown Sort.ltInt j d).size=n
 | 0,_,hd=>hd
 | j + 1,d,hd=>by
  rw [Sort.shiftDown]
  split
  ·exact hd
  ·exact Zg1 j _ (by rw [swp_sz,hd])
theorem Zr8 {n b:Nat} (hB:n≤sB) (hb:b≤n):∀(k j m:Nat) (d:Array Int),d.size=n→b - j≤k→k<m→0<j→j≤n + 1 →
  Zw n (b:Int) m d.toList (j:Int)=some (Sort.shiftUp Sort.ltInt b j d).toList:=by
 have hB':=hB
 unfold sB at hB
 intro k
 induction k with
 | zero=>
  intro j m d hd hk hm h0 hj
  cases m with
  | zero=>omega
  | succ m=>rw [Zw,Sort.shiftUp,if_neg (by simp; omega),if_neg (by omega)]
 | succ k ih=>
  intro j m d hd hk hm h0 hj
  cases m with
  | zero=>omega
  | succ m=>
  rw [Zw,Sort.shiftUp]
  by_cases h:j<b
  ·rw [if_pos (decide_eq_true (by omega)),if_pos h]
   obtain⟨j',rfl⟩:∃ j',j=j' + 1:=⟨j - 1,by omega⟩
   obtain⟨y,hy⟩:=Zcx (i:=j' + 1) (x:=d[j']!) hd (show j'<n by omega)
   simp only [wpred (show j' + 1<1000000000000 by omega),Zq hd (show j' + 1<n by omega),Zq hd (show j'<n by omega),Option.bind_some,Zdd,Int.toNat_natCast,hy,Zc0,Nat.add_sub_cancel]
   cases hl:Sort.ltInt d[j' + 1]! d[j']! with
   | false=>rfl
   | true=>
    simp only [Bool.not_true,Bool.false_eq_true,if_false,wsuc (show j' + 1 + 1<1000000000000 by omega)]
    exact ih (j' + 1 + 1) m _ (by rw [swp_sz,hd]) (by omega) (by omega) (by omega) (by omega)
  ·rw [if_neg (by simp; omega),if_neg h]
theorem Znw {n b:Nat}:∀(k j:Nat) (d:Array Int),d.size=n→b - j≤k→(Sort.shiftUp Sort.ltInt b j d).size=n:=by
 intro k
 induction k with
 | zero=>intro j d hd hk; rw [Sort.shiftUp,if_neg (by omega)]; exact hd
 | succ k ih=>
  intro j d hd hk
  rw [Sort.shiftUp]
  split
  ·split
   ·exact hd
   ·exact ih _ _ (by rw [swp_sz,hd]) (by omega)
  ·exact hd
def outP (r:Array Int × Bool) (o:List Int ⊕ (Bool × List Int)):Prop:=(o=.inl r.1.toList∧r.2=false)∨o=.inr (r.2,r.1.toList)
theorem Zjy {n a b:Nat} (hB:n≤sB) (hb:b≤n) (hab:a<b):∀(s c i m:Nat) (d:Array Int),d.size=n→c + s=5→s<m→a<i→i≤b →
  Ok (Zx n (a:Int) (b:Int) m d.toList (i:Int) (c:Int)) (outP (Sort.partialIns Sort.ltInt a b s i d))
 | 0,c,i,m + 1,d,hd,hc,hm,hai,hi=>by
  rw [Zx,if_neg (by simp; omega)]
  exact⟨_,rfl,Or.inl ⟨rfl,rfl⟩⟩
 | s + 1,c,i,m + 1,d,hd,hc,hm,hai,hi=>by
  have ih:=Zjy hB hb hab s (c + 1)
  have hB':=hB
  unfold sB at hB
  rw [Zx,if_pos (decide_eq_true (by omega)),Zpq hB' hb hd (b - i) i fuel (Nat.le_refl _) (by unfold fuel; omega) (by omega) (by omega),Sort.partialIns]
  obtain⟨g1,g2⟩:=Zom (d:=d) (b - i) i (Nat.le_refl _)
  have g2:=g2 hi
  generalize Sort.scanSorted Sort.ltInt d b i=j at g1 g2 ⊢
  simp only [Option.bind_some]
  by_cases h1:j=b
  ·rw [if_pos (by simp [h1]),if_pos h1]
   exact⟨_,rfl,Or.inr rfl⟩
  ·rw [if_neg (by simp; omega),if_neg h1,wsub (by omega) (by omega)]
   by_cases h2:b - a<50
   ·rw [if_pos (decide_eq_true (by omega)),if_pos h2]
    exact⟨_,rfl,Or.inr rfl⟩
   ·rw [if_neg (by simp; omega),if_neg h2]
    obtain⟨j',rfl⟩:∃ j',j=j' + 1:=⟨j - 1,by omega⟩
    obtain⟨y,hy⟩:=Zcx (i:=j' + 1) (x:=d[j']!) hd (show j'<n by omega)
    simp only [wpred (show j' + 1<1000000000000 by omega),Zq hd (show j' + 1<n by omega),Zq hd (show j'<n by omega),Option.bind_some,Int.toNat_natCast,hy,Zc0,Nat.add_sub_cancel]
    rw [wsub (i:=j' + 1) (j:=a) (by omega) (by omega),wsub (i:=b) (j:=j' + 1) (by omega) (by omega)]
    have hd2:(Sort.swp d (j' + 1) j').size=n:=by rw [swp_sz,hd]
    generalize Sort.swp d (j' + 1) j'=d2 at hd2 ⊢
    have e3:(if (decide (((j' + 1 - a:Nat):Int) ≥ 2))=true then (Zr n fuel d2.toList (j':Int)).bind fun(v1191:(List Int))=>some v1191 else some d2.toList)=some (if j' + 1 - a ≥ 2 then Sort.shiftDown Sort.ltInt j' d2 else d2).toList:=by
     by_cases h3:j' + 1 - a ≥ 2
     ·rw [if_pos (decide_eq_true (by omega)),if_pos h3,Zkp hB' j' fuel d2 hd2 (by omega) (by unfold fuel; omega)]; rfl
     ·rw [if_neg (by simp; omega),if_neg h3]
    rw [e3]
    have hd3:(if j' + 1 - a ≥ 2 then Sort.shiftDown Sort.ltInt j' d2 else d2).size=n:=by
     split
     ·exact Zg1 _ _ hd2
     ·exact hd2
    generalize (if j' + 1 - a ≥ 2 then Sort.shiftDown Sort.ltInt j' d2 else d2)=d3 at hd3 ⊢
    simp only [Option.bind_some]
    rw [wsuc (j:=j' + 1) (by omega),wsuc (j:=c) (by omega)]
    by_cases h4:b - (j' + 1) ≥ 2
    ·rw [if_pos (decide_eq_true (by omega)),if_pos h4,Zr8 hB' hb (b - (j' + 1 + 1)) (j' + 1 + 1) fuel d3 hd3 (Nat.le_refl _) (by unfold fuel; omega) (by omega) (by omega)]
     simp only [Option.bind_some]
     exact ih (j' + 1) m _ (Znw _ _ _ hd3 (Nat.le_refl _)) (by omega) (by omega) (by omega) (by omega)
    ·rw [if_neg (by simp; omega),if_neg h4]
     simp only [Option.bind_some]
     exact ih (j' + 1) m _ hd3 (by omega) (by omega) (by omega) (by omega)
theorem Zh8 {n a b:Nat} (hB:n≤sB) (hb:b≤n) (hab:a<b) {d:Array Int} (hd:d.size=n) :
  Zac n d.toList (a:Int) (b:Int)=some ((Sort.partialInsertionSort Sort.ltInt d a b).2,(Sort.partialInsertionSort Sort.ltInt d a b).1.toList):=by
 unfold Zac Sort.partialInsertionSort
 have hB':=hB
 unfold sB at hB
 rw [wsuc (by omega)]
 obtain⟨o,e,ho⟩:=Zjy hB' hb hab 5 0 (a + 1) fuel d hd rfl (by unfold fuel; omega) (by omega) (by omega)
 rw [show ((0:Nat):Int)=0 from rfl] at e
 rw [e]
 rcases ho with ⟨rfl,h⟩ | rfl
 ·simp only [Option.bind_some,h]
 ·rfl
theorem Zkq {n a b s:Nat} {d:Array Int} (hd:d.size=n) (ha:a<n) (hb:b<n) (hs:s<1000):Za2 n d.toList (a:Int) (b:Int) (s:Int)=some (((Sort.order2 Sort.ltInt d a b s).1:Int),((Sort.order2 Sort.ltInt d a b s).2.1:Int),((Sort.order2 Sort.ltInt d a b s).2.2:Int)):=by
 unfold Za2 Sort.order2
 simp only [Zq hd ha,Zq hd hb,Option.bind_some,Zdd,wsuc (show s + 1<1000000000000 by omega)]
 split <;> rfl
theorem Zg2 {n a b s:Nat} {d:Array Int} (ha:a<n) (hb:b<n):(Sort.order2 Sort.ltInt d a b s).1<n∧(Sort.order2 Sort.ltInt d a b s).2.1<n∧(Sort.order2 Sort.ltInt d a b s).2.2≤s + 1:=by
 unfold Sort.order2
 split
 ·exact⟨hb,ha,by simp⟩
 ·exact⟨ha,hb,by simp⟩
theorem Zkr {n a b c s:Nat} {d:Array Int} (hd:d.size=n) (ha:a<n) (hb:b<n) (hc:c<n) (hs:s<900):Zbf n d.toList (a:Int) (b:Int) (c:Int) (s:Int)=some (((Sort.median Sort.ltInt d a b c s).1:Int),((Sort.median Sort.ltInt d a b c s).2:Int)):=by
 unfold Zbf Sort.median
 obtain⟨g1,g2,g3⟩:=Zg2 (s:=s) (d:=d) ha hb
 rw [Zkq hd ha hb (by omega)]
 simp only [Option.bind_some]
 obtain⟨h1,h2,h3⟩:=Zg2 (s:=(Sort.order2 Sort.ltInt d a b s).2.2) (d:=d) g2 hc
 rw [Zkq hd g2 hc (by omega)]
 simp only [Option.bind_some]
 rw [Zkq hd g1 h1 (by omega)]
 rfl
theorem Zr9 {n a b c s:Nat} {d:Array Int} (ha:a<n) (hb:b<n) (hc:c<n):(Sort.median Sort.ltInt d a b c s).1<n∧(Sort.median Sort.ltInt d a b c s).2≤s + 3:=by
 unfold Sort.median
 obtain⟨g1,g2,g3⟩:=Zg2 (s:=s) (d:=d) ha hb
 obtain⟨h1,h2,h3⟩:=Zg2 (s:=(Sort.order2 Sort.ltInt d a b s).2.2) (d:=d) g2 hc
 obtain⟨k1,k2,k3⟩:=Zg2 (s:=(Sort.order2 Sort.ltInt d (Sort.order2 Sort.ltInt d a b s).2.1 c (Sort.order2 Sort.ltInt d a b s).2.2).2.2) (d:=d) g1 h1
 exact⟨k2,Nat.le_trans k3 (by omega)⟩
theorem Zf7 {n a s:Nat} (hB:n≤sB) {d:Array Int} (hd:d.size=n) (h0:0<a) (ha:a + 1<n) (hs:s<900):Zae n d.toList (a:Int) (s:Int)=some (((Sort.medianAdjacent Sort.ltInt d a s).1:Int),((Sort.medianAdjacent Sort.ltInt d a s).2:Int)):=by
 unfold sB at hB
 unfold Zae Sort.medianAdjacent
 obtain⟨a',rfl⟩:∃ a',a=a' + 1:=⟨a - 1,by omega⟩
 rw [wpred (by omega),wsuc (by omega),Zkr hd (by omega) (by omega) ha hs]
 rfl
theorem Zfv {n a s:Nat} {d:Array Int} (ha:a + 1<n):(Sort.medianAdjacent Sort.ltInt d a s).1<n∧(Sort.medianAdjacent Sort.ltInt d a s).2≤s + 3:=by
 unfold Sort.medianAdjacent
 exact Zr9 (by omega) (by omega) ha
def hintN:Sort.Hint→Int
 | .unknown=>0
 | .increasing=>1
 | .decreasing=>2
theorem Zon {n a b:Nat} (hB:n≤sB) (hab:a<b) (hb:b≤n) {d:Array Int} (hd:d.size=n) :
  Zbe n d.toList (a:Int) (b:Int)=some (((Sort.choosePivot Sort.ltInt d a b).1:Int),hintN (Sort.choosePivot Sort.ltInt d a b).2):=by
 have hB':=hB
 unfold sB at hB
 unfold Zbe
 have ew:IntKind.wrap .i64 ((b:Int) - (a:Int))=((b - a:Nat):Int):=wsub (by omega) (by omega)
 have eq4:IntKind.wrap .i64 (Int.tdiv ((b - a:Nat):Int) (4:Int))=(((b - a) / 4:Nat):Int):=by
  rw [Int.tdiv_eq_ediv_of_nonneg (by omega),wi64 (by omega) (by omega)]; omega
 have ep:∀ k:Nat,k≤3→IntKind.wrap .i64 ((a:Int) + IntKind.wrap .i64 ((((b - a) / 4:Nat):Int) * (k:Int)))=((a + (b - a) / 4 * k:Nat):Int):=fun k hk=>by
  have h1:(b - a) / 4 * k≤(b - a) / 4 * 3:=Nat.mul_le_mul_left _ hk
  have e2:(((b - a) / 4:Nat):Int) * (k:Int)=(((b - a) / 4 * k:Nat):Int):=by push_cast; rfl
  rw [e2,wi64 (x:=(((b - a) / 4 * k:Nat):Int)) (by omega) (by omega),wadd (by omega)]
 have e1:=ep 1 (by omega)
 have e2:=ep 2 (by omega)
 have e3:=ep 3 (by omega)
 rw [show ((1:Nat):Int)=1 from rfl] at e1
 rw [show ((2:Nat):Int)=2 from rfl] at e2
 rw [show ((3:Nat):Int)=3 from rfl] at e3
 rw [ew,eq4,e1,e2,e3]
 have fin:∀(r:Nat × Nat),(match ((r.2:Int),(r.1:Int)) with
   | (v24,v25)=>if (v24 == (0:Int))=true then some (v25,(1:Int)) else if (v24 == (12:Int))=true then some (v25,(2:Int)) else some (v25,(0:Int))) =
   some ((r.1:Int),hintN (if r.2=0 then .increasing else if r.2=12 then .decreasing else .unknown)):=fun r=>by
  simp only [beq_iff_eq]
  by_cases h0:r.2=0
  ·rw [if_pos (by omega),if_pos h0]; rfl
  ·rw [if_neg (by omega),if_neg h0]
   by_cases h1:r.2=12
   ·rw [if_pos (by omega),if_pos h1]; rfl
   ·rw [if_neg (by omega),if_neg h1]; rfl
 unfold Sort.choosePivot
 simp only
 by_cases h8:b - a ≥ 8
 ·rw [if_pos (decide_eq_true (show ((b - a:Nat):Int) ≥ 8 by omega)),if_pos h8]
  by_cases h50:b - a ≥ 50
  ·rw [if_pos (decide_eq_true (show ((b - a:Nat):Int) ≥ 50 by omega)),if_pos h50]
   have l1:a + (b - a) / 4 * 3 + 1<n:=by omega
   rw [show (0:Int)=((0:Nat):Int) from rfl]
   rw [Zf7 hB' hd (by omega) (by omega) (by omega)]
   obtain⟨p1,p2⟩:=Zfv (n:=n) (a:=a + (b - a) / 4 * 1) (s:=0) (d:=d) (by omega)
   simp only [Option.bind_some]
   rw [Zf7 hB' hd (by omega) (by omega) (by omega)]
   obtain⟨q1,q2⟩:=Zfv (n:=n) (a:=a + (b - a) / 4 * 2) (s:=(Sort.medianAdjacent Sort.ltInt d (a + (b - a) / 4 * 1) 0).2) (d:=d) (by omega)
   simp only [Option.bind_some]
   rw [Zf7 hB' hd (by omega) (by omega) (by omega)]
   obtain⟨s1,s2⟩:=Zfv (n:=n) (a:=a + (b - a) / 4 * 3) (s:=(Sort.medianAdjacent Sort.ltInt d (a + (b - a) / 4 * 2) (Sort.medianAdjacent Sort.ltInt d (a + (b - a) / 4 * 1) 0).2).2) (d:=d) (by omega)
   simp only [Option.bind_some]
   rw [Zkr hd p1 q1 s1 (by omega)]
   simp only [Option.bind_some]
   exact fin _
  ·rw [if_neg (by simp; omega),if_neg h50]
   rw [show (0:Int)=((0:Nat):Int) from rfl]
   simp only [Option.bind_some]
   rw [Zkr hd (by omega) (by omega) (by omega) (by omega)]
   simp only [Option.bind_some]
   exact fin _
 ·rw [if_neg (by simp; omega),if_neg h8]
  simp only [Option.bind_some]
  exact fin (a + (b - a) / 4 * 2,0)
end Go.AM
set_option maxRecDepth 100000
namespace Go.AM
open Go
theorem Zi1 {x:Nat} (h:256≤x):Sort.bitsLen x=Sort.bitsLen (x / 256) + 8:=by
 have h1:∀ m,Sort.bitsLen x≤m + 8 ↔ Sort.bitsLen (x / 256)≤m:=fun m=>by
  rw [Sort.bitsLen_le_iff,Sort.bitsLen_le_iff,Nat.pow_add]
  have:0<2 ^ m:=Nat.pow_pos (by omega)
  omega
 have h2:=(h1 (Sort.bitsLen (x / 256))).2 (Nat.le_refl _)
 have h3:¬ Sort.bitsLen x≤8:=by rw [Sort.bitsLen_le_iff]; omega
 have h4:=(h1 (Sort.bitsLen x - 8)).1 (by omega)
 omega
theorem Zjo (x k:Nat) (hk:k≤64):bShr .u64 (x:Int) (k:Int)=((x / 2 ^ k:Nat):Int):=by
 unfold bShr
 rw [Int.toNat_natCast,show min k (IntKind.bits .u64)=k from Nat.min_eq_left hk,Int.fdiv_eq_ediv_of_nonneg _ (by exact Int.le_of_lt (by exact Int.pow_pos (by decide)))]
 push_cast; rfl
def len8:ByteArray:=⟨#[0,1,2,2,3,3,3,3,4,4,4,4,4,4,4,4,5,5,5,5,5,5,5,5,5,5,5,5,5,5,5,5,6,6,6,6,6,6,6,6,6,6,6,6,6,6,6,6,6,6,6,6,6,6,6,6,6,6,6,6,6,6,6,6,7,7,7,7,7,7,7,7,7,7,7,7,7,7,7,7,7,7,7,7,7,7,7,7,7,7,7,7,7,7,7,7,7,7,7,7,7,7,7,7,7,7,7,7,7,7,7,7,7,7,7,7,7,7,7,7,7,7,7,7,7,7,7,7,8,8,8,8,8,8,8,8,8,8,8,8,8,8,8,8,8,8,8,8,8,8,8,8,8,8,8,8,8,8,8,8,8,8,8,8,8,8,8,8,8,8,8,8,8,8,8,8,8,8,8,8,8,8,8,8,8,8,8,8,8,8,8,8,8,8,8,8,8,8,8,8,8,8,8,8,8,8,8,8,8,8,8,8,8,8,8,8,8,8,8,8,8,8,8,8,8,8,8,8,8,8,8,8,8,8,8,8,8,8,8,8,8,8,8,8,8,8,8,8,8,8,8,8,8,8,8,8]⟩
theorem Ztp:(List.range 256).map (fun i=>len8.data[i]?.map (·.toNat))=(List.range 256).map (fun i=>some (Sort.bitsLen i)):=by kernel_rfl
theorem Zoo {i:Nat} (h:i<256):sidx ⟨#[0,1,2,2,3,3,3,3,4,4,4,4,4,4,4,4,5,5,5,5,5,5,5,5,5,5,5,5,5,5,5,5,6,6,6,6,6,6,6,6,6,6,6,6,6,6,6,6,6,6,6,6,6,6,6,6,6,6,6,6,6,6,6,6,7,7,7,7,7,7,7,7,7,7,7,7,7,7,7,7,7,7,7,7,7,7,7,7,7,7,7,7,7,7,7,7,7,7,7,7,7,7,7,7,7,7,7,7,7,7,7,7,7,7,7,7,7,7,7,7,7,7,7,7,7,7,7,7,8,8,8,8,8,8,8,8,8,8,8,8,8,8,8,8,8,8,8,8,8,8,8,8,8,8,8,8,8,8,8,8,8,8,8,8,8,8,8,8,8,8,8,8,8,8,8,8,8,8,8,8,8,8,8,8,8,8,8,8,8,8,8,8,8,8,8,8,8,8,8,8,8,8,8,8,8,8,8,8,8,8,8,8,8,8,8,8,8,8,8,8,8,8,8,8,8,8,8,8,8,8,8,8,8,8,8,8,8,8,8,8,8,8,8,8,8,8,8,8,8,8,8,8,8,8,8,8]⟩ (i:Int)=some ((Sort.bitsLen i:Nat):Int):=by
 have h1:len8.data[i]?.map (·.toNat)=some (Sort.bitsLen i):=List.map_inj_left.1 Ztp i (List.mem_range.2 h)
 have hs:len8.size=256:=by kernel_rfl
 have h2:i<len8.data.size:=by show i<len8.size; omega
 rw [Array.getElem?_eq_getElem h2] at h1
 simp only [Option.map_some,Option.some.injEq] at h1
 show sidx len8 (i:Int)=_
 unfold sidx
 rw [dif_pos ⟨by omega,by omega⟩,← h1]
 rfl
theorem Len_eq {x:Nat} (h:x<16777216):Zdw (x:Int)=some ((Sort.bitsLen x:Nat):Int):=by
 have w8:∀ y:Nat,y<256→IntKind.wrap .u8 (y:Int)=(y:Int):=fun y hy=>by rw [wrap_u .u8 8 rfl rfl]; omega
 have hb:∀ y:Nat,y<256→Sort.bitsLen y≤8:=fun y hy=>(Sort.bitsLen_le_iff y 8).2 (by omega)
 unfold Zdw Ze3
 rw [if_neg (by simp; omega)]
 simp only [Option.bind_some]
 have e16:bShr .u64 (x:Int) (16:Int)=((x / 65536:Nat):Int):=Zjo x 16 (by omega)
 have e8:bShr .u64 (x:Int) (8:Int)=((x / 256:Nat):Int):=Zjo x 8 (by omega)
 by_cases h1:x<65536
 ·rw [if_neg (show ¬ (decide ((x:Int) ≥ 65536))=true by simp; omega)]
  simp only [Option.bind_some]
  by_cases h2:x<256
  ·rw [if_neg (show ¬ (decide ((x:Int) ≥ 256))=true by simp; omega)]
   simp only [Option.bind_some]
   rw [w8 x h2,Zoo h2]
   have:=hb x h2
   simp only [Option.bind_some]
   rw [wi64 (x:=((Sort.bitsLen x:Nat):Int)) (by omega) (by omega),wi64 (by omega) (by omega),Int.zero_add]
  ·rw [if_pos (decide_eq_true (show (x:Int) ≥ 256 by omega)),e8]
   simp only [Option.bind_some]
   have h3:x / 256<256:=by omega
   rw [w8 _ h3,Zoo h3,Zi1 (show 256≤x by omega)]
   have:=hb _ h3
   simp only [Option.bind_some]
   rw [wi64 (x:=((Sort.bitsLen (x / 256):Nat):Int)) (by omega) (by omega),wi64 (x:=(0:Int) + 8) (by omega) (by omega),wi64 (by omega) (by omega)]
   congr 1; omega
 ·rw [if_pos (decide_eq_true (show (x:Int) ≥ 65536 by omega)),e16]
  simp only [Option.bind_some]
  have h3:x / 65536<256:=by omega
  rw [if_neg (show ¬ (decide (((x / 65536:Nat):Int) ≥ 256))=true by simp; omega)]
  simp only [Option.bind_some]
  rw [w8 _ h3,Zoo h3,Zi1 (show 256≤x by omega),Zi1 (show 256≤x / 256 by omega),Nat.div_div_eq_div_mul]
  have:=hb _ h3
  simp only [Option.bind_some]
  rw [wi64 (x:=((Sort.bitsLen (x / 65536):Nat):Int)) (by omega) (by omega),wi64 (x:=(0:Int) + 16) (by omega) (by omega),wi64 (by omega) (by omega)]
  congr 1
  show _=((Sort.bitsLen (x / 65536) + 8 + 8:Nat):Int)
  omega
theorem Zmo {x y:Nat} (hx:x<2 ^ 64) (hy:y<2 ^ 64):bXor .u64 (x:Int) (y:Int)=((x ^^^ y:Nat):Int):=by
 have h:=Nat.xor_lt_two_pow hx hy
 unfold bXor
 have e:(BitVec.ofInt (IntKind.bits .u64) (x:Int) ^^^ BitVec.ofInt (IntKind.bits .u64) (y:Int)).toNat=x ^^^ y:=by
  rw [BitVec.ofInt_natCast,BitVec.ofInt_natCast]
  show (BitVec.ofNat 64 x ^^^ BitVec.ofNat 64 y).toNat=_
  rw [BitVec.toNat_xor,BitVec.toNat_ofNat,BitVec.toNat_ofNat,Nat.mod_eq_of_lt hx,Nat.mod_eq_of_lt hy]
 rw [e,wu64 (by omega) (by omega)]
theorem Zqj {x y:Nat} (hx:x<2 ^ 64) (hy:y<2 ^ 64):bAnd .u64 (x:Int) (y:Int)=((x &&& y:Nat):Int):=by
 have h:x &&& y<2 ^ 64:=Nat.and_lt_two_pow x hy
 unfold bAnd
 have e:(BitVec.ofInt (IntKind.bits .u64) (x:Int) &&& BitVec.ofInt (IntKind.bits .u64) (y:Int)).toNat=x &&& y:=by
  rw [BitVec.ofInt_natCast,BitVec.ofInt_natCast]
  show (BitVec.ofNat 64 x &&& BitVec.ofNat 64 y).toNat=_
  rw [BitVec.toNat_and,BitVec.toNat_ofNat,BitVec.toNat_ofNat,Nat.mod_eq_of_lt hx,Nat.mod_eq_of_lt hy]
 rw [e,wu64 (by omega) (by omega)]
theorem Zqk (x k:Nat) (hk:k≤64):bShl .u64 (x:Int) (k:Int)=((x * 2 ^ k % 2 ^ 64:Nat):Int):=by
 unfold bShl
 rw [Int.toNat_natCast,show min k (IntKind.bits .u64)=k from Nat.min_eq_left hk,wrap_u .u64 64 rfl rfl]
 rw [Int.natCast_emod,Int.natCast_mul,Int.natCast_pow,Int.natCast_pow]; rfl
theorem Zss {x:Nat} (hx:x<2 ^ 64):Zct (x:Int)=some (((Sort.xorNextN x:Nat):Int),((Sort.xorNextN x:Nat):Int)):=by
 unfold Zct
 have a1:bShl .u64 (x:Int) (13:Int)=((x * 8192 % 18446744073709551616:Nat):Int):=Zqk x 13 (by omega)
 have l1:x * 8192 % 18446744073709551616<2 ^ 64:=by omega
 rw [a1,Zmo hx l1]
 obtain⟨a,ha⟩:∃ a,a=x ^^^ (x * 8192 % 18446744073709551616):=⟨_,rfl⟩
 have l2:a<2 ^ 64:=by rw [ha]; exact Nat.xor_lt_two_pow hx l1
 rw [← ha]
 have a2:bShr .u64 (a:Int) (7:Int)=((a / 128:Nat):Int):=Zjo a 7 (by omega)
 have l3:a / 128<2 ^ 64:=by omega
 rw [a2,Zmo l2 l3]
 obtain⟨b,hb⟩:∃ b,b=a ^^^ (a / 128):=⟨_,rfl⟩
 have l4:b<2 ^ 64:=by rw [hb]; exact Nat.xor_lt_two_pow l2 l3
 rw [← hb]
 have a3:bShl .u64 (b:Int) (17:Int)=((b * 131072 % 18446744073709551616:Nat):Int):=Zqk b 17 (by omega)
 rw [a3,Zmo l4 (by omega)]
 have e:Sort.xorNextN x=b ^^^ (b * 131072 % 18446744073709551616):=by rw [hb,ha]; rfl
 rw [e]
theorem Ztq {a l m idx:Nat} {st:UInt64 × Array Int} {n:Nat} (h:st.2.size=n):(Sort.breakStep a l m st idx).2.size=n:=by
 unfold Sort.breakStep; simp only; rw [swp_sz,h]
theorem Zst {n a b:Nat} (hB:n≤sB) (hb:b≤n) (h8:b - a ≥ 8) {m idx:Nat} {st:UInt64 × Array Int} (hd:st.2.size=n) (h1:a≤idx) (h2:idx<b) (hc:idx≤a + (b - a) / 4 * 2 + 1) :
  Zm n (a:Int) (b:Int) ((1 <<< Sort.bitsLen (b - a):Nat):Int) (m + 1) st.2.toList ((st.1.toNat:Nat):Int) (idx:Int) =
  Zm n (a:Int) (b:Int) ((1 <<< Sort.bitsLen (b - a):Nat):Int) m (Sort.breakStep a (b - a) (1 <<< Sort.bitsLen (b - a)) st idx).2.toList (((Sort.breakStep a (b - a) (1 <<< Sort.bitsLen (b - a)) st idx).1.toNat:Nat):Int) ((idx + 1:Nat):Int):=by
 have hB':=hB
 unfold sB at hB
 obtain⟨r,d⟩:=st
 simp only at hd ⊢
 have hp:2 ^ Sort.bitsLen (b - a)≤2 * (b - a):=Sort.two_pow_bitsLen_le (by omega)
 have hp0:0<2 ^ Sort.bitsLen (b - a):=Nat.pow_pos (by omega)
 rw [Zm]
 have ew:IntKind.wrap .i64 ((b:Int) - (a:Int))=((b - a:Nat):Int):=wsub (by omega) (by omega)
 have eq4:IntKind.wrap .i64 (Int.tdiv ((b - a:Nat):Int) (4:Int))=(((b - a) / 4:Nat):Int):=by
  rw [Int.tdiv_eq_ediv_of_nonneg (by omega),wi64 (by omega) (by omega)]; omega
 have e5:IntKind.wrap .i64 (IntKind.wrap .i64 ((a:Int) + IntKind.wrap .i64 ((((b - a) / 4:Nat):Int) * (2:Int))) + 1)=((a + (b - a) / 4 * 2 + 1:Nat):Int):=by
  rw [wi64 (x:=(((b - a) / 4:Nat):Int) * 2) (by omega) (by omega),wi64 (x:=(a:Int) + (((b - a) / 4:Nat):Int) * 2) (by omega) (by omega),wi64 (by omega) (by omega)]; omega
 rw [ew,eq4,e5,if_pos (decide_eq_true (by omega)),Zss (UInt64.toNat_lt r)]
 simp only [Option.bind_some]
 have hx:=Sort.xorNext_toNat r
 have hxl:=Sort.xorNextN_lt r.toNat (UInt64.toNat_lt r)
 unfold Sort.breakStep
 simp only
 rw [hx]
 rw [Nat.shiftLeft_eq,Nat.one_mul] at *
 generalize Sort.xorNextN r.toNat=x at hxl ⊢
 have em:IntKind.wrap .u64 (((2 ^ Sort.bitsLen (b - a):Nat):Int) - 1)=((2 ^ Sort.bitsLen (b - a) - 1:Nat):Int):=by
  rw [wu64 (by omega) (by omega)]; omega
 rw [em,Zqj hxl (by omega)]
 have ha:x &&& (2 ^ Sort.bitsLen (b - a) - 1)≤2 ^ Sort.bitsLen (b - a) - 1:=Nat.and_le_right
 generalize x &&& (2 ^ Sort.bitsLen (b - a) - 1)=o at ha ⊢
 rw [wi64 (x:=(o:Int)) (by omega) (by omega)]
 have eo:(if (decide ((o:Int) ≥ ((b - a:Nat):Int)))=true then some (IntKind.wrap .i64 ((o:Int) - ((b - a:Nat):Int))) else some (o:Int))=some ((if o ≥ b - a then o - (b - a) else o:Nat):Int):=by
  by_cases h:o ≥ b - a
  ·rw [if_pos (decide_eq_true (by omega)),if_pos h,wsub (by omega) h]
  ·rw [if_neg (by simp; omega),if_neg h]
 rw [eo]
 have ho:(if o ≥ b - a then o - (b - a) else o)<b - a:=by split <;> omega
 generalize (if o ≥ b - a then o - (b - a) else o)=q at ho ⊢
 simp only [Option.bind_some]
 rw [wadd (by omega)]
 obtain⟨y,hy⟩:=Zcx (i:=idx) (x:=d[a + q]!) hd (show a + q<n by omega)
 simp only [Zq hd (show a + q<n by omega),Zq hd (show idx<n by omega),Option.bind_some,Int.toNat_natCast,hy,Zc0]
 rw [wsuc (by omega)]
theorem Zsu {n a b:Nat} (hB:n≤sB) (hb:b≤n) (h8:b - a ≥ 8) {m idx:Nat} {st:UInt64 × Array Int} (hd:st.2.size=n) (hi:idx + 1=a + (b - a) / 4 * 2) (g:Nat→UInt64 × Array Int→UInt64 × Array Int) (hg:g=fun i s=>Sort.breakStep a (b - a) (1 <<< Sort.bitsLen (b - a)) s i) :
  ∃ z,Zm n (a:Int) (b:Int) ((1 <<< Sort.bitsLen (b - a):Nat):Int) (m + 1 + 1 + 1 + 1) st.2.toList ((st.1.toNat:Nat):Int) (idx:Int)=some ((g (idx + 2) (g (idx + 1) (g idx st))).2.toList,z):=by
 have hB':=hB
 unfold sB at hB
 have z:∀ i s,s.2.size=n→(g i s).2.size=n:=fun i s h=>by rw [hg]; exact Ztq h
 have st1:∀ m i s,s.2.size=n→a≤i→i<b→i≤a + (b - a) / 4 * 2 + 1→Zm n (a:Int) (b:Int) ((1 <<< Sort.bitsLen (b - a):Nat):Int) (m + 1) s.2.toList ((s.1.toNat:Nat):Int) (i:Int)=Zm n (a:Int) (b:Int) ((1 <<< Sort.bitsLen (b - a):Nat):Int) m (g i s).2.toList (((g i s).1.toNat:Nat):Int) ((i + 1:Nat):Int):=fun m i s h h1 h2 hc=>by
  rw [hg]; exact Zst hB' hb h8 h h1 h2 hc
 rw [st1 _ _ _ hd (by omega) (by omega) (by omega),st1 _ _ _ (z _ _ hd) (by omega) (by omega) (by omega),st1 _ _ _ (z _ _ (z _ _ hd)) (by omega) (by omega) (by omega)]
 rw [Zm]
 have ew:IntKind.wrap .i64 ((b:Int) - (a:Int))=((b - a:Nat):Int):=wsub (by omega) (by omega)
 have eq4:IntKind.wrap .i64 (Int.tdiv ((b - a:Nat):Int) (4:Int))=(((b - a) / 4:Nat):Int):=by
  rw [Int.tdiv_eq_ediv_of_nonneg (by omega),wi64 (by omega) (by omega)]; omega
 have e6:IntKind.wrap .i64 (IntKind.wrap .i64 ((a:Int) + IntKind.wrap .i64 ((((b - a) / 4:Nat):Int) * (2:Int))) + 1)=((a + (b - a) / 4 * 2 + 1:Nat):Int):=by
  rw [wi64 (x:=(((b - a) / 4:Nat):Int) * 2) (by omega) (by omega),wi64 (x:=(a:Int) + (((b - a) / 4:Nat):Int) * 2) (by omega) (by omega),wi64 (by omega) (by omega)]; omega
 rw [ew,eq4,e6,if_neg (by simp; omega)]
 exact⟨_,rfl⟩
theorem Zmp {n a b:Nat} (hB:n≤1000000) (hb:b≤n) (hab:a≤b) {d:Array Int} (hd:d.size=n) :
  Zat n d.toList (a:Int) (b:Int)=some (Sort.breakPatterns d a b).toList:=by
 have hB':n≤sB:=by unfold sB; omega
 unfold Zat Sort.breakPatterns
 have ew:IntKind.wrap .i64 ((b:Int) - (a:Int))=((b - a:Nat):Int):=wsub (by omega) (by omega)
 rw [ew]
 simp only
 by_cases h8:b - a ≥ 8
 ·rw [if_pos (decide_eq_true (show ((b - a:Nat):Int) ≥ 8 by omega)),if_pos h8]
  unfold Zdg
  rw [wu64 (x:=((b - a:Nat):Int)) (by omega) (by omega),Len_eq (by omega)]
  simp only [Option.bind_some]
  have hp:2 ^ Sort.bitsLen (b - a)≤2 * (b - a):=Sort.two_pow_bitsLen_le (by omega)
  have hl:Sort.bitsLen (b - a)<64:=by
   have:=(Sort.bitsLen_le_iff (b - a) 63).2 (by omega)
   omega
  rw [if_pos (by omega),Zti hl]
  simp only [Option.bind_some]
  have es:((2 ^ Sort.bitsLen (b - a):Nat):Int)=((1 <<< Sort.bitsLen (b - a):Nat):Int):=by rw [Nat.shiftLeft_eq,Nat.one_mul]
  have eq4:IntKind.wrap .i64 (Int.tdiv ((b - a:Nat):Int) (4:Int))=(((b - a) / 4:Nat):Int):=by
   rw [Int.tdiv_eq_ediv_of_nonneg (by omega),wi64 (by omega) (by omega)]; omega
  have e5:IntKind.wrap .i64 (IntKind.wrap .i64 ((a:Int) + IntKind.wrap .i64 ((((b - a) / 4:Nat):Int) * (2:Int))) - 1)=((a + (b - a) / 4 * 2 - 1:Nat):Int):=by
   rw [wi64 (x:=(((b - a) / 4:Nat):Int) * 2) (by omega) (by omega),wi64 (x:=(a:Int) + (((b - a) / 4:Nat):Int) * 2) (by omega) (by omega),wi64 (by omega) (by omega)]; omega
  have eu:((b - a:Nat):Int)=(((UInt64.ofNat (b - a)).toNat:Nat):Int):=by
   rw [UInt64.toNat_ofNat_of_lt' (by show b - a<18446744073709551616; omega)]
  rw [es,eq4,e5]
  have hf:fuel=1180591620717411303420 + 1 + 1 + 1 + 1:=by kernel_rfl
  obtain⟨z,hz⟩:=Zsu (m:=1180591620717411303420) (idx:=a + (b - a) / 4 * 2 - 1) (st:=(UInt64.ofNat (b - a),d)) hB' hb h8 hd (by omega) _ rfl
  rw [← hf] at hz
  simp only at hz
  rw [eu,hz]
  simp only [Option.bind_some]
 ·rw [if_neg (by simp; omega),if_neg h8]
end Go.AM
set_option maxRecDepth 100000
namespace Go.AM
open Go
theorem swo_lt:Sort.SWO Sort.ltInt:=Sort.swo_ltInt
theorem Zun {n a b:Nat} (hab:a≤b) (hb:b≤n) {d:Array Int} (hd:d.size=n):(Sort.insertionSort Sort.ltInt d a b).size=n:=by
 rw [(Sort.insertionSort_holds swo_lt d a b hab (by omega)).1.1,hd]
theorem brk_sz {n a b:Nat} (hab:a≤b) (hb:b≤n) {d:Array Int} (hd:d.size=n):(Sort.breakPatterns d a b).size=n:=by
 rw [(Sort.breakPatterns_holds d a b hab (by omega)).1,hd]
theorem rev_sz {n a b:Nat} (hab:a≤b) (hb:b≤n) {d:Array Int} (hd:d.size=n):(Sort.reverseRange d a b).size=n:=by
 rw [(Sort.reverseRange_holds d a b hab (by omega)).1,hd]
theorem Zop {n a b:Nat}:∀(s i:Nat) (d:Array Int),d.size=n→(Sort.partialIns Sort.ltInt a b s i d).1.size=n
 | 0,_,d,hd=>hd
 | s + 1,i,d,hd=>by
  rw [Sort.partialIns]
  simp only
  split
  ·exact hd
  ·split
   ·exact hd
   ·refine Zop s _ _ ?_
    split
    ·refine Znw _ _ _ ?_ (Nat.le_refl _)
     split
     ·exact Zg1 _ _ (by rw [swp_sz,hd])
     ·rw [swp_sz,hd]
    ·split
     ·exact Zg1 _ _ (by rw [swp_sz,hd])
     ·rw [swp_sz,hd]
theorem Zql {n a b p:Nat} (hp0:a≤p) (hp:p<b) (hb:b≤n) {d:Array Int} (hd:d.size=n) :
  a≤(Sort.partition Sort.ltInt d a b p).1∧(Sort.partition Sort.ltInt d a b p).1<b∧(Sort.partition Sort.ltInt d a b p).2.2.size=n:=by
 obtain⟨h1,h2,h3,_⟩:=Sort.partition_holds Sort.ltInt swo_lt d a b p hp0 hp (by omega)
 exact⟨h1,h2,by rw [h3.1,hd]⟩
theorem Znx {n a b p:Nat} (hp0:a≤p) (hp:p<b) (hb:b≤n) {d:Array Int} (hd:d.size=n) :
  a<(Sort.partitionEqual Sort.ltInt d a b p).1∧(Sort.partitionEqual Sort.ltInt d a b p).1≤b∧(Sort.partitionEqual Sort.ltInt d a b p).2.size=n:=by
 unfold Sort.partitionEqual
 obtain⟨r1,r2,r3,_⟩:=Sort.partEqLoop_spec Sort.ltInt a b _ (a + 1) (b - 1) (Sort.swp d a p) (Nat.le_refl _) (Nat.lt_succ_self a) (by omega) (by omega) (by rw [swp_sz]; omega) (fun t h1 h2=>by omega) (fun t h1 h2=>by omega)
 exact⟨r1,r2,by rw [r3.1,swp_sz,hd]⟩
theorem pdq_sz {n:Nat}:∀(k:Nat) (d:Array Int) (a b limit:Nat) (wb wp:Bool),b - a≤k→d.size=n→a≤b→b≤n→(Sort.pdq Sort.ltInt d a b limit wb wp).size=n:=by
 intro k
 induction k using Nat.strongRecOn with
 | _ k ih=>
 intro d a b limit wb wp hk hd hab hb
 rw [Sort.pdq]
 split
 ·exact Zun hab hb hd
 ·rename_i h12
  split
  ·rw [(Sort.heapSort_holds swo_lt d a b hab (by omega)).1.1,hd]
  ·simp only
   have s1:(if (!wb)=true then Sort.breakPatterns d a b else d).size=n:=by
    split
    ·exact brk_sz hab hb hd
    ·exact hd
   generalize (if (!wb)=true then Sort.breakPatterns d a b else d)=d1 at s1 ⊢
   have hc:=Sort.choosePivot_holds Sort.ltInt d1 a b (by omega)
   generalize Sort.choosePivot Sort.ltInt d1 a b=c at hc ⊢
   have s2:(if c.2=.decreasing then Sort.reverseRange d1 a b else d1).size=n:=by
    split
    ·exact rev_sz hab hb s1
    ·exact s1
   generalize (if c.2=.decreasing then Sort.reverseRange d1 a b else d1)=d2 at s2 ⊢
   have hp:a≤(if c.2=.decreasing then (b - 1) - (c.1 - a) else c.1)∧(if c.2=.decreasing then (b - 1) - (c.1 - a) else c.1)<b:=by split <;> omega
   generalize (if c.2=.decreasing then (b - 1) - (c.1 - a) else c.1)=p at hp ⊢
   generalize (if c.2=.decreasing then Sort.Hint.increasing else c.2)=hint
   have s3:(if (wb && wp && decide (hint=.increasing))=true then Sort.partialInsertionSort Sort.ltInt d2 a b else (d2,false)).1.size=n:=by
    split
    ·exact Zop _ _ _ s2
    ·exact s2
   generalize (if (wb && wp && decide (hint=.increasing))=true then Sort.partialInsertionSort Sort.ltInt d2 a b else (d2,false))=pi at s3 ⊢
   split
   ·exact s3
   ·split
    ·obtain⟨h1,h2,h3⟩:=Znx hp.1 hp.2 hb s3
     rw [dif_pos ⟨h1,h2⟩]
     exact ih _ (by omega) _ _ _ _ _ _ (Nat.le_refl _) h3 h2 hb
    ·obtain⟨h1,h2,h3⟩:=Zql hp.1 hp.2 hb s3
     rw [dif_pos ⟨h1,h2⟩]
     split
     ·exact ih _ (by omega) _ _ _ _ _ _ (Nat.le_refl _) (ih _ (by omega) _ _ _ _ _ _ (Nat.le_refl _) h3 h1 (by omega)) h2 hb
     ·exact ih _ (by omega) _ _ _ _ _ _ (Nat.le_refl _) (ih _ (by omega) _ _ _ _ _ _ (Nat.le_refl _) h3 h2 hb) h1 (by omega)
theorem Ztr (h:Sort.Hint):(hintN h == (2:Int))=decide (h=.decreasing):=by cases h <;> rfl
theorem Zts (h:Sort.Hint):(hintN h == (1:Int))=decide (h=.increasing):=by cases h <;> rfl
theorem pdq_eq {n:Nat} (hB:n≤1000000):∀(k:Nat) (nr m:Nat) (d:Array Int) (a b limit:Nat) (wb wp:Bool),b - a≤k→k≤nr→k<m→d.size=n→a≤b→b≤n→limit<1000 →
  Zad n (Zp nr) m d.toList (a:Int) (b:Int) (limit:Int) wb wp=some (Sort.pdq Sort.ltInt d a b limit wb wp).toList:=by
 have hB':n≤sB:=by unfold sB; omega
 intro k
 induction k using Nat.strongRecOn with
 | _ k ih=>
 intro nr m d a b limit wb wp hk hnr hm hd hab hb hlim
 cases m with
 | zero=>omega
 | succ m=>
 rw [Zad,Sort.pdq]
 have ew:IntKind.wrap .i64 ((b:Int) - (a:Int))=((b - a:Nat):Int):=wsub (by omega) hab
 rw [ew]
 by_cases h12:b - a≤12
 ·rw [if_pos (decide_eq_true (by omega)),if_pos h12,Zmn hB' hb hab hd]; rfl
 ·rw [if_neg (by simp; omega),if_neg h12]
  by_cases hl:limit=0
  ·rw [if_pos (by simp [hl]),if_pos hl,Zq6 hB' (by omega) hb hd]; rfl
  ·rw [if_neg (by simp [hl]),if_neg hl]
   have e1:(if (!wb)=true then (Zat n d.toList (a:Int) (b:Int)).bind fun(r168:(List Int))=>some (r168,(IntKind.wrap .i64 ((limit:Int) - (1:Int)))) else some (d.toList,(limit:Int)))=some ((if (!wb)=true then Sort.breakPatterns d a b else d).toList,((if (!wb)=true then limit - 1 else limit:Nat):Int)):=by
    cases wb with
    | true=>rfl
    | false=>
     simp only [Bool.not_false,if_true]
     rw [Zmp hB hb hab hd,wi64 (by omega) (by omega)]
     simp only [Option.bind_some]
     congr 2; omega
   rw [e1]
   have s1:(if (!wb)=true then Sort.breakPatterns d a b else d).size=n:=by
    split
    ·exact brk_sz hab hb hd
    ·exact hd
   have hlim':(if (!wb)=true then limit - 1 else limit)<1000:=by split <;> omega
   simp only [Option.bind_some]
   generalize (if (!wb)=true then Sort.breakPatterns d a b else d)=d1 at s1 ⊢
   generalize (if (!wb)=true then limit - 1 else limit)=limit' at hlim' ⊢
   rw [Zon hB' (by omega) hb s1]
   simp only [Option.bind_some,Ztr]
   have hc:=Sort.choosePivot_holds Sort.ltInt d1 a b (by omega)
   generalize Sort.choosePivot Sort.ltInt d1 a b=c at hc ⊢
   obtain⟨c1,c2⟩:=c
   simp only at hc ⊢
   have e2:(if decide (c2=Sort.Hint.decreasing)=true then (Zav n d1.toList (a:Int) (b:Int)).bind fun(r181:(List Int))=>some (r181,(IntKind.wrap .i64 ((IntKind.wrap .i64 ((b:Int) - (1:Int))) - (IntKind.wrap .i64 ((c1:Int) - (a:Int))))),(1:Int)) else some (d1.toList,(c1:Int),hintN c2)) =
     some ((if c2=.decreasing then Sort.reverseRange d1 a b else d1).toList,((if c2=.decreasing then (b - 1) - (c1 - a) else c1:Nat):Int),hintN (if c2=.decreasing then Sort.Hint.increasing else c2)):=by
    by_cases h:c2=.decreasing
    ·rw [if_pos (decide_eq_true h),if_pos h,if_pos h,if_pos h,Znv hB' (by omega) hb s1]
     have g1:IntKind.wrap .i64 ((b:Int) - 1)=((b - 1:Nat):Int):=by rw [wi64 (by omega) (by omega)]; omega
     rw [g1,wsub (i:=c1) (j:=a) (by omega) (by omega),wsub (i:=b - 1) (j:=c1 - a) (by omega) (by omega)]
     rfl
    ·rw [if_neg (by simpa using h),if_neg h,if_neg h,if_neg h]
   rw [e2]
   have s2:(if c2=.decreasing then Sort.reverseRange d1 a b else d1).size=n:=by
    split
    ·exact rev_sz hab hb s1
    ·exact s1
   have hp:a≤(if c2=.decreasing then (b - 1) - (c1 - a) else c1)∧(if c2=.decreasing then (b - 1) - (c1 - a) else c1)<b:=by split <;> omega
   simp only [Option.bind_some,Zts]
   generalize (if c2=.decreasing then Sort.reverseRange d1 a b else d1)=d2 at s2 ⊢
   generalize (if c2=.decreasing then (b - 1) - (c1 - a) else c1)=p at hp ⊢
   generalize (if c2=.decreasing then Sort.Hint.increasing else c2)=hint
   have e3:(if (wb && wp && decide (hint=Sort.Hint.increasing))=true then (Zac n d2.toList (a:Int) (b:Int)).bind fun(r199:(Bool × (List Int)))=>if r199.1=true then some (Sum.inr r199.2) else some (Sum.inl r199.2) else some (Sum.inl d2.toList)) =
     some (if (if (wb && wp && decide (hint=.increasing))=true then Sort.partialInsertionSort Sort.ltInt d2 a b else (d2,false)).2=true then Sum.inr (if (wb && wp && decide (hint=.increasing))=true then Sort.partialInsertionSort Sort.ltInt d2 a b else (d2,false)).1.toList else (Sum.inl (if (wb && wp && decide (hint=.increasing))=true then Sort.partialInsertionSort Sort.ltInt d2 a b else (d2,false)).1.toList:List Int ⊕ List Int)):=by
    by_cases h:(wb && wp && decide (hint=.increasing))=true
    ·rw [if_pos h,if_pos h,Zh8 hB' hb (by omega) s2]
     simp only [Option.bind_some]
     split <;> rfl
    ·rw [if_neg h,if_neg h]; rfl
   rw [e3]
   have s3:(if (wb && wp && decide (hint=.increasing))=true then Sort.partialInsertionSort Sort.ltInt d2 a b else (d2,false)).1.size=n:=by
    split
    ·exact Zop _ _ _ s2
    ·exact s2
   simp only [Option.bind_some]
   generalize (if (wb && wp && decide (hint=.increasing))=true then Sort.partialInsertionSort Sort.ltInt d2 a b else (d2,false))=pi at s3 ⊢
   obtain⟨d3,pf⟩:=pi
   simp only at s3 ⊢
   cases pf with
   | true=>rfl
   | false=>
    simp only [Bool.false_eq_true,if_false]
    have e4:((if (decide ((a:Int) > (0:Int)))=true then (idxn n d3.toList (IntKind.wrap .i64 ((a:Int) - (1:Int)))).bind fun(x205:Int)=>(idxn n d3.toList (p:Int)).bind fun(x207:Int)=>(Z0 x205 x207).bind fun(r209:Bool)=>some (!r209) else some false)) =
      some (decide (a > 0) && !Sort.ltInt d3[a - 1]! d3[p]!):=by
     cases a with
     | zero=>rfl
     | succ a=>
      rw [if_pos (decide_eq_true (by omega)),wpred (by omega),Zq s3 (by omega),Zq s3 (by omega)]
      simp only [Option.bind_some,Zdd,Nat.add_sub_cancel,show a + 1 > 0 from Nat.succ_pos a,decide_true,Bool.true_and]
    rw [e4]
    simp only [Option.bind_some]
    by_cases h:(decide (a > 0) && !Sort.ltInt d3[a - 1]! d3[p]!)=true
    ·rw [if_pos h,if_pos h,Zln hB' hb hp.1 hp.2 s3]
     obtain⟨h1,h2,h3⟩:=Znx hp.1 hp.2 hb s3
     generalize Sort.partitionEqual Sort.ltInt d3 a b p=r at h1 h2 h3 ⊢
     obtain⟨mid,d4⟩:=r
     simp only [Option.bind_some] at h1 h2 h3 ⊢
     rw [dif_pos ⟨h1,h2⟩]
     exact ih (b - mid) (by omega) nr m d4 mid b limit' wb wp (Nat.le_refl _) (by omega) (by omega) h3 h2 hb hlim'
    ·rw [if_neg h,if_neg h,Zqi hB' hb hp.1 hp.2 s3]
     obtain⟨h1,h2,h3⟩:=Zql hp.1 hp.2 hb s3
     generalize Sort.partition Sort.ltInt d3 a b p=r at h1 h2 h3 ⊢
     obtain⟨mid,ap,d4⟩:=r
     simp only [Option.bind_some] at h1 h2 h3 ⊢
     rw [dif_pos ⟨h1,h2⟩,wsub (i:=mid) (j:=a) (by omega) h1,wsub (i:=b) (j:=mid) (by omega) (by omega),wsuc (by omega)]
     have e8:IntKind.wrap .i64 (Int.tdiv ((b - a:Nat):Int) (8:Int))=(((b - a) / 8:Nat):Int):=by
      rw [Int.tdiv_eq_ediv_of_nonneg (by omega),wi64 (by omega) (by omega)]; omega
     rw [e8]
     obtain⟨nr',rfl⟩:∃ nr',nr=nr' + 1:=⟨nr - 1,by omega⟩
     have sub:∀(d:Array Int) (x y:Nat),d.size=n→x≤y→y≤n→y - x<k→Zp (nr' + 1) n d.toList (x:Int) (y:Int) (limit':Int)=some (Sort.pdq Sort.ltInt d x y limit' true true).toList:=fun d x y hz hxy hy hlt=>by
      rw [Zp,ih (y - x) hlt nr' fuel d x y limit' true true (Nat.le_refl _) (by omega) (by unfold fuel; omega) hz hxy hy hlim']
      rfl
     by_cases h4:mid - a<b - mid
     ·rw [if_pos (decide_eq_true (by omega)),if_pos h4,sub d4 a mid h3 h1 (by omega) (by omega)]
      simp only [Option.bind_some]
      rw [show decide (((mid - a:Nat):Int) ≥ (((b - a) / 8:Nat):Int))=decide (mid - a ≥ (b - a) / 8) from decide_eq_decide.2 (by omega)]
      exact ih (b - (mid + 1)) (by omega) _ m _ (mid + 1) b limit' _ ap (Nat.le_refl _) (by omega) (by omega) (pdq_sz _ _ _ _ _ _ _ (Nat.le_refl _) h3 h1 (by omega)) h2 hb hlim'
     ·rw [if_neg (by simp; omega),if_neg h4,sub d4 (mid + 1) b h3 h2 hb (by omega)]
      simp only [Option.bind_some]
      rw [show decide (((b - mid:Nat):Int) ≥ (((b - a) / 8:Nat):Int))=decide (b - mid ≥ (b - a) / 8) from decide_eq_decide.2 (by omega)]
      exact ih (mid - a) (by omega) _ m _ a mid limit' _ ap (Nat.le_refl _) (by omega) (by omega) (pdq_sz _ _ _ _ _ _ _ (Nat.le_refl _) h3 h2 hb) h1 (by omega) hlim'
theorem Zuo {l:List Int} (hl:l.length≤1000000):Zb2 l.length l=some (l.mergeSort (fun x y=>decide (x≤y))):=by
 unfold Zb2
 rw [wu64 (by omega) (by omega),Len_eq (by omega)]
 simp only [Option.bind_some]
 have hb:Sort.bitsLen l.length<1000:=by
  have:=(Sort.bitsLen_le_iff l.length 63).2 (by omega)
  omega
 have hf:fuel=1180591620717411303423 + 1:=by kernel_rfl
 have e:=pdq_eq (n:=l.length) hl l.length 1180591620717411303423 fuel l.toArray 0 l.length (Sort.bitsLen l.length) true true (by omega) (by omega) (by unfold fuel; omega) (by simp) (by omega) (Nat.le_refl _) hb
 rw [show (Zp fuel)=Zp (1180591620717411303423 + 1) from by rw [← hf],Zp]
 rw [show ((0:Nat):Int)=0 from rfl,show l.toArray.toList=l from rfl] at e
 rw [e]
 simp only [Option.bind_some]
 rw [← Sort.sortInt l]
 unfold Sort.sort
 rw [show l.toArray.size=l.length from by simp]
end Go.AM
set_option maxRecDepth 100000
namespace Go.AM
open Go
def dd (l:List Int):List Int:=l.foldl (fun acc x=>if acc.getLast? = some x then acc else acc++[x]) []
theorem Zje (l:List Int) (x:Int):dd (l++[x])=if (dd l).getLast? = some x then dd l else dd l++[x]:=by
 unfold dd; rw [List.foldl_append]; rfl
theorem Zip {l:List Int} {k:Nat} (h:k<l.length):l.take (k + 1)=l.take k++[l[k]]:=by
 rw [List.take_add_one,List.getElem?_eq_getElem h]; rfl
theorem Zjp {p:List Int→Prop} (h0:p []) (h1:∀ l x,p l→p (l++[x])) (l:List Int):p l:=by
 have key:∀ n (l:List Int),l.length=n→p l:=by
  intro n
  induction n with
  | zero=>intro l hl; rw [List.length_eq_zero_iff.1 hl]; exact h0
  | succ n ih=>
   intro l hl
   rcases List.eq_nil_or_concat l with rfl | ⟨m,x,rfl⟩
   ·exact h0
   ·rw [List.concat_eq_append] at hl ⊢
    exact h1 _ _ (ih m (by simpa using hl))
 exact key _ l rfl
theorem Zoq (l:List Int):(dd l).getLast? = l.getLast?:=by
 refine Zjp (p:=fun l=>(dd l).getLast? = l.getLast?) rfl (fun l x ih=>?_) l
 rw [Zje]
 split
 ·rename_i h; rw [h]; simp
 ·simp
theorem dd_mem (l:List Int) (z:Int):z∈dd l ↔ z∈l:=by
 refine Zjp (p:=fun l=>z∈dd l ↔ z∈l) (Iff.rfl) (fun l x ih=>?_) l
 rw [Zje]
 split
 ·rename_i h
  have hx:=List.mem_of_getLast? h
  rw [List.mem_append,← ih,List.mem_singleton]
  exact⟨Or.inl,fun h=>h.elim id fun e=>e ▸ hx⟩
 ·rw [List.mem_append,List.mem_append,ih]
theorem dd_len (l:List Int):(dd l).length≤l.length:=by
 refine Zjp (p:=fun l=>(dd l).length≤l.length) (Nat.le_refl _) (fun l x ih=>?_) l
 rw [Zje]
 split <;> simp <;> omega
theorem Zsv (l:List Int):l.Pairwise (·≤·)→(dd l).Pairwise (·<·):=by
 refine Zjp (p:=fun l=>l.Pairwise (·≤·)→(dd l).Pairwise (·<·)) (fun _=>List.Pairwise.nil) (fun l x ih hp=>?_) l
 rw [List.pairwise_append] at hp
 obtain⟨h1,_,h3⟩:=hp
 have hd:=ih h1
 rw [Zje]
 split
 ·exact hd
 ·rename_i hne
  rw [List.pairwise_append]
  refine⟨hd,List.pairwise_singleton _ _,fun a ha b hb=>?_⟩
  rw [List.mem_singleton] at hb
  subst hb
  have hle:=h3 a ((dd_mem l a).1 ha) b (List.mem_singleton.2 rfl)
  rcases Int.lt_or_eq_of_le hle with h | h
  ·exact h
  ·exfalso
   subst h
   rw [Zoq] at hne
   cases hl:l.getLast? with
   | none=>rw [List.getLast?_eq_none_iff] at hl; subst hl; simp [dd] at ha
   | some z=>
    have hz:z∈dd l:=(dd_mem l z).2 (List.mem_of_getLast? hl)
    have hza:=h3 z (List.mem_of_getLast? hl) a (List.mem_singleton.2 rfl)
    have hlast:(dd l).getLast? = some z:=by rw [Zoq,hl]
    have hle2:a≤z:=by
     obtain⟨m,hm⟩:=List.getLast?_eq_some_iff.1 hlast
     rw [hm] at ha hd
     rw [List.mem_append] at ha
     rcases ha with ha | ha
     ·rw [List.pairwise_append] at hd
      exact Int.le_of_lt (hd.2.2 a ha z (List.mem_singleton.2 rfl))
     ·rw [List.mem_singleton] at ha; omega
    have:z=a:=by omega
    subst this
    exact hne hl
theorem Zks {l:List Int} {n i:Nat} (hn:l.length=n) (h:i<n):idxn n l (i:Int)=some (l[i]'(by omega)):=by
 unfold idxn
 rw [if_pos ⟨by omega,by omega⟩,Zao (by omega)]
theorem Zrq {l:List Int} {k:Nat} (h0:0<k) (h:k<l.length):dd (l.take (k + 1))=if l[k - 1]=l[k] then dd (l.take k) else dd (l.take k)++[l[k]]:=by
 rw [Zip h,Zje,Zoq]
 have:(l.take k).getLast? = some (l[k - 1]):=by
  obtain⟨k,rfl⟩:∃ k',k=k' + 1:=⟨k - 1,by omega⟩
  rw [Zip (by omega),List.getLast?_append]; simp
 rw [this]
 simp only [Option.some.injEq]
theorem Ztt {l:List Int} {n v1:Nat} (hn:l.length=n) (hB:n≤1000000) (h1:0<v1) (hv:v1<n):∀(k i w m:Nat) (v:List Int),v.length=n→n - (v1 + i)=k→k<m→0<i→v1 + i≤n→w≤v1 + i - 1 →
  v.take w=dd (l.take (v1 + i))→v.drop (v1 + i - 1)=l.drop (v1 + i - 1) →
  ∃ v' w',Zaq n (v1:Int) m v (w:Int) (i:Int)=some (v',((w':Nat):Int))∧v'.length=n∧w'≤n∧v'.take w'=dd l:=by
 intro k
 induction k with
 | zero=>
  intro i w m v hl hk hm hi hle hw ht hdr
  cases m with
  | zero=>omega
  | succ m=>
  rw [Zaq]
  simp only [Int.toNat_natCast]
  rw [if_neg (by simp; omega)]
  refine⟨v,w,rfl,hl,by omega,?_⟩
  rw [ht,List.take_of_length_le (by omega)]
 | succ k ih=>
  intro i w m v hl hk hm hi hle hw ht hdr
  cases m with
  | zero=>omega
  | succ m=>
  have gt:∀ q,v1 + i - 1≤q→(hq:q<n)→v[q]'(by omega)=l[q]'(by omega):=fun q hq1 hq=>by
   have h2:(v.drop (v1 + i - 1))[q - (v1 + i - 1)]? = (l.drop (v1 + i - 1))[q - (v1 + i - 1)]?:=by rw [hdr]
   rw [List.getElem?_drop,List.getElem?_drop,show v1 + i - 1 + (q - (v1 + i - 1))=q by omega,List.getElem?_eq_getElem (by omega),List.getElem?_eq_getElem (by omega)] at h2
   exact Option.some.inj h2
  have iv:∀ q:Nat,(hq:v1 + q<n)→idxv (n - v1) v (v1:Int) (q:Int)=some (v[v1 + q]'(by omega)):=fun q hq=>by
   unfold idxv
   rw [if_pos ⟨by omega,by omega⟩,show (v1:Int) + (q:Int)=((v1 + q:Nat):Int) by omega,Zao (by omega)]
  have hx:=gt (v1 + i) (by omega) (by omega)
  have hy:=gt (v1 + i - 1) (Nat.le_refl _) (by omega)
  obtain⟨i',rfl⟩:∃ i',i=i' + 1:=⟨i - 1,by omega⟩
  have hy':v[v1 + i']'(by omega)=l[v1 + i']'(by omega):=hy
  have ds:=Zrq (l:=l) (k:=v1 + (i' + 1)) (by omega) (by omega)
  rw [Zaq]
  simp only [Int.toNat_natCast]
  rw [if_pos (decide_eq_true (by omega)),iv (i' + 1) (by omega),wpred (by omega),iv i' (by omega)]
  simp only [Option.bind_some,hx,hy']
  simp only [show v1 + (i' + 1) - 1=v1 + i' by omega] at ds
  by_cases he:l[v1 + (i' + 1)]'(by omega)=l[v1 + i']'(by omega)
  ·rw [if_neg (by simp [he])]
   simp only [Option.bind_some]
   rw [wsuc (by omega)]
   refine ih (i' + 1 + 1) w m v hl (by omega) (by omega) (by omega) (by omega) (by omega) ?_ ?_
   ·rw [ht,show v1 + (i' + 1 + 1)=v1 + (i' + 1) + 1 by omega,ds,if_pos he.symm]
   ·rw [show v1 + (i' + 1 + 1) - 1=(v1 + (i' + 1) - 1) + 1 by omega,← List.drop_drop,← List.drop_drop,hdr]
  ·rw [if_pos (by simpa using he),Zks hl (show w<n by omega)]
   simp only [Option.bind_some]
   rw [wsuc (by omega),wsuc (by omega)]
   refine ih (i' + 1 + 1) (w + 1) m _ (by rw [List.length_set,hl]) (by omega) (by omega) (by omega) (by omega) (by omega) ?_ ?_
   ·rw [show v1 + (i' + 1 + 1)=v1 + (i' + 1) + 1 by omega,ds,if_neg (fun h=>he h.symm),← ht]
    rw [Zip (by rw [List.length_set]; omega),List.getElem_set_self,List.take_set_of_le (Nat.le_refl _)]
   ·rw [show v1 + (i' + 1 + 1) - 1=v1 + (i' + 1) by omega,List.drop_set_of_lt (by omega)]
    rw [show v1 + (i' + 1)=(v1 + (i' + 1) - 1) + 1 by omega,← List.drop_drop,← List.drop_drop,hdr]
theorem Ztu {l:List Int} {n:Nat} (hn:l.length=n) (hB:n≤1000000):∀(k i m:Nat),n - i=k→k<m→0<i→i≤n→dd (l.take i)=l.take i →
  ∃ o,Zar n l m (i:Int)=some o∧((o=.inl ()∧dd l=l)∨∃ w v,o=.inr (w,v)∧v.length=n∧w≤n∧v.take w=dd l):=by
 intro k
 induction k with
 | zero=>
  intro i m hk hm h0 hi hd
  cases m with
  | zero=>omega
  | succ m=>
  rw [Zar,if_neg (by simp; omega)]
  rw [List.take_of_length_le (by omega)] at hd
  exact⟨_,rfl,Or.inl ⟨rfl,hd⟩⟩
 | succ k ih=>
  intro i m hk hm h0 hi hd
  cases m with
  | zero=>omega
  | succ m=>
  have ds:=Zrq (l:=l) h0 (by omega)
  rw [Zar,if_pos (decide_eq_true (by omega)),Zks hn (show i<n by omega)]
  obtain⟨i',rfl⟩:∃ i',i=i' + 1:=⟨i - 1,by omega⟩
  rw [wpred (by omega),Zks hn (show i'<n by omega)]
  simp only [Option.bind_some,Nat.add_sub_cancel] at ds ⊢
  by_cases he:l[i' + 1]'(by omega)=l[i']'(by omega)
  ·rw [if_pos (by simpa using he),if_pos ⟨by omega,by omega,by omega⟩]
   obtain⟨v,w,e,g1,g2,g3⟩:=Ztt hn hB (show 0<i' + 1 by omega) (by omega) (n - (i' + 1 + 1)) 1 (i' + 1) fuel l hn rfl (by unfold fuel; omega) (by omega) (by omega) (by omega) (by rw [ds,if_pos he.symm,hd]) rfl
   rw [show ((1:Nat):Int)=1 from rfl] at e
   rw [e]
   simp only [Option.bind_some,Int.toNat_natCast]
   rw [if_pos ⟨by omega,by omega,by omega⟩,if_pos (by omega),if_pos ⟨by omega,by omega,by omega⟩]
   refine⟨_,rfl,Or.inr ⟨w,_,rfl,?_,g2,?_⟩⟩
   ·simp only [List.length_append,List.length_take,List.length_replicate,List.length_drop]; omega
   ·rw [List.append_assoc,List.take_append_of_le_length (by rw [List.length_take]; omega),List.take_take,Nat.min_self,g3]
  ·rw [if_neg (by simpa using he),wsuc (by omega)]
   refine ih (i' + 1 + 1) m (by omega) (by omega) (by omega) (by omega) ?_
   rw [ds,if_neg (fun h=>he h.symm),hd,← Zip]
theorem Zsa {l:List Int} (hB:l.length≤1000000):∃ w v,Zbs l.length l=some (w,v)∧v.length=l.length∧w≤l.length∧v.take w=dd l:=by
 unfold Zbs
 by_cases h:l.length<2
 ·rw [if_pos (decide_eq_true (by omega))]
  refine⟨_,_,rfl,rfl,Nat.le_refl _,?_⟩
  rw [List.take_length]
  rcases l with _ | ⟨a,_ | ⟨b,l⟩⟩
  ·rfl
  ·rfl
  ·simp at h; omega
 ·rw [if_neg (by simp; omega)]
  have h1:dd (l.take 1)=l.take 1:=by
   rcases l with _ | ⟨a,l⟩
   ·rfl
   ·rfl
  obtain⟨o,e,ho⟩:=Ztu rfl hB (l.length - 1) 1 fuel rfl (by unfold fuel; omega) (by omega) (by omega) h1
  rw [show ((1:Nat):Int)=1 from rfl] at e
  rw [e]
  rcases ho with ⟨rfl,hd⟩ | ⟨w,v,rfl,g1,g2,g3⟩
  ·exact⟨_,_,rfl,rfl,Nat.le_refl _,by rw [List.take_length,hd]⟩
  ·exact⟨w,v,rfl,g1,g2,g3⟩
end Go.AM
set_option maxRecDepth 100000
namespace Go.AM
open Go
def hv (h:Znd):Arr5 Int:=⟨h.Src,h.Dst,h.Proto,h.SrcPort,h.DstPort⟩
end Go.AM
set_option maxRecDepth 100000
namespace Go.AM
open Go
def hdr (v:Arr5 Int):Znd:=⟨v.x0,v.x1,v.x2,v.x3,v.x4⟩
structure VOk (v:Arr5 Int):Prop where
 h0:0≤v.x0∧v.x0≤4294967295
 h1:0≤v.x1∧v.x1≤4294967295
 h2:0≤v.x2∧v.x2≤255
 h3:0≤v.x3∧v.x3≤65535
 h4:0≤v.x4∧v.x4≤65535
theorem VOk.set {v:Arr5 Int} (h:VOk v) {k x:Int} (h0:0≤k) (h1:k<5) (hx0:0≤x) (hx:x≤topOf k):VOk (v.set k x):=by
 obtain⟨g0,g1,g2,g3,g4⟩:=h
 rcases five h0 h1 with rfl | rfl | rfl | rfl | rfl
 ·exact⟨⟨hx0,hx⟩,g1,g2,g3,g4⟩
 ·exact⟨g0,⟨hx0,hx⟩,g2,g3,g4⟩
 ·exact⟨g0,g1,⟨hx0,hx⟩,g3,g4⟩
 ·exact⟨g0,g1,g2,⟨hx0,hx⟩,g4⟩
 ·exact⟨g0,g1,g2,g3,⟨hx0,hx⟩⟩
theorem VOk.get {v:Arr5 Int} (h:VOk v) {k:Int} (h0:0≤k) (h1:k<5):0≤v.get k∧v.get k≤topOf k:=by
 obtain⟨g0,g1,g2,g3,g4⟩:=h
 rcases five h0 h1 with rfl | rfl | rfl | rfl | rfl
 ·exact g0
 ·exact g1
 ·exact g2
 ·exact g3
 ·exact g4
theorem vB_get {b:Arr5 Zb} (h:BIn b) (hv:vB b=true) {k:Int} (h0:0≤k) (h1:k<5):0≤(b.get k).Lo∧(b.get k).Lo≤(b.get k).Hi∧(b.get k).Hi≤topOf k:=by
 obtain⟨g0,g1,g2,g3,g4⟩:=vB_ok h hv
 rcases five h0 h1 with rfl | rfl | rfl | rfl | rfl
 ·exact⟨g0.h0,g0.h1,g0.h2⟩
 ·exact⟨g1.h0,g1.h1,g1.h2⟩
 ·exact⟨g2.h0,g2.h1,g2.h2⟩
 ·exact⟨g3.h0,g3.h1,g3.h2⟩
 ·exact⟨g4.h0,g4.h1,g4.h2⟩
theorem Ztv {k:Int} (h0:0≤k) (h1:k<5):0≤topOf k∧topOf k≤4294967295:=by
 rcases five h0 h1 with rfl | rfl | rfl | rfl | rfl <;> decide
end Go.AM
set_option maxRecDepth 100000
namespace Go.AM
open Go
abbrev Bx:=Arr5 Zb
def toL (b:Bx):List Zb:=[b.x0,b.x1,b.x2,b.x3,b.x4]
def sf (f:Nat) (b:Bx):List Zb:=(toL b).drop f
def zr:Zb:=⟨0,0⟩
def ofL:List Zb→Bx
 | [a,b,c,d,e]=>⟨a,b,c,d,e⟩
 | _=>⟨zr,zr,zr,zr,zr⟩
def pad (f:Nat) (l:List Zb):Bx:=ofL (List.replicate f zr++l)
def tops5:List Int:=[4294967295,4294967295,255,65535,65535]
theorem fiveN {f:Nat} (h:f<5):f=0∨f=1∨f=2∨f=3∨f=4:=by omega
theorem Zgi {f:Nat} (h:f<5) (b:Bx):sf f b=b.get (f:Int) :: sf (f + 1) b:=by
 rcases fiveN h with rfl | rfl | rfl | rfl | rfl <;> rfl
theorem sf_len {f:Nat} (h:f≤5) (b:Bx):(sf f b).length=5 - f:=by unfold sf toL; rw [List.length_drop]; rfl
theorem Ziq {f:Nat} (h:f<5):tops5.drop f=topOf (f:Int) :: tops5.drop (f + 1):=by
 rcases fiveN h with rfl | rfl | rfl | rfl | rfl <;> rfl
theorem len4 {l:List Zb} {n:Nat} (h:l.length=n):match n with
  | 0=>l=[]
  | 1=>∃ a,l=[a]
  | 2=>∃ a b,l=[a,b]
  | 3=>∃ a b c,l=[a,b,c]
  | 4=>∃ a b c d,l=[a,b,c,d]
  | 5=>∃ a b c d e,l=[a,b,c,d,e]
  | _=>True:=by
 subst h
 rcases l with _ | ⟨a,_ | ⟨b,_ | ⟨c,_ | ⟨d,_ | ⟨e,_ | ⟨g,l⟩⟩⟩⟩⟩⟩
 ·exact rfl
 ·exact⟨_,rfl⟩
 ·exact⟨_,_,rfl⟩
 ·exact⟨_,_,_,rfl⟩
 ·exact⟨_,_,_,_,rfl⟩
 ·exact⟨_,_,_,_,_,rfl⟩
 ·exact trivial
theorem Zkw {f:Nat} (h:f<5) {l:List Zb} (hl:l.length=4 - f) (r:Zb):(pad (f + 1) l).set (f:Int) r=pad f (r :: l):=by
 have h1:=len4 hl
 rcases fiveN h with rfl | rfl | rfl | rfl | rfl
 ·obtain⟨a,b,c,d,rfl⟩:=h1; rfl
 ·obtain⟨a,b,c,rfl⟩:=h1; rfl
 ·obtain⟨a,b,rfl⟩:=h1; rfl
 ·obtain⟨a,rfl⟩:=h1; rfl
 ·cases h1; rfl
theorem Zrr {l:List Zb} (h:l.length=5):toL (ofL l)=l:=by
 obtain⟨a,b,c,d,e,rfl⟩:=len4 h
 rfl
theorem Zkx (b:Bx):ofL (toL b)=b:=rfl
theorem sf_pad {f:Nat} (h:f≤5) {l:List Zb} (hl:l.length=5 - f):sf f (pad f l)=l:=by
 unfold sf pad
 rw [Zrr (by simp; omega),List.drop_left' (by simp)]
theorem Zup {b b':Bx} (h:toL b=toL b'):b=b':=by rw [← Zkx b,h,Zkx]
instance decBx:DecidableEq Bx:=fun a b=>if h:toL a=toL b then .isTrue (Zup h) else .isFalse fun e=>h (by rw [e])
theorem eq_rg (a b:Zb):Zb7 a b=decide (a=b):=by
 obtain⟨a1,a2⟩:=a
 obtain⟨b1,b2⟩:=b
 simp only [Zb7,Bool.and_true,Zb.mk.injEq]
 rw [Bool.eq_iff_iff]; simp
theorem eq_bx (a b:Bx):Zdq a b=decide (a=b):=by
 obtain⟨a0,a1,a2,a3,a4⟩:=a
 obtain⟨b0,b1,b2,b3,b4⟩:=b
 simp only [Zdq,Bool.and_true,eq_rg,Arr5.mk.injEq]
 rw [Bool.eq_iff_iff]; simp
theorem Zmq {α:Type} [DecidableEq α]:∀(l pre b:List α),l.length + pre.length=b.length→findI (fun i x=>if b[i]? = some x then none else some false) pre.length l=if l=b.drop pre.length then none else some false
 | [],pre,b,h=>by simp at h; rw [h]; simp [findI]
 | x :: l,pre,b,h=>by
  simp only [List.length_cons] at h
  have hi:pre.length<b.length:=by omega
  rw [List.drop_eq_getElem_cons hi]
  simp only [findI,List.getElem?_eq_getElem hi,List.cons.injEq,Option.some.injEq]
  by_cases e:b[pre.length]=x
  ·rw [if_pos e]
   simp only [e,true_and]
   have:=Zmq l (pre++[x]) b (by simp; omega)
   simp only [List.length_append,List.length_singleton] at this
   exact this
  ·rw [if_neg e,if_neg (fun h=>e h.1.symm)]
theorem Zqm {a b:List Bx} (ha:a.length≤1000000000000):Za1 a b=some (decide (a=b)):=by
 unfold Za1
 by_cases hl:a.length=b.length
 ·rw [if_neg (by simp [hl])]
  rw [Zin (L:=Zap a b) a (fun i x=>if b[i]? = some x then none else some false) ha (fun n i hi=>by
   have hj:i<b.length:=by omega
   rw [Zap]
   simp only [show ((i:Int)<(a.length:Int)) from by omega,decide_true,if_true,Zao hi,Zao hj,Option.bind_some,eq_bx,wsucc (by omega:i<1000000000001),List.getElem?_eq_getElem hj,Option.some.injEq]
   by_cases e:a[i]=b[i]
   ·simp [e]
   ·rw [if_neg (show ¬ b[i]=a[i] from fun h=>e h.symm)]; simp [e]) (fun n=>by rw [Zap]; simp)]
  have:=Zmq a [] b (by simpa using hl)
  simp only [List.length_nil,List.drop_zero] at this
  rw [this]
  by_cases e:a=b
  ·simp [e,orS]
  ·simp [e,orS]
 ·rw [if_pos (by simp; omega)]
  rw [decide_eq_false (fun e=>hl (by rw [e]))]
theorem Zrs {a b:List Bx} (ha:a.length≤1000000000000):Zd9 a b=some (decide (a=b)):=by
 unfold Zd9
 by_cases hl:a.length=b.length
 ·rw [if_neg (by simp [hl])]
  rw [Zin (L:=Zco a b) a (fun i x=>if b[i]? = some x then none else some false) ha (fun n i hi=>by
   have hj:i<b.length:=by omega
   rw [Zco]
   simp only [show ((i:Int)<(a.length:Int)) from by omega,decide_true,if_true,Zao hi,Zao hj,Option.bind_some,eq_bx,wsucc (by omega:i<1000000000001),List.getElem?_eq_getElem hj,Option.some.injEq]
   by_cases e:a[i]=b[i]
   ·simp [e]
   ·rw [if_neg (show ¬ b[i]=a[i] from fun h=>e h.symm)]; simp [e]) (fun n=>by rw [Zco]; simp)]
  have:=Zmq a [] b (by simpa using hl)
  simp only [List.length_nil,List.drop_zero] at this
  rw [this]
  by_cases e:a=b
  ·simp [e,orS]
  ·simp [e,orS]
 ·rw [if_pos (by simp; omega)]
  rw [decide_eq_false (fun e=>hl (by rw [e]))]
def cov (a:List Bx) (f v:Int):List Bx:=a.filter fun b=>inR v (b.get f)
theorem Zg3 {α:Type} (p:α→Bool):∀(l acc:List α) (i:Nat),foldI (fun s _ x=>if p x=true then s++[x] else s) acc i l=acc++l.filter p
 | [],acc,i=>by simp [foldI]
 | x :: xs,acc,i=>by
  simp only [foldI,List.filter_cons]
  rw [Zg3 p xs]
  cases p x <;> simp
theorem inR_eq (v:Int) (r:Zb):inR v r=(decide (r.Lo≤v) && decide (v≤r.Hi)):=rfl
theorem Zlw {a:List Bx} (ha:a.length≤2000000000) {f:Int} (h0:0≤f) (h1:f<5) (v:Int):Zcn a f v=some (cov a f v):=by
 unfold Zcn
 have:=Zd8 (L:=Zbp a f v) a (fun s _ x=>if inR v (x.get f)=true then s++[x] else s) id (fun i s=>s.length≤i) (by omega) (fun n s i hi hs=>by
  rw [Zbp]
  simp only [show ((i:Int)<(a.length:Int)) from by omega,decide_true,if_true,Zao hi,Option.bind_some,wsucc (by omega:i<1000000000001),List.length_singleton]
  rw [if_pos ⟨h0,h1⟩,inR_eq]
  rw [if_pos (show s.length + 1≤lim by unfold lim; omega)]
  cases decide (((a[i]).get f).Lo≤v) <;> cases decide (v≤((a[i]).get f).Hi) <;> simp [h0,h1] <;> omega) (fun n s hs=>by rw [Zbp]; simp) [] (Nat.le_refl _)
 rw [this.1,Zg3]
 rfl
theorem at_eq {a:List Bx} (ha:a.length≤2000000000) {f:Int} (h0:0≤f) (h1:f<5) (v:Int) (hin:∀ b∈a,BIn b):Ze7 a f v=some (cov a f v):=by
 unfold Ze7
 have:=Zd8 (L:=Zc5 a f v) a (fun s _ x=>if inR v (x.get f)=true then s++[x] else s) id (fun i s=>s.length≤i) (by omega) (fun n s i hi hs=>by
  rw [Zc5]
  have hb:=(hin _ (List.getElem_mem hi)).get f
  have e1:IntKind.wrap .u64 ((a[i]).get f).Lo=((a[i]).get f).Lo:=wu64 hb.h0 (by have:=hb.h1; omega)
  have e2:IntKind.wrap .u64 ((a[i]).get f).Hi=((a[i]).get f).Hi:=wu64 hb.h2 (by have:=hb.h3; omega)
  simp only [show ((i:Int)<(a.length:Int)) from by omega,decide_true,if_true,Zao hi,Option.bind_some,wsucc (by omega:i<1000000000001),List.length_singleton,e1,e2]
  rw [if_pos ⟨h0,h1⟩,inR_eq]
  rw [if_pos (show s.length + 1≤lim by unfold lim; omega)]
  cases decide (((a[i]).get f).Lo≤v) <;> cases decide (v≤((a[i]).get f).Hi) <;> simp [h0,h1] <;> omega) (fun n s hs=>by rw [Zc5]; simp) [] (Nat.le_refl _)
 rw [this.1,Zg3]
 rfl
theorem Zrt {f:Nat} (h:f<5) (a:List Bx) (v:Int):(cov a (f:Int) v).map (sf (f + 1))=atv (a.map (sf f)) v:=by
 induction a with
 | nil=>rfl
 | cons b a ih=>
  have e:atv ((b :: a).map (sf f)) v=(if inR v (b.get (f:Int)) then [sf (f + 1) b] else [])++atv (a.map (sf f)) v:=by
   rw [List.map_cons,Zgi h]; rfl
  rw [e,← ih]
  unfold cov
  rw [List.filter_cons]
  cases inR v (b.get (f:Int)) <;> simp
theorem Zky (a:List Bx) (f v:Int):(cov a f v).length≤a.length:=List.length_filter_le ..
theorem Zuq {a:List Bx} {f v:Int} {b:Bx} (h:b∈cov a f v):b∈a:=(List.mem_filter.1 h).1
theorem Zpb (b:Bx):Zbw b=some (!vB b):=by
 unfold Zbw; rw [Ztk]; rfl
theorem Zsw {a:List Bx} (ha:a.length≤2000000000):Zes a=some (a.filter vB):=by
 unfold Zes
 have:=Zd8 (L:=Zci a) a (fun s _ x=>if vB x=true then s++[x] else s) id (fun i s=>s.length≤i) (by omega) (fun n s i hi hs=>by
  rw [Zci]
  simp only [show ((i:Int)<(a.length:Int)) from by omega,decide_true,if_true,Zao hi,Option.bind_some,wsucc (by omega:i<1000000000001),List.length_singleton,Zo9]
  rw [if_pos (show s.length + 1≤lim by unfold lim; omega)]
  cases vB a[i] <;> simp <;> omega) (fun n s hs=>by rw [Zci]; simp) [] (Nat.le_refl _)
 rw [this.1,Zg3]
 rfl
theorem Zmr {α:Type} {l:List α} {n i:Nat} (hn:l.length=n) (h:i<n):idxn n l (i:Int)=some (l[i]'(by omega)):=by
 unfold idxn
 rw [if_pos ⟨by omega,by omega⟩,Zao (by omega)]
theorem Ztw {l:List Bx} {n:Nat} (hn:l.length=n) (hB:n≤2000000000):∀(k j w m:Nat) (v:List Bx),n - j=k→k<m→v.length=n→w<j→j≤n→v.take w=(l.take j).filter vB→v.drop j=l.drop j →
  ∃ v' w',Zs n m v (w:Int) (j:Int)=some (v',((w':Nat):Int))∧v'.length=n∧w'≤n∧v'.take w'=l.filter vB:=by
 intro k
 induction k with
 | zero=>
  intro j w m v hk hm hv hw hj ht hd
  cases m with
  | zero=>omega
  | succ m=>
  rw [Zs,if_neg (by simp; omega)]
  refine⟨v,w,rfl,hv,by omega,?_⟩
  rw [ht,List.take_of_length_le (by omega)]
 | succ k ih=>
  intro j w m v hk hm hv hw hj ht hd
  cases m with
  | zero=>omega
  | succ m=>
  have hjn:j<n:=by omega
  have hx:v[j]'(by omega)=l[j]'(by omega):=by
   have h2:(v.drop j)[0]? = (l.drop j)[0]?:=by rw [hd]
   rw [List.getElem?_drop,List.getElem?_drop,Nat.add_zero,List.getElem?_eq_getElem (by omega),List.getElem?_eq_getElem (by omega)] at h2
   exact Option.some.inj h2
  have tk:(l.take (j + 1)).filter vB=(l.take j).filter vB++if vB (l[j]'(by omega))=true then [l[j]'(by omega)] else []:=by
   rw [List.take_add_one,List.getElem?_eq_getElem (by omega),List.filter_append]
   congr 1
   simp only [Option.toList_some,List.filter_cons,List.filter_nil]
  rw [Zs]
  rw [if_pos (decide_eq_true (by omega)),Zmr hv hjn]
  simp only [Option.bind_some,Zpb,hx,Bool.not_not]
  by_cases hval:vB (l[j]'(by omega))=true
  ·rw [if_pos hval,Zmr hv (by omega:w<n)]
   simp only [Option.bind_some,Int.toNat_natCast]
   rw [wsuc (by omega),wsuc (by omega)]
   refine ih (j + 1) (w + 1) m _ (by omega) (by omega) (by rw [List.length_set]; exact hv) (by omega) (by omega) ?_ ?_
   ·rw [tk,if_pos hval,← ht,List.take_add_one,List.getElem?_eq_getElem (by rw [List.length_set]; omega),List.getElem_set_self,List.take_set_of_le (Nat.le_refl _)]
    rfl
   ·rw [List.drop_set_of_lt (by omega),← List.drop_drop,hd,List.drop_drop]
  ·rw [if_neg hval]
   simp only [Option.bind_some]
   rw [wsuc (by omega)]
   refine ih (j + 1) w m v (by omega) (by omega) hv (by omega) (by omega) ?_ ?_
   ·rw [tk,if_neg hval,List.append_nil,ht]
   ·rw [← List.drop_drop,hd,List.drop_drop]
theorem Zlx {α:Type} (p:α→Bool):∀(l:List α) (i:Nat),(findI (fun i x=>if p x=true then some ((i:Nat):Int) else none) i l=none∧∀ x∈l,p x=false) ∨
  ∃ j,findI (fun i x=>if p x=true then some ((i:Nat):Int) else none) i l=some ((i + j:Nat):Int)∧∃ h:j<l.length,p l[j]=true∧∀ x∈l.take j,p x=false
 | [],i=>Or.inl ⟨rfl,fun _ h=>(by cases h)⟩
 | x :: l,i=>by
  by_cases hx:p x=true
  ·exact Or.inr ⟨0,by simp only [findI,if_pos hx]; rfl,by simp,hx,fun _ h=>(by cases h)⟩
  ·rcases Zlx p l (i + 1) with ⟨h1,h2⟩ | ⟨j,h1,h2,h3,h4⟩
   ·refine Or.inl ⟨by simp only [findI,if_neg hx,h1],fun y hy=>?_⟩
    rcases List.mem_cons.1 hy with rfl | hy
    ·simpa using hx
    ·exact h2 y hy
   ·refine Or.inr ⟨j + 1,by simp only [findI,if_neg hx,h1]; rw [show i + 1 + j=i + (j + 1) by omega],by simp only [List.length_cons]; omega,by simpa using h3,fun y hy=>?_⟩
    rw [List.take_succ_cons] at hy
    rcases List.mem_cons.1 hy with rfl | hy
    ·simpa using hx
    ·exact h4 y hy
theorem del_eq {l:List Bx} (hB:l.length≤2000000000):∃ w v,Zaj l.length l=some (w,v)∧v.length=l.length∧w≤l.length∧v.take w=l.filter vB:=by
 unfold Zaj Za7
 rw [Zin (L:=Zu l.length l) l (fun i x=>if (!vB x)=true then some ((i:Nat):Int) else none) (by omega) (fun n i hi=>by
  rw [Zu]
  simp only [show ((i:Int)<(l.length:Int)) from by omega,decide_true,if_true,Zmr rfl hi,Option.bind_some,Zpb,wsucc (by omega:i<1000000000001)]
  cases vB l[i] <;> rfl) (fun n=>by rw [Zu]; simp)]
 rcases Zlx (fun x=>!vB x) l 0 with ⟨h1,h2⟩ | ⟨j,h1,h2,h3,h4⟩
 ·rw [h1]
  simp only [orS,Option.bind_some]
  rw [if_pos (by decide)]
  refine⟨_,_,rfl,rfl,Nat.le_refl _,?_⟩
  rw [List.take_length,List.filter_eq_self.2 fun x hx=>by simpa using h2 x hx]
 ·rw [h1]
  simp only [orS,Option.bind_some]
  rw [if_neg (by simp),Nat.zero_add,wsuc (by omega)]
  have tk:(l.take j).filter vB=l.take j:=List.filter_eq_self.2 fun x hx=>by simpa using h4 x hx
  obtain⟨v,w,e,g1,g2,g3⟩:=Ztw rfl hB (l.length - (j + 1)) (j + 1) j fuel l rfl (by unfold fuel; omega) rfl (by omega) (by omega) (by
   rw [List.take_add_one,List.filter_append,List.getElem?_eq_getElem h2,tk]
   have:vB l[j]=false:=by simpa using h3
   simp [this]) rfl
  rw [e]
  simp only [Option.bind_some,Int.toNat_natCast]
  rw [if_pos ⟨by omega,by omega,by omega⟩,if_pos (by omega),if_pos ⟨by omega,by omega,by omega⟩]
  refine⟨_,_,rfl,?_,g2,?_⟩
  ·simp only [List.length_append,List.length_take,List.length_replicate,List.length_drop]; omega
  ·rw [List.append_assoc,List.take_append_of_le_length (by rw [List.length_take]; omega),List.take_take,Nat.min_self,g3]
theorem Zpc {l:List Bx} (hB:l.length≤2000000000):Zda l=some (l.filter vB):=by
 unfold Zda
 rw [if_pos (by unfold lim; omega)]
 cases l with
 | nil=>rfl
 | cons b l=>
  obtain⟨w,v,e,g1,g2,g3⟩:=del_eq hB
  rw [e]
  simp only [handB,Option.bind_some]
  rw [if_pos ⟨g1,by omega⟩]
  simp only [Option.bind_some,g3]
end Go.AM

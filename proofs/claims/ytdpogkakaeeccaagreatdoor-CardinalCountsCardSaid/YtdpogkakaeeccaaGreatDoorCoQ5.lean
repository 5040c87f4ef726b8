/- Parts of a proof, printed short. No condition. -/
import Derived.Test.YtdpogkakaeeccaaGreatDoorProg
import Derived.Sort.AssemblyPlain
import Derived.Test.YtdpogkakaeeccaaGreatDoorCoQ4
set_option maxRecDepth 100000
namespace Go.AM
open Go Go.Proofs
def Zoz (r:Int):PV→List Blk→Prop:=fun p K=>p=(i64 r)∧K=[]
theorem Zo0 (a:Int) (r:Int) (hF:Zgx a=some r):ACall Tryz.prog glob 96 [(u64 a)] [] (Zoz r):=by
 refine ACall.body Tryz.func96 rfl (by kernel_rfl) ?_
 unfold Zgx at hF
 refine AWP.seq (AWP.rg0 [] [(0,(u64 a)),(2,(i64 (0:Int)))] ?_)
 obtain⟨j,k,hF⟩:=bindb hF
 refine AWP.seq ?_
 refine AWP.mid (fun e st H=>(e=.normal∧∃ b,∃ d,j=(b,d)∧st=[(0,(u64 b)),(2,(i64 d))]∧H=[])) ?_ ?_
 ·clear hF
  have hF:=k
  refine AWP.seq (AWP.rg0 [] [(0,(u64 a)),(2,(i64 (0:Int))),(4,(vb (decide (a ≥ (4294967296:Int)))))] ?_)
  refine AWP.cif hF (fun l hF=>?_) (fun l hF=>?_)
  ·refine AWP.seq (AWP.rg0 [] [(0,(u64 (bShr .u64 a (32:Int))))] (AWP.rg0 [] [(0,(u64 (bShr .u64 a (32:Int)))),(2,(i64 (32:Int)))] (LeQ.start (LeQ.pk [0,2] 0 ?_))))
   exact⟨rfl,(bShr .u64 a (32:Int)),(32:Int),(someb hF).symm,by kernel_rfl,by kernel_rfl⟩
  ·refine AWP.skip (LeQ.start (LeQ.pk [0,2] 0 ?_))
   exact⟨rfl,a,(0:Int),(someb hF).symm,by kernel_rfl,by kernel_rfl⟩
 ·rintro _ _ _ ⟨rfl,b,d,rfl,rfl,rfl⟩
  obtain⟨m,n,hF⟩:=bindb hF
  refine AWP.seq ?_
  refine AWP.mid (fun e st H=>(e=.normal∧∃ c,∃ f,m=(c,f)∧st=[(0,(u64 c)),(2,(i64 f))]∧H=[])) ?_ ?_
  ·clear hF
   have hF:=n
   refine AWP.seq (AWP.rg0 [] [(0,(u64 b)),(2,(i64 d)),(8,(vb (decide (b ≥ (65536:Int)))))] ?_)
   refine AWP.cif hF (fun o hF=>?_) (fun o hF=>?_)
   ·refine AWP.seq (AWP.rg0 [] [(0,(u64 (bShr .u64 b (16:Int)))),(2,(i64 d))] (AWP.rg0 [] [(0,(u64 (bShr .u64 b (16:Int)))),(2,(i64 (ZI (d + (16:Int)))))] (LeQ.start (LeQ.pk [0,2] 0 ?_))))
    exact⟨rfl,(bShr .u64 b (16:Int)),(ZI (d + (16:Int))),(someb hF).symm,by kernel_rfl,by kernel_rfl⟩
   ·refine AWP.skip (LeQ.start (LeQ.pk [0,2] 0 ?_))
    exact⟨rfl,b,d,(someb hF).symm,by kernel_rfl,by kernel_rfl⟩
  ·rintro _ _ _ ⟨rfl,c,f,rfl,rfl,rfl⟩
   obtain⟨p,q,hF⟩:=bindb hF
   refine AWP.seq ?_
   refine AWP.mid (fun e st H=>(e=.normal∧∃ i,∃ g,p=(i,g)∧st=[(0,(u64 i)),(2,(i64 g))]∧H=[])) ?_ ?_
   ·clear hF
    have hF:=q
    refine AWP.seq (AWP.rg0 [] [(0,(u64 c)),(2,(i64 f)),(14,(vb (decide (c ≥ (256:Int)))))] ?_)
    refine AWP.cif hF (fun s hF=>?_) (fun s hF=>?_)
    ·refine AWP.seq (AWP.rg0 [] [(0,(u64 (bShr .u64 c (8:Int)))),(2,(i64 f))] (AWP.rg0 [] [(0,(u64 (bShr .u64 c (8:Int)))),(2,(i64 (ZI (f + (8:Int)))))] (LeQ.start (LeQ.pk [0,2] 0 ?_))))
     exact⟨rfl,(bShr .u64 c (8:Int)),(ZI (f + (8:Int))),(someb hF).symm,by kernel_rfl,by kernel_rfl⟩
    ·refine AWP.skip (LeQ.start (LeQ.pk [0,2] 0 ?_))
     exact⟨rfl,c,f,(someb hF).symm,by kernel_rfl,by kernel_rfl⟩
   ·rintro _ _ _ ⟨rfl,i,g,rfl,rfl,rfl⟩
    refine AWP.seq ?_
    obtain⟨t,u,hF⟩:=bindb hF
    refine AWP.rg0 [(3,.str u)] [(2,(i64 (ZI (g + (ZI t)))))] (AWP.ret ?_)
    have hr:=someb hF
    subst hr
    exact(FnQ.f0 0 (.inr rfl))
def Zry (r:Int):PV→List Blk→Prop:=fun p K=>p=(i64 r)∧K=[]
theorem Zlp (a:Int) (r:Int) (hF:Zfh a=some r):ACall Tryz.prog glob 112 [(u64 a)] [] (Zry r):=by
 refine ACall.body Tryz.func112 rfl (by kernel_rfl) ?_
 unfold Zfh at hF
 refine AWP.seq (AWP.rg0 [] [(0,(u64 a))] (AWP.seq ?_))
 refine AWP.cF ?_
 refine AWP.skip (AWP.seq ?_)
 obtain⟨b,c,hF⟩:=bindb hF
 refine AWP.rg0 [(1,.call Tryz.func96 [] (Zo0 a b c))] [(2,(i64 b))] (AWP.ret ?_)
 have hr:=someb hF
 subst hr
 exact(FnQ.f0 0 (.inr rfl))
def Znv (r:Bool):PV→List Blk→Prop:=fun p K=>p=(vb r)∧K=[]
theorem Zdk (a:Int) (r:Bool) (hF:Zcw a=some r):ACall Tryz.prog glob 95 [(u64 a)] [] (Znv r):=by
 refine ACall.body Tryz.func95 rfl (by kernel_rfl) ?_
 unfold Zcw at hF
 refine AWP.seq (AWP.rg0 [] [(0,(u64 a))] (AWP.seq (AWP.rg0 [] [(2,(vb (a != a)))] (AWP.ret ?_))))
 have hr:=someb hF
 subst hr
 exact(FnQ.f0 0 (.inr rfl))
def Zo1 (r:Bool):PV→List Blk→Prop:=fun p K=>p=(vb r)∧K=[]
theorem Za4 (a:Int) (b:Int) (r:Bool) (hF:Zac a b=some r):ACall Tryz.prog glob 119 [(u64 a),(u64 b)] [] (Zo1 r):=by
 refine ACall.body Tryz.func119 rfl (by kernel_rfl) ?_
 unfold Zac at hF
 refine AWP.seq (AWP.rg0 [] [(0,(u64 a)),(1,(u64 b))] (AWP.seq ?_))
 obtain⟨g,i,hF⟩:=bindb hF
 obtain⟨n,c,hF⟩:=bindb hF
 replace c:=someb c
 obtain⟨p,j,hF⟩:=bindb hF
 obtain⟨k,d,hF⟩:=bindb hF
 replace d:=someb d
 refine AWP.to [(4,(vb (k || (decide (a<b)))))] [] ?_ ?_
 ·cases n with
  | false=>
   have o:=someb (ifF j rfl)
   subst o
   subst d
   exact AWP.rgT [(1,.call Tryz.func95 [] (Zdk a g i)),(2,.bool c)]
  | true=>
   have f:=ifT j rfl
   obtain⟨l,m,f⟩:=bindb f
   replace f:=someb f
   subst f
   cases k with
   | false=>
    exact AWP.rgT [(1,.call Tryz.func95 [] (Zdk a g i)),(2,.bool c),(4,.call Tryz.func95 [] (Zdk b l m)),(7,.bool d)]
   | true=>
    exact AWP.rgT [(1,.call Tryz.func95 [] (Zdk a g i)),(2,.bool c),(4,.call Tryz.func95 [] (Zdk b l m)),(7,.bool d)]
 refine AWP.ret ?_
 have hr:=someb hF
 subst hr
 exact(FnQ.f0 0 (.inr rfl))
def Zhs (a:List Value) (r:(List Int)):PV→List Blk→Prop:=fun p K=>p=(.tup [])∧K=[.cells (cel Zd r a)]
theorem Zht (d:Nat) (m:(List Int)) (f:List Value) (b:Int) (g:Int) (r:(List Int)) (hF:Zbo d m b g=some r):ACall Tryz.prog glob 113 [(.vw 0 0 d),(i64 b),(i64 g)] [.cells (cel Zd m f)] (Zhs f r):=by
 refine ACall.body Tryz.func113 rfl (by kernel_rfl) ?_
 unfold Zbo at hF
 refine AWP.seq (AWP.rg0 [] [(0,(.vw 0 0 d)),(1,(i64 b)),(2,(i64 g)),(6,(i64 (ZI (b + (1:Int)))))] ?_)
 obtain⟨v,a3,hF⟩:=bindb hF
 refine AWP.mid (fun e st H=>e=.normal∧st=[]∧H=[.cells (cel Zd v f)]) ?_ ?_
 ·clear hF
  refine AWP.kp [0,1,2,6] 1 ?_
  refine AWP.bround (fun n st H=>∃ k,∃ c,Zak d b g n k c=some v∧st=[(0,(.vw 0 0 d)),(1,(i64 b)),(2,(i64 g)),(6,(i64 c))]∧H=[.cells (cel Zd k f)]) fuel ⟨m,(ZI (b + (1:Int))),a3,by kernel_rfl,by kernel_rfl⟩ ?_
  rintro o st H ⟨k,c,hF,rfl,rfl⟩
  cases o with
  | zero=>exact noneb hF
  | succ o=>
   rw [Zak] at hF
   refine AWP.seq (AWP.seq (AWP.rg0 [] [(0,(.vw 0 0 d)),(1,(i64 b)),(2,(i64 g)),(6,(i64 c)),(12,(vb (decide (c<g))))] ?_))
   refine AWP.cif hF (fun a4 hF=>?_) (fun a4 hF=>?_)
   ·refine AWP.skip (AWP.seq (AWP.block (AWP.seq (AWP.rg0 [] [(0,(.vw 0 0 d)),(1,(i64 b)),(2,(i64 g)),(6,(i64 c)),(7,(i64 c))] ?_))))
    obtain⟨p,a5,hF⟩:=bindb hF
    refine AWP.mid (fun e st H=>e=.normal∧st=[(0,(.vw 0 0 d)),(1,(i64 b)),(2,(i64 g)),(6,(i64 c))]∧H=[.cells (cel Zd p f)]) ?_ ?_
    ·clear hF
     refine AWP.kp [0,1,2,6,7] 1 ?_
     refine AWP.bround (fun n st H=>∃ j,∃ a,Zaj d b n j a=some p∧st=[(0,(.vw 0 0 d)),(1,(i64 b)),(2,(i64 g)),(6,(i64 c)),(7,(i64 a))]∧H=[.cells (cel Zd j f)]) fuel ⟨k,c,a5,by kernel_rfl,by kernel_rfl⟩ ?_
     rintro q st H ⟨j,a,hF,rfl,rfl⟩
     cases q with
     | zero=>exact noneb hF
     | succ q=>
      rw [Zaj] at hF
      refine AWP.seq (AWP.seq ?_)
      obtain⟨a6,l,hF⟩:=bindb hF
      replace l:=someb l
      obtain⟨a7,w,hF⟩:=bindb hF
      refine AWP.to [(0,(.vw 0 0 d)),(1,(i64 b)),(2,(i64 g)),(6,(i64 c)),(7,(i64 a)),(30,(vb a7))] [.cells (cel Zd j f)] ?_ ?_
      ·cases a6 with
       | false=>
        have a8:=someb (ifF w rfl)
        subst a8
        exact AWP.drT [(3,.bool l)] 15 [] [] []
       | true=>
        have i:=ifT w rfl
        obtain⟨a9,x,i⟩:=bindb i
        obtain⟨b0,y,i⟩:=bindb i
        obtain⟨b1,b2,i⟩:=bindb i
        replace i:=someb i
        subst i
        exact AWP.drT [(3,.bool l),(6,.idxV (Zp x)),(7,.ldV Zd (s:=1) (fun _=>rfl) f (Zn x) (0 + Int.toNat a * 1) (Nat.zero_add _) []),(11,.idxV (Zp y)),(12,.ldV Zd (s:=1) (fun _=>rfl) f (Zn y) (0 + Int.toNat (ZI (a - (1:Int))) * 1) (Nat.zero_add _) []),(13,.call Tryz.func119 [] (Za4 a9 b0 b1 b2))] 15 [] [] []
      refine AWP.cif hF (fun b3 hF=>?_) (fun b3 hF=>?_)
      ·refine AWP.skip (AWP.seq (AWP.block ?_))
       obtain⟨t,z,hF⟩:=bindb hF
       obtain⟨u,a0,hF⟩:=bindb hF
       obtain⟨b4,a1,hF⟩:=bindb hF
       obtain⟨b5,a2,hF⟩:=bindb hF
       refine AWP.dr [(8,.idxV (Zp z)),(9,.ldV Zd (s:=1) (fun _=>rfl) f (Zn z) (0 + Int.toNat (ZI (a - (1:Int))) * 1) (Nat.zero_add _) []),(12,.idxV (Zp a0)),(13,.ldV Zd (s:=1) (fun _=>rfl) f (Zn a0) (0 + Int.toNat a * 1) (Nat.zero_add _) []),(14,.idxV (Zp a1)),(15,.stV Zd (s:=1) (fun _=>rfl) f (Zn a1) t (0 + Int.toNat a * 1) (Nat.zero_add _) []),(16,.idxV (Zp a2)),(17,.stV Zd (s:=1) (fun _=>rfl) f (Zn a2) u (0 + Int.toNat (ZI (a - (1:Int))) * 1) (Nat.zero_add _) [])] 16 [] [15] [] [(0,(.vw 0 0 d)),(1,(i64 b)),(2,(i64 g)),(6,(i64 c)),(7,(i64 a))] [.cells (cel Zd (List.set (List.set j (Int.toNat a) t) (Int.toNat (ZI (a - (1:Int)))) u) f)] (AWP.rg0 [] [(0,(.vw 0 0 d)),(1,(i64 b)),(2,(i64 g)),(6,(i64 c)),(7,(i64 (ZI (a - (1:Int)))))] (LeQ.start (LeQ.pk [0,1,2,6,7] 1 ?_)))
       exact⟨q,Nat.lt_succ_self _,(List.set (List.set j (Int.toNat a) t) (Int.toNat (ZI (a - (1:Int)))) u),(ZI (a - (1:Int))),hF,by kernel_rfl,by kernel_rfl⟩
      ·refine AWP.exit (LeQ.start (LeQ.pk [0,1,2,6] 1 ?_))
       have hr:=someb hF
       subst hr
       exact⟨rfl,by kernel_rfl,by kernel_rfl⟩
    ·rintro _ _ _ ⟨rfl,rfl,rfl⟩
     refine AWP.rg0 [] [(0,(.vw 0 0 d)),(1,(i64 b)),(2,(i64 g)),(6,(i64 (ZI (c + (1:Int)))))] (LeQ.start (LeQ.pk [0,1,2,6] 1 ?_))
     exact⟨o,Nat.lt_succ_self _,p,(ZI (c + (1:Int))),hF,by kernel_rfl,by kernel_rfl⟩
   ·refine AWP.exit (LeQ.start (LeQ.pk [] 1 ?_))
    have hr:=someb hF
    subst hr
    exact⟨rfl,by kernel_rfl,by kernel_rfl⟩
 ·rintro _ _ _ ⟨rfl,rfl,rfl⟩
  have hr:=someb hF
  subst hr
  exact(FnQ.f0 1 (.inl rfl))
def Zga (a:List Value) (r:(List Int)):PV→List Blk→Prop:=fun p K=>p=(.tup [])∧K=[.cells (cel Zd r a)]
abbrev Ziy (a:List Value) (r:(List Int)):Exit→St→List Blk→Prop:=FnQ Tryz.prog Tryz.f123.results 1 (Zga a r)
theorem Zgb (f:Nat) (m:(List Int)) (c:List Value) (k:Int) (d:Int) (a:Int) (r:(List Int)) (hF:Zbn f m k d a=some r):ACall Tryz.prog glob 123 [(.vw 0 0 f),(i64 k),(i64 d),(i64 a)] [.cells (cel Zd m c)] (Zga c r):=by
 refine ACall.body Tryz.func123 rfl (by kernel_rfl) ?_
 unfold Zbn at hF
 refine AWP.seq (AWP.rg0 [] [(0,(.vw 0 0 f)),(2,(i64 d)),(3,(i64 a)),(8,(i64 k))] ?_)
 obtain⟨o,a5,hF⟩:=bindb hF
 refine AWP.mid (fun e st H=>(e=.normal∧∃ p,o=(.inl p)∧st=[]∧H=[.cells (cel Zd p c)])∨(e=.ret∧∃ r,o=(.inr r)∧Ziy c r e st H)) ?_ ?_
 ·clear hF
  refine AWP.kp [0,2,3,8] 1 ?_
  refine AWP.bround (fun n st H=>∃ g,∃ b,Zag f d a n g b=some o∧st=[(0,(.vw 0 0 f)),(2,(i64 d)),(3,(i64 a)),(8,(i64 b))]∧H=[.cells (cel Zd g c)]) fuel ⟨m,k,a5,by kernel_rfl,by kernel_rfl⟩ ?_
  rintro q st H ⟨g,b,hF,rfl,rfl⟩
  cases q with
  | zero=>exact noneb hF
  | succ q=>
   rw [Zag] at hF
   refine AWP.block (AWP.seq (AWP.rg0 [] [(0,(.vw 0 0 f)),(2,(i64 d)),(3,(i64 a)),(8,(i64 b)),(9,(i64 (ZI ((ZI ((2:Int) * b)) + (1:Int)))))] (AWP.seq (AWP.seq (AWP.rg0 [] [(0,(.vw 0 0 f)),(2,(i64 d)),(3,(i64 a)),(8,(i64 b)),(9,(i64 (ZI ((ZI ((2:Int) * b)) + (1:Int))))),(16,(vb (decide ((ZI ((ZI ((2:Int) * b)) + (1:Int))) ≥ d))))] ?_)))))
   refine AWP.cif hF (fun a6 hF=>?_) (fun a6 hF=>?_)
   ·refine AWP.exit (LeQ.start (LeQ.pk [] 1 ?_))
    exact(.inl ⟨rfl,g,(someb hF).symm,by kernel_rfl,by kernel_rfl⟩)
   ·refine AWP.skip ?_
    obtain⟨i,a7,hF⟩:=bindb hF
    refine AWP.seq ?_
    refine AWP.mid (fun e st H=>e=.normal∧st=[(0,(.vw 0 0 f)),(2,(i64 d)),(3,(i64 a)),(8,(i64 b)),(9,(i64 i))]∧H=[.cells (cel Zd g c)]) ?_ ?_
    ·clear hF
     have hF:=a7
     refine AWP.seq ?_
     obtain⟨a8,l,hF⟩:=bindb hF
     replace l:=someb l
     obtain⟨a9,v,hF⟩:=bindb hF
     refine AWP.to [(0,(.vw 0 0 f)),(2,(i64 d)),(3,(i64 a)),(8,(i64 b)),(9,(i64 (ZI ((ZI ((2:Int) * b)) + (1:Int))))),(36,(vb a9))] [.cells (cel Zd g c)] ?_ ?_
     ·cases a8 with
      | false=>
       have b0:=someb (ifF v rfl)
       subst b0
       exact AWP.drT [(4,.bool l)] 20 [] [] []
      | true=>
       have j:=ifT v rfl
       obtain⟨b1,w,j⟩:=bindb j
       obtain⟨b2,x,j⟩:=bindb j
       obtain⟨b3,b4,j⟩:=bindb j
       replace j:=someb j
       subst j
       exact AWP.drT [(4,.bool l),(9,.idxV (Zp w)),(10,.ldV Zd (s:=1) (fun _=>rfl) c (Zn w) (0 + Int.toNat (ZI (a + (ZI ((ZI ((2:Int) * b)) + (1:Int))))) * 1) (Nat.zero_add _) []),(16,.idxV (Zp x)),(17,.ldV Zd (s:=1) (fun _=>rfl) c (Zn x) (0 + Int.toNat (ZI ((ZI (a + (ZI ((ZI ((2:Int) * b)) + (1:Int))))) + (1:Int))) * 1) (Nat.zero_add _) []),(18,.call Tryz.func119 [] (Za4 b1 b2 b3 b4))] 20 [] [] []
     refine AWP.cif hF (fun b5 hF=>?_) (fun b5 hF=>?_)
     ·refine AWP.rg0 [] [(0,(.vw 0 0 f)),(2,(i64 d)),(3,(i64 a)),(8,(i64 b)),(9,(i64 (ZI ((ZI ((ZI ((2:Int) * b)) + (1:Int))) + (1:Int)))))] (LeQ.start (LeQ.pk [0,2,3,8,9] 1 ?_))
      have hr:=someb hF
      subst hr
      exact⟨rfl,by kernel_rfl,by kernel_rfl⟩
     ·refine AWP.skip (LeQ.start (LeQ.pk [0,2,3,8,9] 1 ?_))
      have hr:=someb hF
      subst hr
      exact⟨rfl,by kernel_rfl,by kernel_rfl⟩
    ·rintro _ _ _ ⟨rfl,rfl,rfl⟩
     refine AWP.seq (AWP.seq ?_)
     obtain⟨b6,y,hF⟩:=bindb hF
     obtain⟨b7,z,hF⟩:=bindb hF
     obtain⟨a0,b8,hF⟩:=bindb hF
     refine AWP.dr [(4,.idxV (Zp y)),(5,.ldV Zd (s:=1) (fun _=>rfl) c (Zn y) (0 + Int.toNat (ZI (a + b)) * 1) (Nat.zero_add _) []),(10,.idxV (Zp z)),(11,.ldV Zd (s:=1) (fun _=>rfl) c (Zn z) (0 + Int.toNat (ZI (a + i)) * 1) (Nat.zero_add _) []),(12,.call Tryz.func119 [] (Za4 b6 b7 a0 b8))] 14 [] [] [] [(0,(.vw 0 0 f)),(2,(i64 d)),(3,(i64 a)),(8,(i64 b)),(9,(i64 i)),(52,(vb (!a0)))] [.cells (cel Zd g c)] ?_
     refine AWP.cif hF (fun b9 hF=>?_) (fun b9 hF=>?_)
     ·refine AWP.ret ?_
      exact LeQ.of (.inr ⟨rfl,g,(someb hF).symm,(FnQ.f0 1 (.inr rfl))⟩)
     ·refine AWP.skip (AWP.seq ?_)
      obtain⟨t,a1,hF⟩:=bindb hF
      obtain⟨u,a2,hF⟩:=bindb hF
      obtain⟨c0,a3,hF⟩:=bindb hF
      obtain⟨c1,a4,hF⟩:=bindb hF
      refine AWP.dr [(12,.idxV (Zp a1)),(13,.ldV Zd (s:=1) (fun _=>rfl) c (Zn a1) (0 + Int.toNat (ZI (a + i)) * 1) (Nat.zero_add _) []),(18,.idxV (Zp a2)),(19,.ldV Zd (s:=1) (fun _=>rfl) c (Zn a2) (0 + Int.toNat (ZI (a + b)) * 1) (Nat.zero_add _) []),(20,.idxV (Zp a3)),(21,.stV Zd (s:=1) (fun _=>rfl) c (Zn a3) t (0 + Int.toNat (ZI (a + b)) * 1) (Nat.zero_add _) []),(22,.idxV (Zp a4)),(23,.stV Zd (s:=1) (fun _=>rfl) c (Zn a4) u (0 + Int.toNat (ZI (a + i)) * 1) (Nat.zero_add _) [])] 22 [] [21] [] [(0,(.vw 0 0 f)),(2,(i64 d)),(3,(i64 a)),(9,(i64 i))] [.cells (cel Zd (List.set (List.set g (Int.toNat (ZI (a + b))) t) (Int.toNat (ZI (a + i))) u) c)] (AWP.rg0 [] [(0,(.vw 0 0 f)),(2,(i64 d)),(3,(i64 a)),(8,(i64 i))] (LeQ.start (LeQ.pk [0,2,3,8] 1 ?_)))
      exact⟨q,Nat.lt_succ_self _,(List.set (List.set g (Int.toNat (ZI (a + b))) t) (Int.toNat (ZI (a + i))) u),i,hF,by kernel_rfl,by kernel_rfl⟩
 ·rintro _ _ _ (⟨rfl,p,rfl,rfl,rfl⟩ | ⟨rfl,c2,rfl,hq⟩)
  ·have hr:=someb hF
   subst hr
   exact(FnQ.f0 1 (.inl rfl))
  ·have hr:=someb hF
   subst hr
   exact hq
def Ziz (a:List Value) (r:(List Int)):PV→List Blk→Prop:=fun p K=>p=(.tup [])∧K=[.cells (cel Zd r a)]
theorem Zi0 (b:Nat) (q:(List Int)) (d:List Value) (a:Int) (f:Int) (r:(List Int)) (hF:Zb5 b q a f=some r):ACall Tryz.prog glob 114 [(.vw 0 0 b),(i64 a),(i64 f)] [.cells (cel Zd q d)] (Ziz d r):=by
 refine ACall.body Tryz.func114 rfl (by kernel_rfl) ?_
 unfold Zb5 at hF
 refine AWP.seq (AWP.rg0 [] [(0,(.vw 0 0 b)),(1,(i64 a)),(2,(i64 f)),(6,(i64 a))] (AWP.seq (AWP.rg0 [] [(0,(.vw 0 0 b)),(1,(i64 a)),(2,(i64 f)),(6,(i64 a)),(7,(i64 (0:Int)))] (AWP.seq (AWP.rg0 [] [(0,(.vw 0 0 b)),(6,(i64 a)),(7,(i64 (0:Int))),(8,(i64 (ZI (f - a))))] (AWP.seq ?_))))))
 refine AWP.seq (AWP.rg0 [] [(0,(.vw 0 0 b)),(6,(i64 a)),(7,(i64 (0:Int))),(8,(i64 (ZI (f - a)))),(9,(i64 (ZI (Int.tdiv (ZI ((ZI (f - a)) - (1:Int))) (2:Int)))))] ?_)
 obtain⟨t,a1,hF⟩:=bindb hF
 refine AWP.mid (fun e st H=>e=.normal∧st=[(0,(.vw 0 0 b)),(6,(i64 a)),(7,(i64 (0:Int))),(8,(i64 (ZI (f - a))))]∧H=[.cells (cel Zd t d)]) ?_ ?_
 ·clear hF
  refine AWP.kp [0,6,7,8,9] 1 ?_
  refine AWP.bround (fun n st H=>∃ k,∃ i,Zaz b a f n k i=some t∧st=[(0,(.vw 0 0 b)),(6,(i64 a)),(7,(i64 (0:Int))),(8,(i64 (ZI (f - a)))),(9,(i64 i))]∧H=[.cells (cel Zd k d)]) fuel ⟨q,(ZI (Int.tdiv (ZI ((ZI (f - a)) - (1:Int))) (2:Int))),a1,by kernel_rfl,by kernel_rfl⟩ ?_
  rintro u st H ⟨k,i,hF,rfl,rfl⟩
  cases u with
  | zero=>exact noneb hF
  | succ u=>
   rw [Zaz] at hF
   refine AWP.seq (AWP.seq (AWP.rg0 [] [(0,(.vw 0 0 b)),(6,(i64 a)),(7,(i64 (0:Int))),(8,(i64 (ZI (f - a)))),(9,(i64 i)),(19,(vb (decide (i ≥ (0:Int)))))] ?_))
   refine AWP.cif hF (fun a2 hF=>?_) (fun a2 hF=>?_)
   ·refine AWP.skip (AWP.seq (AWP.block ?_))
    obtain⟨l,a3,hF⟩:=bindb hF
    refine AWP.rg [(4,.callC Tryz.func123 [] (closedH.c (Zt (row:=Zd) (fun _=>rfl) k d) closedH.n) (closedH.c (Zt (row:=Zd) (fun _=>rfl) l d) closedH.n) (Zgb b k d i (ZI (f - a)) a l a3))] [(0,(.vw 0 0 b)),(6,(i64 a)),(7,(i64 (0:Int))),(8,(i64 (ZI (f - a)))),(9,(i64 i))] [.cells (cel Zd l d)] (AWP.rg0 [] [(0,(.vw 0 0 b)),(6,(i64 a)),(7,(i64 (0:Int))),(8,(i64 (ZI (f - a)))),(9,(i64 (ZI (i - (1:Int)))))] (LeQ.start (LeQ.pk [0,6,7,8,9] 1 ?_)))
    exact⟨u,Nat.lt_succ_self _,l,(ZI (i - (1:Int))),hF,by kernel_rfl,by kernel_rfl⟩
   ·refine AWP.exit (LeQ.start (LeQ.pk [0,6,7,8] 1 ?_))
    have hr:=someb hF
    subst hr
    exact⟨rfl,by kernel_rfl,by kernel_rfl⟩
 ·rintro _ _ _ ⟨rfl,rfl,rfl⟩
  refine AWP.seq (AWP.rg0 [] [(0,(.vw 0 0 b)),(6,(i64 a)),(7,(i64 (0:Int))),(10,(i64 (ZI ((ZI (f - a)) - (1:Int)))))] ?_)
  obtain⟨w,a4,hF⟩:=bindb hF
  refine AWP.mid (fun e st H=>e=.normal∧st=[]∧H=[.cells (cel Zd w d)]) ?_ ?_
  ·clear hF
   refine AWP.kp [0,6,7,10] 1 ?_
   refine AWP.bround (fun n st H=>∃ j,∃ g,Za0 b a n j g=some w∧st=[(0,(.vw 0 0 b)),(6,(i64 a)),(7,(i64 (0:Int))),(10,(i64 g))]∧H=[.cells (cel Zd j d)]) fuel ⟨t,(ZI ((ZI (f - a)) - (1:Int))),a4,by kernel_rfl,by kernel_rfl⟩ ?_
   rintro v st H ⟨j,g,hF,rfl,rfl⟩
   cases v with
   | zero=>exact noneb hF
   | succ v=>
    rw [Za0] at hF
    refine AWP.seq (AWP.seq (AWP.rg0 [] [(0,(.vw 0 0 b)),(6,(i64 a)),(7,(i64 (0:Int))),(10,(i64 g)),(30,(vb (decide (g ≥ (0:Int)))))] ?_))
    refine AWP.cif hF (fun a5 hF=>?_) (fun a5 hF=>?_)
    ·refine AWP.skip (AWP.seq (AWP.block (AWP.seq ?_)))
     obtain⟨m,x,hF⟩:=bindb hF
     obtain⟨o,y,hF⟩:=bindb hF
     obtain⟨a7,z,hF⟩:=bindb hF
     obtain⟨a8,a0,hF⟩:=bindb hF
     refine AWP.dr [(10,.idxV (Zp x)),(11,.ldV Zd (s:=1) (fun _=>rfl) d (Zn x) (0 + Int.toNat (ZI (a + g)) * 1) (Nat.zero_add _) []),(14,.idxV (Zp y)),(15,.ldV Zd (s:=1) (fun _=>rfl) d (Zn y) (0 + Int.toNat a * 1) (Nat.zero_add _) []),(16,.idxV (Zp z)),(17,.stV Zd (s:=1) (fun _=>rfl) d (Zn z) m (0 + Int.toNat a * 1) (Nat.zero_add _) []),(18,.idxV (Zp a0)),(19,.stV Zd (s:=1) (fun _=>rfl) d (Zn a0) o (0 + Int.toNat (ZI (a + g)) * 1) (Nat.zero_add _) [])] 18 [] [17] [] [(0,(.vw 0 0 b)),(6,(i64 a)),(7,(i64 (0:Int))),(10,(i64 g))] [.cells (cel Zd (List.set (List.set j (Int.toNat a) m) (Int.toNat (ZI (a + g))) o) d)] ?_
     obtain⟨p,a6,hF⟩:=bindb hF
     refine AWP.rg [(4,.callC Tryz.func123 [] (closedH.c (Zt (row:=Zd) (fun _=>rfl) (List.set (List.set j (Int.toNat a) m) (Int.toNat (ZI (a + g))) o) d) closedH.n) (closedH.c (Zt (row:=Zd) (fun _=>rfl) p d) closedH.n) (Zgb b (List.set (List.set j (Int.toNat a) m) (Int.toNat (ZI (a + g))) o) d (0:Int) g a p a6))] [(0,(.vw 0 0 b)),(6,(i64 a)),(7,(i64 (0:Int))),(10,(i64 g))] [.cells (cel Zd p d)] (AWP.rg0 [] [(0,(.vw 0 0 b)),(6,(i64 a)),(7,(i64 (0:Int))),(10,(i64 (ZI (g - (1:Int)))))] (LeQ.start (LeQ.pk [0,6,7,10] 1 ?_)))
     exact⟨v,Nat.lt_succ_self _,p,(ZI (g - (1:Int))),hF,by kernel_rfl,by kernel_rfl⟩
    ·refine AWP.exit (LeQ.start (LeQ.pk [] 1 ?_))
     have hr:=someb hF
     subst hr
     exact⟨rfl,by kernel_rfl,by kernel_rfl⟩
  ·rintro _ _ _ ⟨rfl,rfl,rfl⟩
   have hr:=someb hF
   subst hr
   exact(FnQ.f0 1 (.inl rfl))
def Zk3 (r:Int):PV→List Blk→Prop:=fun p K=>p=(u64 r)∧K=[]
theorem Zk4 (a:Int) (r:Int) (hF:Ze2 a=some r):ACall Tryz.prog glob 124 [(i64 a)] [] (Zk3 r):=by
 refine ACall.body Tryz.func124 rfl (by kernel_rfl) ?_
 unfold Ze2 at hF
 refine AWP.seq (AWP.rg0 [] [(0,(i64 a))] (AWP.seq ?_))
 obtain⟨b,c,hF⟩:=bindb hF
 obtain⟨d,hF⟩:=chkb hF
 refine AWP.rg0 [(2,.call Tryz.func112 [] (Zlp (IntKind.wrap .u64 a) b c)),(3,.sh d)] [(2,(u64 (bShl .u64 (1:Int) b)))] (AWP.ret ?_)
 have hr:=someb hF
 subst hr
 exact(FnQ.f0 0 (.inr rfl))
def Zl0 (r:(Int × Int)):PV→List Blk→Prop:=fun p K=>p=(u64 r.1)∧K=[.cells (Zd r.2)]
theorem Zl1 (a:Int) (r:(Int × Int)) (hF:Zd5 a=some r):ACall Tryz.prog glob 125 [(.ptr 0 0)] [.cells (Zd a)] (Zl0 r):=by
 refine ACall.body Tryz.func125 rfl (by kernel_rfl) ?_
 unfold Zd5 at hF
 refine AWP.seq (AWP.rg0 [] [(0,(.ptr 0 0))] (AWP.seq (AWP.dr [] 8 [] [] [] [(0,(.ptr 0 0))] [.cells (Zd (bXor .u64 a (bShl .u64 a (13:Int))))] (AWP.seq (AWP.dr [] 8 [] [] [] [(0,(.ptr 0 0))] [.cells (Zd (bXor .u64 (bXor .u64 a (bShl .u64 a (13:Int))) (bShr .u64 (bXor .u64 a (bShl .u64 a (13:Int))) (7:Int))))] (AWP.seq ?_))))))
 refine AWP.dr [] 8 [] [] [] [(0,(.ptr 0 0))] [.cells (Zd (bXor .u64 (bXor .u64 (bXor .u64 a (bShl .u64 a (13:Int))) (bShr .u64 (bXor .u64 a (bShl .u64 a (13:Int))) (7:Int))) (bShl .u64 (bXor .u64 (bXor .u64 a (bShl .u64 a (13:Int))) (bShr .u64 (bXor .u64 a (bShl .u64 a (13:Int))) (7:Int))) (17:Int))))] (AWP.seq (AWP.rg0 [] [(2,(u64 (bXor .u64 (bXor .u64 (bXor .u64 a (bShl .u64 a (13:Int))) (bShr .u64 (bXor .u64 a (bShl .u64 a (13:Int))) (7:Int))) (bShl .u64 (bXor .u64 (bXor .u64 a (bShl .u64 a (13:Int))) (bShr .u64 (bXor .u64 a (bShl .u64 a (13:Int))) (7:Int))) (17:Int)))))] (AWP.ret ?_)))
 have hr:=someb hF
 subst hr
 exact(FnQ.f0 1 (.inr rfl))
def Zhu (a:List Value) (r:(List Int)):PV→List Blk→Prop:=fun p K=>p=(.tup [])∧K=[.cells (cel Zd r a)]
theorem Zhv (c:Nat) (m:(List Int)) (g:List Value) (a:Int) (b:Int) (r:(List Int)) (hF:Za5 c m a b=some r):ACall Tryz.prog glob 115 [(.vw 0 0 c),(i64 a),(i64 b)] [.cells (cel Zd m g)] (Zhu g r):=by
 refine ACall.body Tryz.func115 rfl (by kernel_rfl) ?_
 unfold Za5 at hF
 refine AWP.seq (AWP.rg0 [] [(0,(.vw 0 0 c)),(1,(i64 a)),(6,(i64 (ZI (b - a))))] (AWP.seq (AWP.rg0 [] [(0,(.vw 0 0 c)),(1,(i64 a)),(6,(i64 (ZI (b - a)))),(15,(vb (decide ((ZI (b - a)) ≥ (8:Int)))))] ?_)))
 refine AWP.cif hF (fun a2 hF=>?_) (fun a2 hF=>?_)
 ·refine AWP.seq (AWP.rg [] [(0,(.vw 0 0 c)),(1,(i64 a)),(6,(i64 (ZI (b - a)))),(7,(.ptr 1 0))] [.cells (cel Zd m g),.cells (Zd (IntKind.wrap .u64 (ZI (b - a))))] (AWP.seq ?_))
  obtain⟨d,a3,hF⟩:=bindb hF
  refine AWP.rg0 [(1,.call Tryz.func124 [] (Zk4 (ZI (b - a)) d a3))] [(0,(.vw 0 0 c)),(1,(i64 a)),(6,(i64 (ZI (b - a)))),(7,(.ptr 1 0)),(8,(u64 d))] (AWP.seq (AWP.rg0 [] [(0,(.vw 0 0 c)),(1,(i64 a)),(6,(i64 (ZI (b - a)))),(7,(.ptr 1 0)),(8,(u64 d)),(9,(i64 (ZI ((ZI (a + (ZI ((ZI (Int.tdiv (ZI (b - a)) (4:Int))) * (2:Int))))) - (1:Int)))))] ?_))
  obtain⟨x,a4,hF⟩:=bindb hF
  refine AWP.mid (fun e st H=>(e=.normal∧∃ q,∃ t,x=(q,t)∧st=[]∧H=[.cells (cel Zd q g),.cells (Zd t)])) ?_ ?_
  ·clear hF
   refine AWP.kp [0,1,6,7,8,9] 2 ?_
   refine AWP.bround (fun n st H=>∃ j,∃ k,∃ f,Zr c a b d n j k f=some x∧st=[(0,(.vw 0 0 c)),(1,(i64 a)),(6,(i64 (ZI (b - a)))),(7,(.ptr 1 0)),(8,(u64 d)),(9,(i64 f))]∧H=[.cells (cel Zd j g),.cells (Zd k)]) fuel ⟨m,(IntKind.wrap .u64 (ZI (b - a))),(ZI ((ZI (a + (ZI ((ZI (Int.tdiv (ZI (b - a)) (4:Int))) * (2:Int))))) - (1:Int))),a4,by kernel_rfl,by kernel_rfl⟩ ?_
   rintro u st H ⟨j,k,f,hF,rfl,rfl⟩
   cases u with
   | zero=>exact noneb hF
   | succ u=>
    rw [Zr] at hF
    refine AWP.seq (AWP.seq (AWP.rg0 [] [(0,(.vw 0 0 c)),(1,(i64 a)),(6,(i64 (ZI (b - a)))),(7,(.ptr 1 0)),(8,(u64 d)),(9,(i64 f)),(33,(vb (decide (f≤(ZI ((ZI (a + (ZI ((ZI (Int.tdiv (ZI (b - a)) (4:Int))) * (2:Int))))) + (1:Int)))))))] ?_))
    refine AWP.cif hF (fun a5 hF=>?_) (fun a5 hF=>?_)
    ·refine AWP.skip ?_
     obtain⟨a6,a7,hF⟩:=bindb hF
     refine AWP.seq ?_
     refine AWP.mid (fun e st H=>(e=.normal∧∃ o,∃ p,a6=(o,p)∧st=[(0,(.vw 0 0 c)),(1,(i64 a)),(6,(i64 (ZI (b - a)))),(7,(.ptr 1 0)),(8,(u64 d)),(9,(i64 f))]∧H=[.cells (cel Zd o g),.cells (Zd p)])) ?_ ?_
     ·clear hF
      have hF:=a7
      refine AWP.block (AWP.seq ?_)
      obtain⟨i,a8,hF⟩:=bindb hF
      refine AWP.rg [(0,.call Tryz.func125 [] (Zl1 k i a8))] [(0,(.vw 0 0 c)),(1,(i64 a)),(6,(i64 (ZI (b - a)))),(7,(.ptr 1 0)),(8,(u64 d)),(9,(i64 f)),(10,(i64 (ZI (bAnd .u64 i.1 (IntKind.wrap .u64 (d - (1:Int)))))))] [.cells (cel Zd j g),.cells (Zd i.2)] ?_
      obtain⟨l,a9,hF⟩:=bindb hF
      refine AWP.seq ?_
      refine AWP.mid (fun e st H=>e=.normal∧st=[(0,(.vw 0 0 c)),(1,(i64 a)),(6,(i64 (ZI (b - a)))),(7,(.ptr 1 0)),(8,(u64 d)),(9,(i64 f)),(10,(i64 l))]∧H=[.cells (cel Zd j g),.cells (Zd i.2)]) ?_ ?_
      ·clear hF
       have hF:=a9
       refine AWP.seq (AWP.rg0 [] [(0,(.vw 0 0 c)),(1,(i64 a)),(6,(i64 (ZI (b - a)))),(7,(.ptr 1 0)),(8,(u64 d)),(9,(i64 f)),(10,(i64 (ZI (bAnd .u64 i.1 (IntKind.wrap .u64 (d - (1:Int))))))),(43,(vb (decide ((ZI (bAnd .u64 i.1 (IntKind.wrap .u64 (d - (1:Int))))) ≥ (ZI (b - a))))))] ?_)
       refine AWP.cif hF (fun b0 hF=>?_) (fun b0 hF=>?_)
       ·refine AWP.rg0 [] [(0,(.vw 0 0 c)),(1,(i64 a)),(6,(i64 (ZI (b - a)))),(7,(.ptr 1 0)),(8,(u64 d)),(9,(i64 f)),(10,(i64 (ZI ((ZI (bAnd .u64 i.1 (IntKind.wrap .u64 (d - (1:Int))))) - (ZI (b - a))))))] (LeQ.start (LeQ.pk [0,1,6,7,8,9,10] 2 ?_))
        have hr:=someb hF
        subst hr
        exact⟨rfl,by kernel_rfl,by kernel_rfl⟩
       ·refine AWP.skip (LeQ.start (LeQ.pk [0,1,6,7,8,9,10] 2 ?_))
        have hr:=someb hF
        subst hr
        exact⟨rfl,by kernel_rfl,by kernel_rfl⟩
      ·rintro _ _ _ ⟨rfl,rfl,rfl⟩
       obtain⟨v,y,hF⟩:=bindb hF
       obtain⟨w,z,hF⟩:=bindb hF
       obtain⟨b1,a0,hF⟩:=bindb hF
       obtain⟨b2,a1,hF⟩:=bindb hF
       refine AWP.dr [(10,.idxV (Zp y)),(11,.ldV Zd (s:=1) (fun _=>rfl) g (Zn y) (0 + Int.toNat (ZI (a + l)) * 1) (Nat.zero_add _) []),(14,.idxV (Zp z)),(15,.ldV Zd (s:=1) (fun _=>rfl) g (Zn z) (0 + Int.toNat f * 1) (Nat.zero_add _) []),(16,.idxV (Zp a0)),(17,.stV Zd (s:=1) (fun _=>rfl) g (Zn a0) v (0 + Int.toNat f * 1) (Nat.zero_add _) []),(18,.idxV (Zp a1)),(19,.stV Zd (s:=1) (fun _=>rfl) g (Zn a1) w (0 + Int.toNat (ZI (a + l)) * 1) (Nat.zero_add _) [])] 18 [] [17] [] [(0,(.vw 0 0 c)),(1,(i64 a)),(6,(i64 (ZI (b - a)))),(7,(.ptr 1 0)),(8,(u64 d)),(9,(i64 f))] [.cells (cel Zd (List.set (List.set j (Int.toNat f) v) (Int.toNat (ZI (a + l))) w) g),.cells (Zd i.2)] (LeQ.start (LeQ.pk [0,1,6,7,8,9] 2 ?_))
       exact⟨rfl,(List.set (List.set j (Int.toNat f) v) (Int.toNat (ZI (a + l))) w),i.2,(someb hF).symm,by kernel_rfl,by kernel_rfl⟩
     ·rintro _ _ _ ⟨rfl,o,p,rfl,rfl,rfl⟩
      refine AWP.rg0 [] [(0,(.vw 0 0 c)),(1,(i64 a)),(6,(i64 (ZI (b - a)))),(7,(.ptr 1 0)),(8,(u64 d)),(9,(i64 (ZI (f + (1:Int)))))] (LeQ.start (LeQ.pk [0,1,6,7,8,9] 2 ?_))
      exact⟨u,Nat.lt_succ_self _,o,p,(ZI (f + (1:Int))),hF,by kernel_rfl,by kernel_rfl⟩
    ·refine AWP.exit (LeQ.start (LeQ.pk [] 2 ?_))
     exact⟨rfl,j,k,(someb hF).symm,by kernel_rfl,by kernel_rfl⟩
  ·rintro _ _ _ ⟨rfl,q,t,rfl,rfl,rfl⟩
   have hr:=someb hF
   subst hr
   exact(FnQ.f0 1 (.inl rfl))
 ·refine AWP.skip ?_
  have hr:=someb hF
  subst hr
  exact(FnQ.f0 1 (.inl rfl))
def Zjl (a:(List Int)) (b:List Value) (r:(Int × Int × Int)):PV→List Blk→Prop:=fun p K=>p=(.tup [(i64 r.1),(i64 r.2.1)])∧K=[.cells (cel Zd a b),.cells (Zz r.2.2)]
theorem Ze1 (g:Nat) (d:(List Int)) (c:List Value) (a:Int) (b:Int) (f:Int) (r:(Int × Int × Int)) (hF:Zbf g d a b f=some r):ACall Tryz.prog glob 128 [(.vw 0 0 g),(i64 a),(i64 b),(.ptr 1 0)] [.cells (cel Zd d c),.cells (Zz f)] (Zjl d c r):=by
 refine ACall.body Tryz.func128 rfl (by kernel_rfl) ?_
 unfold Zbf at hF
 refine AWP.seq (AWP.rg0 [] [(0,(.vw 0 0 g)),(1,(i64 a)),(2,(i64 b)),(3,(.ptr 1 0))] (AWP.seq (AWP.seq ?_)))
 obtain⟨l,i,hF⟩:=bindb hF
 obtain⟨m,j,hF⟩:=bindb hF
 obtain⟨k,n,hF⟩:=bindb hF
 refine AWP.dr [(2,.idxV (Zp i)),(3,.ldV Zd (s:=1) (fun _=>rfl) c (Zn i) (0 + Int.toNat b * 1) (Nat.zero_add _) []),(6,.idxV (Zp j)),(7,.ldV Zd (s:=1) (fun _=>rfl) c (Zn j) (0 + Int.toNat a * 1) (Nat.zero_add _) []),(8,.call Tryz.func119 [] (Za4 l m k n))] 9 [] [] [] [(1,(i64 a)),(2,(i64 b)),(3,(.ptr 1 0)),(18,(vb k))] [.cells (cel Zd d c),.cells (Zz f)] ?_
 refine AWP.cif hF (fun o hF=>?_) (fun o hF=>?_)
 ·refine AWP.seq (AWP.rg [] [(1,(i64 a)),(2,(i64 b))] [.cells (cel Zd d c),.cells (Zz (ZI (f + (1:Int))))] (AWP.seq (AWP.rg0 [] [(8,(i64 b)),(9,(i64 a))] (AWP.ret ?_))))
  have hr:=someb hF
  subst hr
  exact(FnQ.f0 2 (.inr rfl))
 ·refine AWP.skip (AWP.seq (AWP.rg0 [] [(8,(i64 a)),(9,(i64 b))] (AWP.ret ?_)))
  have hr:=someb hF
  subst hr
  exact(FnQ.f0 2 (.inr rfl))
def Zjm (a:(List Int)) (b:List Value) (r:(Int × Int)):PV→List Blk→Prop:=fun p K=>p=(i64 r.1)∧K=[.cells (cel Zd a b),.cells (Zz r.2)]
theorem Zgu (f:Nat) (a:(List Int)) (b:List Value) (k:Int) (l:Int) (i:Int) (m:Int) (r:(Int × Int)) (hF:Zbs f a k l i m=some r):ACall Tryz.prog glob 127 [(.vw 0 0 f),(i64 k),(i64 l),(i64 i),(.ptr 1 0)] [.cells (cel Zd a b),.cells (Zz m)] (Zjm a b r):=by
 refine ACall.body Tryz.func127 rfl (by kernel_rfl) ?_
 unfold Zbs at hF
 refine AWP.seq (AWP.rg0 [] [(0,(.vw 0 0 f)),(1,(i64 k)),(2,(i64 l)),(3,(i64 i)),(4,(.ptr 1 0))] (AWP.seq ?_))
 obtain⟨d,o,hF⟩:=bindb hF
 refine AWP.rg [(4,.callC Tryz.func128 [] (closedH.c (Zt (row:=Zd) (fun _=>rfl) a b) (closedH.c (cs:=Zz m) rfl closedH.n)) (closedH.c (Zt (row:=Zd) (fun _=>rfl) a b) (closedH.c (cs:=Zz d.2.2) rfl closedH.n)) (Ze1 f a b k l m d o))] [(0,(.vw 0 0 f)),(1,(i64 d.1)),(2,(i64 d.2.1)),(3,(i64 i)),(4,(.ptr 1 0))] [.cells (cel Zd a b),.cells (Zz d.2.2)] (AWP.seq ?_)
 obtain⟨g,p,hF⟩:=bindb hF
 refine AWP.rg [(4,.callC Tryz.func128 [] (closedH.c (Zt (row:=Zd) (fun _=>rfl) a b) (closedH.c (cs:=Zz d.2.2) rfl closedH.n)) (closedH.c (Zt (row:=Zd) (fun _=>rfl) a b) (closedH.c (cs:=Zz g.2.2) rfl closedH.n)) (Ze1 f a b d.2.1 i d.2.2 g p))] [(0,(.vw 0 0 f)),(1,(i64 d.1)),(2,(i64 g.1)),(4,(.ptr 1 0))] [.cells (cel Zd a b),.cells (Zz g.2.2)] (AWP.seq ?_)
 obtain⟨j,q,hF⟩:=bindb hF
 refine AWP.rg [(4,.callC Tryz.func128 [] (closedH.c (Zt (row:=Zd) (fun _=>rfl) a b) (closedH.c (cs:=Zz g.2.2) rfl closedH.n)) (closedH.c (Zt (row:=Zd) (fun _=>rfl) a b) (closedH.c (cs:=Zz j.2.2) rfl closedH.n)) (Ze1 f a b d.1 g.1 g.2.2 j q))] [(2,(i64 j.2.1))] [.cells (cel Zd a b),.cells (Zz j.2.2)] (AWP.seq (AWP.rg0 [] [(10,(i64 j.2.1))] (AWP.ret ?_)))
 have hr:=someb hF
 subst hr
 exact(FnQ.f0 2 (.inr rfl))
def Zhg (a:(List Int)) (b:List Value) (r:(Int × Int)):PV→List Blk→Prop:=fun p K=>p=(i64 r.1)∧K=[.cells (cel Zd a b),.cells (Zz r.2)]
theorem Zdc (f:Nat) (a:(List Int)) (b:List Value) (d:Int) (g:Int) (r:(Int × Int)) (hF:Zar f a d g=some r):ACall Tryz.prog glob 126 [(.vw 0 0 f),(i64 d),(.ptr 1 0)] [.cells (cel Zd a b),.cells (Zz g)] (Zhg a b r):=by
 refine ACall.body Tryz.func126 rfl (by kernel_rfl) ?_
 unfold Zar at hF
 refine AWP.seq (AWP.rg0 [] [(0,(.vw 0 0 f)),(1,(i64 d)),(2,(.ptr 1 0))] (AWP.seq ?_))
 obtain⟨i,j,hF⟩:=bindb hF
 refine AWP.rg [(7,.callC Tryz.func127 [] (closedH.c (Zt (row:=Zd) (fun _=>rfl) a b) (closedH.c (cs:=Zz g) rfl closedH.n)) (closedH.c (Zt (row:=Zd) (fun _=>rfl) a b) (closedH.c (cs:=Zz i.2) rfl closedH.n)) (Zgu f a b (ZI (d - (1:Int))) d (ZI (d + (1:Int))) g i j))] [(6,(i64 i.1))] [.cells (cel Zd a b),.cells (Zz i.2)] (AWP.ret ?_)
 have hr:=someb hF
 subst hr
 exact(FnQ.f0 2 (.inr rfl))
def Zic (a:(List Int)) (b:List Value) (r:(Int × Int)):PV→List Blk→Prop:=fun p K=>p=(.tup [(i64 r.1),(i64 r.2)])∧K=[.cells (cel Zd a b)]
theorem Zid (g:Nat) (d:(List Int)) (f:List Value) (a:Int) (b:Int) (r:(Int × Int)) (hF:Zbr g d a b=some r):ACall Tryz.prog glob 116 [(.vw 0 0 g),(i64 a),(i64 b)] [.cells (cel Zd d f)] (Zic d f r):=by
 refine ACall.body Tryz.func116 rfl (by kernel_rfl) ?_
 unfold Zbr at hF
 refine AWP.seq (AWP.rg0 [] [(0,(.vw 0 0 g)),(1,(i64 a)),(2,(i64 b))] (AWP.seq (AWP.rg0 [] [(0,(.vw 0 0 g)),(1,(i64 a)),(8,(i64 (ZI (b - a))))] (AWP.seq (AWP.rg [] [(0,(.vw 0 0 g)),(1,(i64 a)),(8,(i64 (ZI (b - a)))),(9,(.ptr 1 0))] [.cells (cel Zd d f),.cells (Zz (0:Int))] (AWP.seq ?_))))))
 refine AWP.rg0 [] [(0,(.vw 0 0 g)),(1,(i64 a)),(8,(i64 (ZI (b - a)))),(9,(.ptr 1 0)),(10,(i64 (ZI (a + (ZI ((ZI (Int.tdiv (ZI (b - a)) (4:Int))) * (1:Int)))))))] (AWP.seq (AWP.rg0 [] [(0,(.vw 0 0 g)),(1,(i64 a)),(8,(i64 (ZI (b - a)))),(9,(.ptr 1 0)),(10,(i64 (ZI (a + (ZI ((ZI (Int.tdiv (ZI (b - a)) (4:Int))) * (1:Int))))))),(11,(i64 (ZI (a + (ZI ((ZI (Int.tdiv (ZI (b - a)) (4:Int))) * (2:Int)))))))] (AWP.seq (AWP.rg0 [] [(0,(.vw 0 0 g)),(8,(i64 (ZI (b - a)))),(9,(.ptr 1 0)),(10,(i64 (ZI (a + (ZI ((ZI (Int.tdiv (ZI (b - a)) (4:Int))) * (1:Int))))))),(11,(i64 (ZI (a + (ZI ((ZI (Int.tdiv (ZI (b - a)) (4:Int))) * (2:Int))))))),(12,(i64 (ZI (a + (ZI ((ZI (Int.tdiv (ZI (b - a)) (4:Int))) * (3:Int)))))))] ?_))))
 obtain⟨u,v,hF⟩:=bindb hF
 refine AWP.seq ?_
 refine AWP.mid (fun e st H=>(e=.normal∧∃ l,∃ i,u=(l,i)∧st=[(9,(.ptr 1 0)),(11,(i64 i))]∧H=[.cells (cel Zd d f),.cells (Zz l)])) ?_ ?_
 ·clear hF
  have hF:=v
  refine AWP.seq (AWP.rg0 [] [(0,(.vw 0 0 g)),(8,(i64 (ZI (b - a)))),(9,(.ptr 1 0)),(10,(i64 (ZI (a + (ZI ((ZI (Int.tdiv (ZI (b - a)) (4:Int))) * (1:Int))))))),(11,(i64 (ZI (a + (ZI ((ZI (Int.tdiv (ZI (b - a)) (4:Int))) * (2:Int))))))),(12,(i64 (ZI (a + (ZI ((ZI (Int.tdiv (ZI (b - a)) (4:Int))) * (3:Int))))))),(32,(vb (decide ((ZI (b - a)) ≥ (8:Int)))))] ?_)
  refine AWP.cif hF (fun w hF=>?_) (fun w hF=>?_)
  ·obtain⟨x,y,hF⟩:=bindb hF
   refine AWP.seq ?_
   refine AWP.mid (fun e st H=>(e=.normal∧∃ p,∃ q,∃ s,∃ t,x=(p,q,s,t)∧st=[(0,(.vw 0 0 g)),(9,(.ptr 1 0)),(10,(i64 q)),(11,(i64 s)),(12,(i64 t))]∧H=[.cells (cel Zd d f),.cells (Zz p)])) ?_ ?_
   ·clear hF
    have hF:=y
    refine AWP.seq (AWP.rg0 [] [(0,(.vw 0 0 g)),(9,(.ptr 1 0)),(10,(i64 (ZI (a + (ZI ((ZI (Int.tdiv (ZI (b - a)) (4:Int))) * (1:Int))))))),(11,(i64 (ZI (a + (ZI ((ZI (Int.tdiv (ZI (b - a)) (4:Int))) * (2:Int))))))),(12,(i64 (ZI (a + (ZI ((ZI (Int.tdiv (ZI (b - a)) (4:Int))) * (3:Int))))))),(34,(vb (decide ((ZI (b - a)) ≥ (50:Int)))))] ?_)
    refine AWP.cif hF (fun z hF=>?_) (fun z hF=>?_)
    ·refine AWP.seq ?_
     obtain⟨j,a0,hF⟩:=bindb hF
     refine AWP.rg [(2,.callC Tryz.func126 [] (closedH.c (Zt (row:=Zd) (fun _=>rfl) d f) (closedH.c (cs:=Zz (0:Int)) rfl closedH.n)) (closedH.c (Zt (row:=Zd) (fun _=>rfl) d f) (closedH.c (cs:=Zz j.2) rfl closedH.n)) (Zdc g d f (ZI (a + (ZI ((ZI (Int.tdiv (ZI (b - a)) (4:Int))) * (1:Int))))) (0:Int) j a0))] [(0,(.vw 0 0 g)),(9,(.ptr 1 0)),(10,(i64 j.1)),(11,(i64 (ZI (a + (ZI ((ZI (Int.tdiv (ZI (b - a)) (4:Int))) * (2:Int))))))),(12,(i64 (ZI (a + (ZI ((ZI (Int.tdiv (ZI (b - a)) (4:Int))) * (3:Int)))))))] [.cells (cel Zd d f),.cells (Zz j.2)] (AWP.seq ?_)
     obtain⟨k,a1,hF⟩:=bindb hF
     refine AWP.rg [(2,.callC Tryz.func126 [] (closedH.c (Zt (row:=Zd) (fun _=>rfl) d f) (closedH.c (cs:=Zz j.2) rfl closedH.n)) (closedH.c (Zt (row:=Zd) (fun _=>rfl) d f) (closedH.c (cs:=Zz k.2) rfl closedH.n)) (Zdc g d f (ZI (a + (ZI ((ZI (Int.tdiv (ZI (b - a)) (4:Int))) * (2:Int))))) j.2 k a1))] [(0,(.vw 0 0 g)),(9,(.ptr 1 0)),(10,(i64 j.1)),(11,(i64 k.1)),(12,(i64 (ZI (a + (ZI ((ZI (Int.tdiv (ZI (b - a)) (4:Int))) * (3:Int)))))))] [.cells (cel Zd d f),.cells (Zz k.2)] ?_
     obtain⟨m,a2,hF⟩:=bindb hF
     refine AWP.rg [(2,.callC Tryz.func126 [] (closedH.c (Zt (row:=Zd) (fun _=>rfl) d f) (closedH.c (cs:=Zz k.2) rfl closedH.n)) (closedH.c (Zt (row:=Zd) (fun _=>rfl) d f) (closedH.c (cs:=Zz m.2) rfl closedH.n)) (Zdc g d f (ZI (a + (ZI ((ZI (Int.tdiv (ZI (b - a)) (4:Int))) * (3:Int))))) k.2 m a2))] [(0,(.vw 0 0 g)),(9,(.ptr 1 0)),(10,(i64 j.1)),(11,(i64 k.1)),(12,(i64 m.1))] [.cells (cel Zd d f),.cells (Zz m.2)] (LeQ.start (LeQ.pk [0,9,10,11,12] 2 ?_))
     exact⟨rfl,m.2,j.1,k.1,m.1,(someb hF).symm,by kernel_rfl,by kernel_rfl⟩
    ·refine AWP.skip (LeQ.start (LeQ.pk [0,9,10,11,12] 2 ?_))
     exact⟨rfl,(0:Int),(ZI (a + (ZI ((ZI (Int.tdiv (ZI (b - a)) (4:Int))) * (1:Int))))),(ZI (a + (ZI ((ZI (Int.tdiv (ZI (b - a)) (4:Int))) * (2:Int))))),(ZI (a + (ZI ((ZI (Int.tdiv (ZI (b - a)) (4:Int))) * (3:Int))))),(someb hF).symm,by kernel_rfl,by kernel_rfl⟩
   ·rintro _ _ _ ⟨rfl,p,q,s,t,rfl,rfl,rfl⟩
    obtain⟨o,a3,hF⟩:=bindb hF
    refine AWP.rg [(4,.callC Tryz.func127 [] (closedH.c (Zt (row:=Zd) (fun _=>rfl) d f) (closedH.c (cs:=Zz p) rfl closedH.n)) (closedH.c (Zt (row:=Zd) (fun _=>rfl) d f) (closedH.c (cs:=Zz o.2) rfl closedH.n)) (Zgu g d f q s t p o a3))] [(9,(.ptr 1 0)),(11,(i64 o.1))] [.cells (cel Zd d f),.cells (Zz o.2)] (LeQ.start (LeQ.pk [9,11] 2 ?_))
    exact⟨rfl,o.2,o.1,(someb hF).symm,by kernel_rfl,by kernel_rfl⟩
  ·refine AWP.skip (LeQ.start (LeQ.pk [9,11] 2 ?_))
   exact⟨rfl,(0:Int),(ZI (a + (ZI ((ZI (Int.tdiv (ZI (b - a)) (4:Int))) * (2:Int))))),(someb hF).symm,by kernel_rfl,by kernel_rfl⟩
 ·rintro _ _ _ ⟨rfl,l,i,rfl,rfl,rfl⟩
  refine AWP.seq (AWP.rg0 [] [(11,(i64 i)),(49,(i64 l))] (AWP.block (AWP.seq (AWP.rg0 [] [(11,(i64 i)),(49,(i64 l)),(51,(vb (l == (0:Int))))] ?_))))
  refine AWP.cif hF (fun a4 hF=>?_) (fun a4 hF=>?_)
  ·refine AWP.seq (AWP.rg0 [] [(6,(i64 i)),(7,(i64 (1:Int)))] (AWP.ret ?_))
   have hr:=someb hF
   subst hr
   exact(FnQ.f0 1 (.inr rfl))
  ·refine AWP.seq (AWP.rg0 [] [(11,(i64 i)),(54,(vb (l == (12:Int))))] ?_)
   refine AWP.cif hF (fun a5 hF=>?_) (fun a5 hF=>?_)
   ·refine AWP.seq (AWP.rg0 [] [(6,(i64 i)),(7,(i64 (2:Int)))] (AWP.ret ?_))
    have hr:=someb hF
    subst hr
    exact(FnQ.f0 1 (.inr rfl))
   ·refine AWP.seq (AWP.rg0 [] [(6,(i64 i)),(7,(i64 (0:Int)))] (AWP.ret ?_))
    have hr:=someb hF
    subst hr
    exact(FnQ.f0 1 (.inr rfl))
def Zh8 (a:List Value) (r:(List Int)):PV→List Blk→Prop:=fun p K=>p=(.tup [])∧K=[.cells (cel Zd r a)]
theorem Zh9 (c:Nat) (j:(List Int)) (d:List Value) (f:Int) (g:Int) (r:(List Int)) (hF:Za7 c j f g=some r):ACall Tryz.prog glob 117 [(.vw 0 0 c),(i64 f),(i64 g)] [.cells (cel Zd j d)] (Zh8 d r):=by
 refine ACall.body Tryz.func117 rfl (by kernel_rfl) ?_
 unfold Za7 at hF
 refine AWP.seq (AWP.rg0 [] [(0,(.vw 0 0 c)),(2,(i64 g)),(6,(i64 f))] (AWP.seq (AWP.rg0 [] [(0,(.vw 0 0 c)),(6,(i64 f)),(7,(i64 (ZI (g - (1:Int)))))] ?_)))
 obtain⟨o,v,hF⟩:=bindb hF
 refine AWP.mid (fun e st H=>e=.normal∧st=[]∧H=[.cells (cel Zd o d)]) ?_ ?_
 ·clear hF
  refine AWP.kp [0,6,7] 1 ?_
  refine AWP.bround (fun n st H=>∃ i,∃ a,∃ b,Zao c n i a b=some o∧st=[(0,(.vw 0 0 c)),(6,(i64 a)),(7,(i64 b))]∧H=[.cells (cel Zd i d)]) fuel ⟨j,f,(ZI (g - (1:Int))),v,by kernel_rfl,by kernel_rfl⟩ ?_
  rintro k st H ⟨i,a,b,hF,rfl,rfl⟩
  cases k with
  | zero=>exact noneb hF
  | succ k=>
   rw [Zao] at hF
   refine AWP.seq (AWP.seq (AWP.rg0 [] [(0,(.vw 0 0 c)),(6,(i64 a)),(7,(i64 b)),(13,(vb (decide (a<b))))] ?_))
   refine AWP.cif hF (fun w hF=>?_) (fun w hF=>?_)
   ·refine AWP.skip (AWP.block (AWP.seq ?_))
    obtain⟨l,p,hF⟩:=bindb hF
    obtain⟨m,q,hF⟩:=bindb hF
    obtain⟨x,t,hF⟩:=bindb hF
    obtain⟨y,u,hF⟩:=bindb hF
    refine AWP.dr [(6,.idxV (Zp p)),(7,.ldV Zd (s:=1) (fun _=>rfl) d (Zn p) (0 + Int.toNat b * 1) (Nat.zero_add _) []),(10,.idxV (Zp q)),(11,.ldV Zd (s:=1) (fun _=>rfl) d (Zn q) (0 + Int.toNat a * 1) (Nat.zero_add _) []),(12,.idxV (Zp t)),(13,.stV Zd (s:=1) (fun _=>rfl) d (Zn t) l (0 + Int.toNat a * 1) (Nat.zero_add _) []),(14,.idxV (Zp u)),(15,.stV Zd (s:=1) (fun _=>rfl) d (Zn u) m (0 + Int.toNat b * 1) (Nat.zero_add _) [])] 14 [] [13] [] [(0,(.vw 0 0 c)),(6,(i64 a)),(7,(i64 b))] [.cells (cel Zd (List.set (List.set i (Int.toNat a) l) (Int.toNat b) m) d)] (AWP.seq (AWP.rg0 [] [(0,(.vw 0 0 c)),(6,(i64 (ZI (a + (1:Int))))),(7,(i64 b))] (AWP.rg0 [] [(0,(.vw 0 0 c)),(6,(i64 (ZI (a + (1:Int))))),(7,(i64 (ZI (b - (1:Int)))))] (LeQ.start (LeQ.pk [0,6,7] 1 ?_)))))
    exact⟨k,Nat.lt_succ_self _,(List.set (List.set i (Int.toNat a) l) (Int.toNat b) m),(ZI (a + (1:Int))),(ZI (b - (1:Int))),hF,by kernel_rfl,by kernel_rfl⟩
   ·refine AWP.exit (LeQ.start (LeQ.pk [] 1 ?_))
    have hr:=someb hF
    subst hr
    exact⟨rfl,by kernel_rfl,by kernel_rfl⟩
 ·rintro _ _ _ ⟨rfl,rfl,rfl⟩
  have hr:=someb hF
  subst hr
  exact(FnQ.f0 1 (.inl rfl))
def Zd8 (a:List Value) (r:(Bool × (List Int))):PV→List Blk→Prop:=fun p K=>p=(vb r.1)∧K=[.cells (cel Zd r.2 a)]
abbrev Zd9 (a:List Value) (r:(Bool × (List Int))):Exit→St→List Blk→Prop:=FnQ Tryz.prog Tryz.f118.results 1 (Zd8 a r)
theorem Zgv (f:Nat) (w:(List Int)) (d:List Value) (b:Int) (a:Int) (r:(Bool × (List Int))) (hF:Zap f w b a=some r):ACall Tryz.prog glob 118 [(.vw 0 0 f),(i64 b),(i64 a)] [.cells (cel Zd w d)] (Zd8 d r):=by
 refine ACall.body Tryz.func118 rfl (by kernel_rfl) ?_
 unfold Zap at hF
 refine AWP.seq (AWP.rg0 [] [(0,(.vw 0 0 f)),(1,(i64 b)),(2,(i64 a))] (AWP.seq (AWP.rg0 [] [(0,(.vw 0 0 f)),(1,(i64 b)),(2,(i64 a)),(7,(i64 (ZI (b + (1:Int)))))] (AWP.seq (AWP.seq (AWP.rg0 [] [(0,(.vw 0 0 f)),(1,(i64 b)),(2,(i64 a)),(7,(i64 (ZI (b + (1:Int))))),(8,(i64 (0:Int)))] ?_))))))
 obtain⟨x,d4,hF⟩:=bindb hF
 refine AWP.mid (fun e st H=>(e=.normal∧∃ y,x=(.inl y)∧st=[]∧H=[.cells (cel Zd y d)])∨(e=.ret∧∃ r,x=(.inr r)∧Zd9 d r e st H)) ?_ ?_
 ·clear hF
  refine AWP.kp [0,1,2,7,8] 1 ?_
  refine AWP.bround (fun n st H=>∃ k,∃ q,∃ g,Z9 f b a n k q g=some x∧st=[(0,(.vw 0 0 f)),(1,(i64 b)),(2,(i64 a)),(7,(i64 q)),(8,(i64 g))]∧H=[.cells (cel Zd k d)]) fuel ⟨w,(ZI (b + (1:Int))),(0:Int),d4,by kernel_rfl,by kernel_rfl⟩ ?_
  rintro z st H ⟨k,q,g,hF,rfl,rfl⟩
  cases z with
  | zero=>exact noneb hF
  | succ z=>
   rw [Z9] at hF
   refine AWP.seq (AWP.seq (AWP.rg0 [] [(0,(.vw 0 0 f)),(1,(i64 b)),(2,(i64 a)),(7,(i64 q)),(8,(i64 g)),(14,(vb (decide (g<(5:Int)))))] ?_))
   refine AWP.cif hF (fun d5 hF=>?_) (fun d5 hF=>?_)
   ·refine AWP.skip ?_
    obtain⟨b1,d6,hF⟩:=bindb hF
    refine AWP.seq ?_
    refine AWP.mid (fun e st H=>(e=.normal∧∃ u,∃ t,b1=(.inl (u,t))∧st=[(0,(.vw 0 0 f)),(1,(i64 b)),(2,(i64 a)),(7,(i64 t)),(8,(i64 g))]∧H=[.cells (cel Zd u d)])∨(e=.ret∧∃ r,b1=(.inr r)∧Zd9 d r e st H)) ?_ ?_
    ·clear hF
     have hF:=d6
     refine AWP.block (AWP.seq ?_)
     obtain⟨c,d7,hF⟩:=bindb hF
     refine AWP.mid (fun e st H=>e=.normal∧st=[(0,(.vw 0 0 f)),(1,(i64 b)),(2,(i64 a)),(7,(i64 c)),(8,(i64 g))]∧H=[.cells (cel Zd k d)]) ?_ ?_
     ·clear hF
      refine AWP.kp [0,1,2,7,8] 1 ?_
      refine AWP.bround (fun n st H=>∃ m,Z7 f a k n m=some c∧st=[(0,(.vw 0 0 f)),(1,(i64 b)),(2,(i64 a)),(7,(i64 m)),(8,(i64 g))]∧H=[.cells (cel Zd k d)]) fuel ⟨q,d7,by kernel_rfl,by kernel_rfl⟩ ?_
      rintro a0 st H ⟨m,hF,rfl,rfl⟩
      cases a0 with
      | zero=>exact noneb hF
      | succ a0=>
       rw [Z7] at hF
       refine AWP.seq (AWP.seq ?_)
       obtain⟨d8,v,hF⟩:=bindb hF
       replace v:=someb v
       obtain⟨d9,b2,hF⟩:=bindb hF
       refine AWP.to [(0,(.vw 0 0 f)),(1,(i64 b)),(2,(i64 a)),(7,(i64 m)),(8,(i64 g)),(32,(vb d9))] [.cells (cel Zd k d)] ?_ ?_
       ·cases d8 with
        | false=>
         have e0:=someb (ifF b2 rfl)
         subst e0
         exact AWP.drT [(3,.bool v)] 16 [] [] []
        | true=>
         have l:=ifT b2 rfl
         obtain⟨e1,b3,l⟩:=bindb l
         obtain⟨e2,b4,l⟩:=bindb l
         obtain⟨e3,e4,l⟩:=bindb l
         replace l:=someb l
         subst l
         exact AWP.drT [(3,.bool v),(6,.idxV (Zp b3)),(7,.ldV Zd (s:=1) (fun _=>rfl) d (Zn b3) (0 + Int.toNat m * 1) (Nat.zero_add _) []),(11,.idxV (Zp b4)),(12,.ldV Zd (s:=1) (fun _=>rfl) d (Zn b4) (0 + Int.toNat (ZI (m - (1:Int))) * 1) (Nat.zero_add _) []),(13,.call Tryz.func119 [] (Za4 e1 e2 e3 e4))] 16 [] [] []
       refine AWP.cif hF (fun e5 hF=>?_) (fun e5 hF=>?_)
       ·refine AWP.skip (AWP.block (AWP.rg0 [] [(0,(.vw 0 0 f)),(1,(i64 b)),(2,(i64 a)),(7,(i64 (ZI (m + (1:Int))))),(8,(i64 g))] (LeQ.start (LeQ.pk [0,1,2,7,8] 1 ?_))))
        exact⟨a0,Nat.lt_succ_self _,(ZI (m + (1:Int))),hF,by kernel_rfl,by kernel_rfl⟩
       ·refine AWP.exit (LeQ.start (LeQ.pk [0,1,2,7,8] 1 ?_))
        have hr:=someb hF
        subst hr
        exact⟨rfl,by kernel_rfl,by kernel_rfl⟩
     ·rintro _ _ _ ⟨rfl,rfl,rfl⟩
      refine AWP.seq (AWP.seq (AWP.rg0 [] [(0,(.vw 0 0 f)),(1,(i64 b)),(2,(i64 a)),(7,(i64 c)),(8,(i64 g)),(37,(vb (c == a)))] ?_))
      refine AWP.cif hF (fun e6 hF=>?_) (fun e6 hF=>?_)
      ·refine AWP.seq (AWP.rg0 [] [(6,(vb true))] (AWP.ret ?_))
       exact LeQ.of (.inr ⟨rfl,(true,k),(someb hF).symm,(FnQ.f0 1 (.inr rfl))⟩)
      ·refine AWP.skip (AWP.seq (AWP.seq (AWP.rg0 [] [(0,(.vw 0 0 f)),(1,(i64 b)),(2,(i64 a)),(7,(i64 c)),(8,(i64 g)),(41,(vb (decide ((ZI (a - b))<(50:Int)))))] ?_)))
       refine AWP.cif hF (fun e7 hF=>?_) (fun e7 hF=>?_)
       ·refine AWP.seq (AWP.rg0 [] [(6,(vb false))] (AWP.ret ?_))
        exact LeQ.of (.inr ⟨rfl,(false,k),(someb hF).symm,(FnQ.f0 1 (.inr rfl))⟩)
       ·refine AWP.skip (AWP.seq ?_)
        obtain⟨a1,b5,hF⟩:=bindb hF
        obtain⟨a2,b6,hF⟩:=bindb hF
        obtain⟨g5,b7,hF⟩:=bindb hF
        obtain⟨g6,b8,hF⟩:=bindb hF
        refine AWP.dr [(8,.idxV (Zp b5)),(9,.ldV Zd (s:=1) (fun _=>rfl) d (Zn b5) (0 + Int.toNat (ZI (c - (1:Int))) * 1) (Nat.zero_add _) []),(12,.idxV (Zp b6)),(13,.ldV Zd (s:=1) (fun _=>rfl) d (Zn b6) (0 + Int.toNat c * 1) (Nat.zero_add _) []),(14,.idxV (Zp b7)),(15,.stV Zd (s:=1) (fun _=>rfl) d (Zn b7) a1 (0 + Int.toNat c * 1) (Nat.zero_add _) []),(16,.idxV (Zp b8)),(17,.stV Zd (s:=1) (fun _=>rfl) d (Zn b8) a2 (0 + Int.toNat (ZI (c - (1:Int))) * 1) (Nat.zero_add _) [])] 16 [] [15] [] [(0,(.vw 0 0 f)),(1,(i64 b)),(2,(i64 a)),(7,(i64 c)),(8,(i64 g))] [.cells (cel Zd (List.set (List.set k (Int.toNat c) a1) (Int.toNat (ZI (c - (1:Int)))) a2) d)] ?_
        obtain⟨a3,e8,hF⟩:=bindb hF
        refine AWP.seq ?_
        refine AWP.mid (fun e st H=>e=.normal∧st=[(0,(.vw 0 0 f)),(1,(i64 b)),(2,(i64 a)),(7,(i64 c)),(8,(i64 g))]∧H=[.cells (cel Zd a3 d)]) ?_ ?_
        ·clear hF
         have hF:=e8
         refine AWP.seq (AWP.rg0 [] [(0,(.vw 0 0 f)),(1,(i64 b)),(2,(i64 a)),(7,(i64 c)),(8,(i64 g)),(61,(vb (decide ((ZI (c - b)) ≥ (2:Int)))))] ?_)
         refine AWP.cif hF (fun e9 hF=>?_) (fun e9 hF=>?_)
         ·refine AWP.seq (AWP.rg0 [] [(0,(.vw 0 0 f)),(1,(i64 b)),(2,(i64 a)),(7,(i64 c)),(8,(i64 g)),(9,(i64 (ZI (c - (1:Int)))))] ?_)
          obtain⟨b9,f1,hF⟩:=bindb hF
          refine AWP.mid (fun e st H=>e=.normal∧st=[(0,(.vw 0 0 f)),(1,(i64 b)),(2,(i64 a)),(7,(i64 c)),(8,(i64 g))]∧H=[.cells (cel Zd b9 d)]) ?_ ?_
          ·clear hF
           refine AWP.kp [0,1,2,7,8,9] 1 ?_
           refine AWP.bround (fun n st H=>∃ o,∃ i,Zy f n o i=some b9∧st=[(0,(.vw 0 0 f)),(1,(i64 b)),(2,(i64 a)),(7,(i64 c)),(8,(i64 g)),(9,(i64 i))]∧H=[.cells (cel Zd o d)]) fuel ⟨(List.set (List.set k (Int.toNat c) a1) (Int.toNat (ZI (c - (1:Int)))) a2),(ZI (c - (1:Int))),f1,by kernel_rfl,by kernel_rfl⟩ ?_
           rintro a4 st H ⟨o,i,hF,rfl,rfl⟩
           cases a4 with
           | zero=>exact noneb hF
           | succ a4=>
            rw [Zy] at hF
            refine AWP.seq (AWP.seq (AWP.rg0 [] [(0,(.vw 0 0 f)),(1,(i64 b)),(2,(i64 a)),(7,(i64 c)),(8,(i64 g)),(9,(i64 i)),(65,(vb (decide (i ≥ (1:Int)))))] ?_))
            refine AWP.cif hF (fun f2 hF=>?_) (fun f2 hF=>?_)
            ·refine AWP.skip (AWP.seq (AWP.block (AWP.seq (AWP.seq ?_))))
             obtain⟨f3,c0,hF⟩:=bindb hF
             obtain⟨f4,c1,hF⟩:=bindb hF
             obtain⟨c2,f5,hF⟩:=bindb hF
             refine AWP.dr [(2,.idxV (Zp c0)),(3,.ldV Zd (s:=1) (fun _=>rfl) d (Zn c0) (0 + Int.toNat i * 1) (Nat.zero_add _) []),(7,.idxV (Zp c1)),(8,.ldV Zd (s:=1) (fun _=>rfl) d (Zn c1) (0 + Int.toNat (ZI (i - (1:Int))) * 1) (Nat.zero_add _) []),(9,.call Tryz.func119 [] (Za4 f3 f4 c2 f5))] 11 [] [] [] [(0,(.vw 0 0 f)),(1,(i64 b)),(2,(i64 a)),(7,(i64 c)),(8,(i64 g)),(9,(i64 i)),(78,(vb (!c2)))] [.cells (cel Zd o d)] ?_
             refine AWP.cif hF (fun f6 hF=>?_) (fun f6 hF=>?_)
             ·refine AWP.exit (LeQ.start (LeQ.pk [0,1,2,7,8] 1 ?_))
              have hr:=someb hF
              subst hr
              exact⟨rfl,by kernel_rfl,by kernel_rfl⟩
             ·refine AWP.skip ?_
              obtain⟨a5,c3,hF⟩:=bindb hF
              obtain⟨a6,c4,hF⟩:=bindb hF
              obtain⟨g7,c5,hF⟩:=bindb hF
              obtain⟨g8,c6,hF⟩:=bindb hF
              refine AWP.dr [(8,.idxV (Zp c3)),(9,.ldV Zd (s:=1) (fun _=>rfl) d (Zn c3) (0 + Int.toNat (ZI (i - (1:Int))) * 1) (Nat.zero_add _) []),(12,.idxV (Zp c4)),(13,.ldV Zd (s:=1) (fun _=>rfl) d (Zn c4) (0 + Int.toNat i * 1) (Nat.zero_add _) []),(14,.idxV (Zp c5)),(15,.stV Zd (s:=1) (fun _=>rfl) d (Zn c5) a5 (0 + Int.toNat i * 1) (Nat.zero_add _) []),(16,.idxV (Zp c6)),(17,.stV Zd (s:=1) (fun _=>rfl) d (Zn c6) a6 (0 + Int.toNat (ZI (i - (1:Int))) * 1) (Nat.zero_add _) [])] 16 [] [15] [] [(0,(.vw 0 0 f)),(1,(i64 b)),(2,(i64 a)),(7,(i64 c)),(8,(i64 g)),(9,(i64 i))] [.cells (cel Zd (List.set (List.set o (Int.toNat i) a5) (Int.toNat (ZI (i - (1:Int)))) a6) d)] (AWP.rg0 [] [(0,(.vw 0 0 f)),(1,(i64 b)),(2,(i64 a)),(7,(i64 c)),(8,(i64 g)),(9,(i64 (ZI (i - (1:Int)))))] (LeQ.start (LeQ.pk [0,1,2,7,8,9] 1 ?_)))
              exact⟨a4,Nat.lt_succ_self _,(List.set (List.set o (Int.toNat i) a5) (Int.toNat (ZI (i - (1:Int)))) a6),(ZI (i - (1:Int))),hF,by kernel_rfl,by kernel_rfl⟩
            ·refine AWP.exit (LeQ.start (LeQ.pk [0,1,2,7,8] 1 ?_))
             have hr:=someb hF
             subst hr
             exact⟨rfl,by kernel_rfl,by kernel_rfl⟩
          ·rintro _ _ _ ⟨rfl,rfl,rfl⟩
           refine LeQ.start (LeQ.pk [0,1,2,7,8] 1 ?_)
           have hr:=someb hF
           subst hr
           exact⟨rfl,by kernel_rfl,by kernel_rfl⟩
         ·refine AWP.skip (LeQ.start (LeQ.pk [0,1,2,7,8] 1 ?_))
          have hr:=someb hF
          subst hr
          exact⟨rfl,by kernel_rfl,by kernel_rfl⟩
        ·rintro _ _ _ ⟨rfl,rfl,rfl⟩
         refine AWP.seq (AWP.rg0 [] [(0,(.vw 0 0 f)),(1,(i64 b)),(2,(i64 a)),(7,(i64 c)),(8,(i64 g)),(98,(vb (decide ((ZI (a - c)) ≥ (2:Int)))))] ?_)
         refine AWP.cif hF (fun f7 hF=>?_) (fun f7 hF=>?_)
         ·refine AWP.seq (AWP.rg0 [] [(0,(.vw 0 0 f)),(1,(i64 b)),(2,(i64 a)),(7,(i64 c)),(8,(i64 g)),(10,(i64 (ZI (c + (1:Int)))))] ?_)
          obtain⟨a7,f8,hF⟩:=bindb hF
          refine AWP.mid (fun e st H=>e=.normal∧st=[(0,(.vw 0 0 f)),(1,(i64 b)),(2,(i64 a)),(7,(i64 c)),(8,(i64 g))]∧H=[.cells (cel Zd a7 d)]) ?_ ?_
          ·clear hF
           refine AWP.kp [0,1,2,7,8,10] 1 ?_
           refine AWP.bround (fun n st H=>∃ p,∃ j,Z8 f a n p j=some a7∧st=[(0,(.vw 0 0 f)),(1,(i64 b)),(2,(i64 a)),(7,(i64 c)),(8,(i64 g)),(10,(i64 j))]∧H=[.cells (cel Zd p d)]) fuel ⟨a3,(ZI (c + (1:Int))),f8,by kernel_rfl,by kernel_rfl⟩ ?_
           rintro a8 st H ⟨p,j,hF,rfl,rfl⟩
           cases a8 with
           | zero=>exact noneb hF
           | succ a8=>
            rw [Z8] at hF
            refine AWP.seq (AWP.seq (AWP.rg0 [] [(0,(.vw 0 0 f)),(1,(i64 b)),(2,(i64 a)),(7,(i64 c)),(8,(i64 g)),(10,(i64 j)),(103,(vb (decide (j<a))))] ?_))
            refine AWP.cif hF (fun f9 hF=>?_) (fun f9 hF=>?_)
            ·refine AWP.skip (AWP.seq (AWP.block (AWP.seq (AWP.seq ?_))))
             obtain⟨g0,c7,hF⟩:=bindb hF
             obtain⟨g1,c8,hF⟩:=bindb hF
             obtain⟨c9,g2,hF⟩:=bindb hF
             refine AWP.dr [(2,.idxV (Zp c7)),(3,.ldV Zd (s:=1) (fun _=>rfl) d (Zn c7) (0 + Int.toNat j * 1) (Nat.zero_add _) []),(7,.idxV (Zp c8)),(8,.ldV Zd (s:=1) (fun _=>rfl) d (Zn c8) (0 + Int.toNat (ZI (j - (1:Int))) * 1) (Nat.zero_add _) []),(9,.call Tryz.func119 [] (Za4 g0 g1 c9 g2))] 11 [] [] [] [(0,(.vw 0 0 f)),(1,(i64 b)),(2,(i64 a)),(7,(i64 c)),(8,(i64 g)),(10,(i64 j)),(116,(vb (!c9)))] [.cells (cel Zd p d)] ?_
             refine AWP.cif hF (fun g3 hF=>?_) (fun g3 hF=>?_)
             ·refine AWP.exit (LeQ.start (LeQ.pk [0,1,2,7,8] 1 ?_))
              have hr:=someb hF
              subst hr
              exact⟨rfl,by kernel_rfl,by kernel_rfl⟩
             ·refine AWP.skip ?_
              obtain⟨a9,d0,hF⟩:=bindb hF
              obtain⟨b0,d1,hF⟩:=bindb hF
              obtain⟨g9,d2,hF⟩:=bindb hF
              obtain⟨h0,d3,hF⟩:=bindb hF
              refine AWP.dr [(8,.idxV (Zp d0)),(9,.ldV Zd (s:=1) (fun _=>rfl) d (Zn d0) (0 + Int.toNat (ZI (j - (1:Int))) * 1) (Nat.zero_add _) []),(12,.idxV (Zp d1)),(13,.ldV Zd (s:=1) (fun _=>rfl) d (Zn d1) (0 + Int.toNat j * 1) (Nat.zero_add _) []),(14,.idxV (Zp d2)),(15,.stV Zd (s:=1) (fun _=>rfl) d (Zn d2) a9 (0 + Int.toNat j * 1) (Nat.zero_add _) []),(16,.idxV (Zp d3)),(17,.stV Zd (s:=1) (fun _=>rfl) d (Zn d3) b0 (0 + Int.toNat (ZI (j - (1:Int))) * 1) (Nat.zero_add _) [])] 16 [] [15] [] [(0,(.vw 0 0 f)),(1,(i64 b)),(2,(i64 a)),(7,(i64 c)),(8,(i64 g)),(10,(i64 j))] [.cells (cel Zd (List.set (List.set p (Int.toNat j) a9) (Int.toNat (ZI (j - (1:Int)))) b0) d)] (AWP.rg0 [] [(0,(.vw 0 0 f)),(1,(i64 b)),(2,(i64 a)),(7,(i64 c)),(8,(i64 g)),(10,(i64 (ZI (j + (1:Int)))))] (LeQ.start (LeQ.pk [0,1,2,7,8,10] 1 ?_)))
              exact⟨a8,Nat.lt_succ_self _,(List.set (List.set p (Int.toNat j) a9) (Int.toNat (ZI (j - (1:Int)))) b0),(ZI (j + (1:Int))),hF,by kernel_rfl,by kernel_rfl⟩
            ·refine AWP.exit (LeQ.start (LeQ.pk [0,1,2,7,8] 1 ?_))
             have hr:=someb hF
             subst hr
             exact⟨rfl,by kernel_rfl,by kernel_rfl⟩
          ·rintro _ _ _ ⟨rfl,rfl,rfl⟩
           refine LeQ.start (LeQ.pk [0,1,2,7,8] 1 ?_)
           exact(.inl ⟨rfl,a7,c,(someb hF).symm,by kernel_rfl,by kernel_rfl⟩)
         ·refine AWP.skip (LeQ.start (LeQ.pk [0,1,2,7,8] 1 ?_))
          exact(.inl ⟨rfl,a3,c,(someb hF).symm,by kernel_rfl,by kernel_rfl⟩)
    ·rintro _ _ _ (⟨rfl,u,t,rfl,rfl,rfl⟩ | ⟨rfl,g4,rfl,hq⟩)
     ·refine AWP.rg0 [] [(0,(.vw 0 0 f)),(1,(i64 b)),(2,(i64 a)),(7,(i64 t)),(8,(i64 (ZI (g + (1:Int)))))] (LeQ.start (LeQ.pk [0,1,2,7,8] 1 ?_))
      exact⟨z,Nat.lt_succ_self _,u,t,(ZI (g + (1:Int))),hF,by kernel_rfl,by kernel_rfl⟩
     ·exact LeQ.of (.inr ⟨rfl,g4,(someb hF).symm,hq⟩)
   ·refine AWP.exit (LeQ.start (LeQ.pk [] 1 ?_))
    exact(.inl ⟨rfl,k,(someb hF).symm,by kernel_rfl,by kernel_rfl⟩)
 ·rintro _ _ _ (⟨rfl,y,rfl,rfl,rfl⟩ | ⟨rfl,h1,rfl,hq⟩)
  ·refine AWP.seq (AWP.rg0 [] [(6,(vb false))] (AWP.ret ?_))
   have hr:=someb hF
   subst hr
   exact(FnQ.f0 1 (.inr rfl))
  ·have hr:=someb hF
   subst hr
   exact hq
def Zhh (a:List Value) (r:(Int × (List Int))):PV→List Blk→Prop:=fun p K=>p=(i64 r.1)∧K=[.cells (cel Zd r.2 a)]
theorem Zhi (c:Nat) (q:(List Int)) (b:List Value) (a:Int) (p:Int) (l:Int) (r:(Int × (List Int))) (hF:Zbk c q a p l=some r):ACall Tryz.prog glob 120 [(.vw 0 0 c),(i64 a),(i64 p),(i64 l)] [.cells (cel Zd q b)] (Zhh b r):=by
 refine ACall.body Tryz.func120 rfl (by kernel_rfl) ?_
 unfold Zbk at hF
 refine AWP.seq (AWP.rg0 [] [(0,(.vw 0 0 c)),(1,(i64 a)),(2,(i64 p)),(3,(i64 l))] (AWP.seq ?_))
 obtain⟨x,a5,hF⟩:=bindb hF
 obtain⟨y,a6,hF⟩:=bindb hF
 obtain⟨e0,a7,hF⟩:=bindb hF
 obtain⟨e1,a8,hF⟩:=bindb hF
 refine AWP.dr [(6,.idxV (Zp a5)),(7,.ldV Zd (s:=1) (fun _=>rfl) b (Zn a5) (0 + Int.toNat l * 1) (Nat.zero_add _) []),(10,.idxV (Zp a6)),(11,.ldV Zd (s:=1) (fun _=>rfl) b (Zn a6) (0 + Int.toNat a * 1) (Nat.zero_add _) []),(12,.idxV (Zp a7)),(13,.stV Zd (s:=1) (fun _=>rfl) b (Zn a7) x (0 + Int.toNat a * 1) (Nat.zero_add _) []),(14,.idxV (Zp a8)),(15,.stV Zd (s:=1) (fun _=>rfl) b (Zn a8) y (0 + Int.toNat l * 1) (Nat.zero_add _) [])] 14 [] [13] [] [(0,(.vw 0 0 c)),(1,(i64 a)),(2,(i64 p))] [.cells (cel Zd (List.set (List.set q (Int.toNat a) x) (Int.toNat l) y) b)] (AWP.seq (AWP.rg0 [] [(0,(.vw 0 0 c)),(1,(i64 a)),(9,(i64 (ZI (a + (1:Int))))),(10,(i64 (ZI (p - (1:Int)))))] (AWP.seq ?_)))
 obtain⟨a9,c0,hF⟩:=bindb hF
 refine AWP.mid (fun e st H=>(e=.normal∧∃ z,∃ t,a9=(z,t)∧st=[(9,(i64 t))]∧H=[.cells (cel Zd z b)])) ?_ ?_
 ·clear hF
  refine AWP.kp [0,1,9,10] 1 ?_
  refine AWP.bround (fun n st H=>∃ f,∃ u,∃ i,Zai c a n f u i=some a9∧st=[(0,(.vw 0 0 c)),(1,(i64 a)),(9,(i64 u)),(10,(i64 i))]∧H=[.cells (cel Zd f b)]) fuel ⟨(List.set (List.set q (Int.toNat a) x) (Int.toNat l) y),(ZI (a + (1:Int))),(ZI (p - (1:Int))),c0,by kernel_rfl,by kernel_rfl⟩ ?_
  rintro a0 st H ⟨f,u,i,hF,rfl,rfl⟩
  cases a0 with
  | zero=>exact noneb hF
  | succ a0=>
   rw [Zai] at hF
   refine AWP.block (AWP.seq ?_)
   obtain⟨d,c1,hF⟩:=bindb hF
   refine AWP.mid (fun e st H=>e=.normal∧st=[(0,(.vw 0 0 c)),(1,(i64 a)),(9,(i64 d)),(10,(i64 i))]∧H=[.cells (cel Zd f b)]) ?_ ?_
   ·clear hF
    refine AWP.kp [0,1,9,10] 1 ?_
    refine AWP.bround (fun n st H=>∃ m,Zau c a f i n m=some d∧st=[(0,(.vw 0 0 c)),(1,(i64 a)),(9,(i64 m)),(10,(i64 i))]∧H=[.cells (cel Zd f b)]) fuel ⟨u,c1,by kernel_rfl,by kernel_rfl⟩ ?_
    rintro a1 st H ⟨m,hF,rfl,rfl⟩
    cases a1 with
    | zero=>exact noneb hF
    | succ a1=>
     rw [Zau] at hF
     refine AWP.seq (AWP.seq ?_)
     obtain⟨c2,v,hF⟩:=bindb hF
     replace v:=someb v
     obtain⟨c3,b0,hF⟩:=bindb hF
     refine AWP.to [(0,(.vw 0 0 c)),(1,(i64 a)),(9,(i64 m)),(10,(i64 i)),(43,(vb c3))] [.cells (cel Zd f b)] ?_ ?_
     ·cases c2 with
      | false=>
       have c4:=someb (ifF b0 rfl)
       subst c4
       exact AWP.drT [(3,.bool v)] 15 [] [] []
      | true=>
       have j:=ifT b0 rfl
       obtain⟨c5,b1,j⟩:=bindb j
       obtain⟨c6,b2,j⟩:=bindb j
       obtain⟨c7,c8,j⟩:=bindb j
       replace j:=someb j
       subst j
       exact AWP.drT [(3,.bool v),(6,.idxV (Zp b1)),(7,.ldV Zd (s:=1) (fun _=>rfl) b (Zn b1) (0 + Int.toNat a * 1) (Nat.zero_add _) []),(10,.idxV (Zp b2)),(11,.ldV Zd (s:=1) (fun _=>rfl) b (Zn b2) (0 + Int.toNat m * 1) (Nat.zero_add _) []),(12,.call Tryz.func119 [] (Za4 c5 c6 c7 c8))] 15 [] [] []
     refine AWP.cif hF (fun c9 hF=>?_) (fun c9 hF=>?_)
     ·refine AWP.skip (AWP.block (AWP.rg0 [] [(0,(.vw 0 0 c)),(1,(i64 a)),(9,(i64 (ZI (m + (1:Int))))),(10,(i64 i))] (LeQ.start (LeQ.pk [0,1,9,10] 1 ?_))))
      exact⟨a1,Nat.lt_succ_self _,(ZI (m + (1:Int))),hF,by kernel_rfl,by kernel_rfl⟩
     ·refine AWP.exit (LeQ.start (LeQ.pk [0,1,9,10] 1 ?_))
      have hr:=someb hF
      subst hr
      exact⟨rfl,by kernel_rfl,by kernel_rfl⟩
   ·rintro _ _ _ ⟨rfl,rfl,rfl⟩
    refine AWP.seq ?_
    obtain⟨g,d0,hF⟩:=bindb hF
    refine AWP.mid (fun e st H=>e=.normal∧st=[(0,(.vw 0 0 c)),(1,(i64 a)),(9,(i64 d)),(10,(i64 g))]∧H=[.cells (cel Zd f b)]) ?_ ?_
    ·clear hF
     refine AWP.kp [0,1,9,10] 1 ?_
     refine AWP.bround (fun n st H=>∃ o,Zav c a f d n o=some g∧st=[(0,(.vw 0 0 c)),(1,(i64 a)),(9,(i64 d)),(10,(i64 o))]∧H=[.cells (cel Zd f b)]) fuel ⟨i,d0,by kernel_rfl,by kernel_rfl⟩ ?_
     rintro a2 st H ⟨o,hF,rfl,rfl⟩
     cases a2 with
     | zero=>exact noneb hF
     | succ a2=>
      rw [Zav] at hF
      refine AWP.seq (AWP.seq ?_)
      obtain⟨d1,w,hF⟩:=bindb hF
      replace w:=someb w
      obtain⟨d2,b3,hF⟩:=bindb hF
      refine AWP.to [(0,(.vw 0 0 c)),(1,(i64 a)),(9,(i64 d)),(10,(i64 o)),(59,(vb d2))] [.cells (cel Zd f b)] ?_ ?_
      ·cases d1 with
       | false=>
        have d3:=someb (ifF b3 rfl)
        subst d3
        exact AWP.drT [(3,.bool w)] 14 [] [] []
       | true=>
        have k:=ifT b3 rfl
        obtain⟨d4,b4,k⟩:=bindb k
        obtain⟨d5,b5,k⟩:=bindb k
        obtain⟨d6,d7,k⟩:=bindb k
        replace k:=someb k
        subst k
        exact AWP.drT [(3,.bool w),(6,.idxV (Zp b4)),(7,.ldV Zd (s:=1) (fun _=>rfl) b (Zn b4) (0 + Int.toNat a * 1) (Nat.zero_add _) []),(10,.idxV (Zp b5)),(11,.ldV Zd (s:=1) (fun _=>rfl) b (Zn b5) (0 + Int.toNat o * 1) (Nat.zero_add _) []),(12,.call Tryz.func119 [] (Za4 d4 d5 d6 d7))] 14 [] [] []
      refine AWP.cif hF (fun d8 hF=>?_) (fun d8 hF=>?_)
      ·refine AWP.skip (AWP.block (AWP.rg0 [] [(0,(.vw 0 0 c)),(1,(i64 a)),(9,(i64 d)),(10,(i64 (ZI (o - (1:Int)))))] (LeQ.start (LeQ.pk [0,1,9,10] 1 ?_))))
       exact⟨a2,Nat.lt_succ_self _,(ZI (o - (1:Int))),hF,by kernel_rfl,by kernel_rfl⟩
      ·refine AWP.exit (LeQ.start (LeQ.pk [0,1,9,10] 1 ?_))
       have hr:=someb hF
       subst hr
       exact⟨rfl,by kernel_rfl,by kernel_rfl⟩
    ·rintro _ _ _ ⟨rfl,rfl,rfl⟩
     refine AWP.seq (AWP.seq (AWP.rg0 [] [(0,(.vw 0 0 c)),(1,(i64 a)),(9,(i64 d)),(10,(i64 g)),(64,(vb (decide (d > g))))] ?_))
     refine AWP.cif hF (fun d9 hF=>?_) (fun d9 hF=>?_)
     ·refine AWP.exit (LeQ.start (LeQ.pk [9] 1 ?_))
      exact⟨rfl,f,d,(someb hF).symm,by kernel_rfl,by kernel_rfl⟩
     ·refine AWP.skip (AWP.seq ?_)
      obtain⟨a3,b6,hF⟩:=bindb hF
      obtain⟨a4,b7,hF⟩:=bindb hF
      obtain⟨e2,b8,hF⟩:=bindb hF
      obtain⟨e3,b9,hF⟩:=bindb hF
      refine AWP.dr [(6,.idxV (Zp b6)),(7,.ldV Zd (s:=1) (fun _=>rfl) b (Zn b6) (0 + Int.toNat g * 1) (Nat.zero_add _) []),(10,.idxV (Zp b7)),(11,.ldV Zd (s:=1) (fun _=>rfl) b (Zn b7) (0 + Int.toNat d * 1) (Nat.zero_add _) []),(12,.idxV (Zp b8)),(13,.stV Zd (s:=1) (fun _=>rfl) b (Zn b8) a3 (0 + Int.toNat d * 1) (Nat.zero_add _) []),(14,.idxV (Zp b9)),(15,.stV Zd (s:=1) (fun _=>rfl) b (Zn b9) a4 (0 + Int.toNat g * 1) (Nat.zero_add _) [])] 14 [] [13] [] [(0,(.vw 0 0 c)),(1,(i64 a)),(9,(i64 d)),(10,(i64 g))] [.cells (cel Zd (List.set (List.set f (Int.toNat d) a3) (Int.toNat g) a4) b)] (AWP.seq (AWP.rg0 [] [(0,(.vw 0 0 c)),(1,(i64 a)),(9,(i64 (ZI (d + (1:Int))))),(10,(i64 g))] (AWP.rg0 [] [(0,(.vw 0 0 c)),(1,(i64 a)),(9,(i64 (ZI (d + (1:Int))))),(10,(i64 (ZI (g - (1:Int)))))] (LeQ.start (LeQ.pk [0,1,9,10] 1 ?_)))))
      exact⟨a0,Nat.lt_succ_self _,(List.set (List.set f (Int.toNat d) a3) (Int.toNat g) a4),(ZI (d + (1:Int))),(ZI (g - (1:Int))),hF,by kernel_rfl,by kernel_rfl⟩
 ·rintro _ _ _ ⟨rfl,z,t,rfl,rfl,rfl⟩
  refine AWP.seq (AWP.rg0 [] [(8,(i64 t))] (AWP.ret ?_))
  have hr:=someb hF
  subst hr
  exact(FnQ.f0 1 (.inr rfl))
def Zin (a:List Value) (r:(Int × Bool × (List Int))):PV→List Blk→Prop:=fun p K=>p=(.tup [(i64 r.1),(vb r.2.1)])∧K=[.cells (cel Zd r.2.2 a)]
theorem Zio (c:Nat) (j:(List Int)) (b:List Value) (a:Int) (p:Int) (d:Int) (r:(Int × Bool × (List Int))) (hF:Zbz c j a p d=some r):ACall Tryz.prog glob 121 [(.vw 0 0 c),(i64 a),(i64 p),(i64 d)] [.cells (cel Zd j b)] (Zin b r):=by
 refine ACall.body Tryz.func121 rfl (by kernel_rfl) ?_
 unfold Zbz at hF
 refine AWP.seq (AWP.rg0 [] [(0,(.vw 0 0 c)),(1,(i64 a)),(2,(i64 p)),(3,(i64 d))] (AWP.seq ?_))
 obtain⟨l,b7,hF⟩:=bindb hF
 obtain⟨m,b8,hF⟩:=bindb hF
 obtain⟨j4,b9,hF⟩:=bindb hF
 obtain⟨j5,c0,hF⟩:=bindb hF
 refine AWP.dr [(6,.idxV (Zp b7)),(7,.ldV Zd (s:=1) (fun _=>rfl) b (Zn b7) (0 + Int.toNat d * 1) (Nat.zero_add _) []),(10,.idxV (Zp b8)),(11,.ldV Zd (s:=1) (fun _=>rfl) b (Zn b8) (0 + Int.toNat a * 1) (Nat.zero_add _) []),(12,.idxV (Zp b9)),(13,.stV Zd (s:=1) (fun _=>rfl) b (Zn b9) l (0 + Int.toNat a * 1) (Nat.zero_add _) []),(14,.idxV (Zp c0)),(15,.stV Zd (s:=1) (fun _=>rfl) b (Zn c0) m (0 + Int.toNat d * 1) (Nat.zero_add _) [])] 14 [] [13] [] [(0,(.vw 0 0 c)),(1,(i64 a)),(2,(i64 p))] [.cells (cel Zd (List.set (List.set j (Int.toNat a) l) (Int.toNat d) m) b)] (AWP.seq (AWP.rg0 [] [(0,(.vw 0 0 c)),(1,(i64 a)),(10,(i64 (ZI (a + (1:Int))))),(11,(i64 (ZI (p - (1:Int)))))] (AWP.seq ?_)))
 obtain⟨f,f5,hF⟩:=bindb hF
 refine AWP.mid (fun e st H=>e=.normal∧st=[(0,(.vw 0 0 c)),(1,(i64 a)),(10,(i64 f)),(11,(i64 (ZI (p - (1:Int)))))]∧H=[.cells (cel Zd (List.set (List.set j (Int.toNat a) l) (Int.toNat d) m) b)]) ?_ ?_
 ·clear hF
  refine AWP.kp [0,1,10,11] 1 ?_
  refine AWP.bround (fun n st H=>∃ y,Za8 c j a p d l m n y=some f∧st=[(0,(.vw 0 0 c)),(1,(i64 a)),(10,(i64 y)),(11,(i64 (ZI (p - (1:Int)))))]∧H=[.cells (cel Zd (List.set (List.set j (Int.toNat a) l) (Int.toNat d) m) b)]) fuel ⟨(ZI (a + (1:Int))),f5,by kernel_rfl,by kernel_rfl⟩ ?_
  rintro a8 st H ⟨y,hF,rfl,rfl⟩
  cases a8 with
  | zero=>exact noneb hF
  | succ a8=>
   rw [Za8] at hF
   refine AWP.seq (AWP.seq ?_)
   obtain⟨f6,a2,hF⟩:=bindb hF
   replace a2:=someb a2
   obtain⟨f7,c1,hF⟩:=bindb hF
   refine AWP.to [(0,(.vw 0 0 c)),(1,(i64 a)),(10,(i64 y)),(11,(i64 (ZI (p - (1:Int))))),(43,(vb f7))] [.cells (cel Zd (List.set (List.set j (Int.toNat a) l) (Int.toNat d) m) b)] ?_ ?_
   ·cases f6 with
    | false=>
     have f8:=someb (ifF c1 rfl)
     subst f8
     exact AWP.drT [(3,.bool a2)] 14 [] [] []
    | true=>
     have q:=ifT c1 rfl
     obtain⟨f9,c2,q⟩:=bindb q
     obtain⟨g0,c3,q⟩:=bindb q
     obtain⟨g1,g2,q⟩:=bindb q
     replace q:=someb q
     subst q
     exact AWP.drT [(3,.bool a2),(6,.idxV (Zp c2)),(7,.ldV Zd (s:=1) (fun _=>rfl) b (Zn c2) (0 + Int.toNat y * 1) (Nat.zero_add _) []),(10,.idxV (Zp c3)),(11,.ldV Zd (s:=1) (fun _=>rfl) b (Zn c3) (0 + Int.toNat a * 1) (Nat.zero_add _) []),(12,.call Tryz.func119 [] (Za4 f9 g0 g1 g2))] 14 [] [] []
   refine AWP.cif hF (fun g3 hF=>?_) (fun g3 hF=>?_)
   ·refine AWP.skip (AWP.block (AWP.rg0 [] [(0,(.vw 0 0 c)),(1,(i64 a)),(10,(i64 (ZI (y + (1:Int))))),(11,(i64 (ZI (p - (1:Int)))))] (LeQ.start (LeQ.pk [0,1,10,11] 1 ?_))))
    exact⟨a8,Nat.lt_succ_self _,(ZI (y + (1:Int))),hF,by kernel_rfl,by kernel_rfl⟩
   ·refine AWP.exit (LeQ.start (LeQ.pk [0,1,10,11] 1 ?_))
    have hr:=someb hF
    subst hr
    exact⟨rfl,by kernel_rfl,by kernel_rfl⟩
 ·rintro _ _ _ ⟨rfl,rfl,rfl⟩
  refine AWP.seq ?_
  obtain⟨g,g4,hF⟩:=bindb hF
  refine AWP.mid (fun e st H=>e=.normal∧st=[(0,(.vw 0 0 c)),(1,(i64 a)),(10,(i64 f)),(11,(i64 g))]∧H=[.cells (cel Zd (List.set (List.set j (Int.toNat a) l) (Int.toNat d) m) b)]) ?_ ?_
  ·clear hF
   refine AWP.kp [0,1,10,11] 1 ?_
   refine AWP.bround (fun n st H=>∃ z,Za9 c j a d l m f n z=some g∧st=[(0,(.vw 0 0 c)),(1,(i64 a)),(10,(i64 f)),(11,(i64 z))]∧H=[.cells (cel Zd (List.set (List.set j (Int.toNat a) l) (Int.toNat d) m) b)]) fuel ⟨(ZI (p - (1:Int))),g4,by kernel_rfl,by kernel_rfl⟩ ?_
   rintro a9 st H ⟨z,hF,rfl,rfl⟩
   cases a9 with
   | zero=>exact noneb hF
   | succ a9=>
    rw [Za9] at hF
    refine AWP.seq (AWP.seq ?_)
    obtain⟨g5,a3,hF⟩:=bindb hF
    replace a3:=someb a3
    obtain⟨g6,c4,hF⟩:=bindb hF
    refine AWP.to [(0,(.vw 0 0 c)),(1,(i64 a)),(10,(i64 f)),(11,(i64 z)),(60,(vb g6))] [.cells (cel Zd (List.set (List.set j (Int.toNat a) l) (Int.toNat d) m) b)] ?_ ?_
    ·cases g5 with
     | false=>
      have g7:=someb (ifF c4 rfl)
      subst g7
      exact AWP.drT [(3,.bool a3)] 15 [] [] []
     | true=>
      have t:=ifT c4 rfl
      obtain⟨g8,c5,t⟩:=bindb t
      obtain⟨g9,c6,t⟩:=bindb t
      obtain⟨h0,h1,t⟩:=bindb t
      replace t:=someb t
      subst t
      exact AWP.drT [(3,.bool a3),(6,.idxV (Zp c5)),(7,.ldV Zd (s:=1) (fun _=>rfl) b (Zn c5) (0 + Int.toNat z * 1) (Nat.zero_add _) []),(10,.idxV (Zp c6)),(11,.ldV Zd (s:=1) (fun _=>rfl) b (Zn c6) (0 + Int.toNat a * 1) (Nat.zero_add _) []),(12,.call Tryz.func119 [] (Za4 g8 g9 h0 h1))] 15 [] [] []
    refine AWP.cif hF (fun h2 hF=>?_) (fun h2 hF=>?_)
    ·refine AWP.skip (AWP.block (AWP.rg0 [] [(0,(.vw 0 0 c)),(1,(i64 a)),(10,(i64 f)),(11,(i64 (ZI (z - (1:Int)))))] (LeQ.start (LeQ.pk [0,1,10,11] 1 ?_))))
     exact⟨a9,Nat.lt_succ_self _,(ZI (z - (1:Int))),hF,by kernel_rfl,by kernel_rfl⟩
    ·refine AWP.exit (LeQ.start (LeQ.pk [0,1,10,11] 1 ?_))
     have hr:=someb hF
     subst hr
     exact⟨rfl,by kernel_rfl,by kernel_rfl⟩
  ·rintro _ _ _ ⟨rfl,rfl,rfl⟩
   refine AWP.seq (AWP.seq (AWP.rg0 [] [(0,(.vw 0 0 c)),(1,(i64 a)),(10,(i64 f)),(11,(i64 g)),(65,(vb (decide (f > g))))] ?_))
   refine AWP.cif hF (fun h3 hF=>?_) (fun h3 hF=>?_)
   ·refine AWP.seq ?_
    obtain⟨c7,c8,hF⟩:=bindb hF
    obtain⟨c9,d0,hF⟩:=bindb hF
    obtain⟨j6,d1,hF⟩:=bindb hF
    obtain⟨j7,d2,hF⟩:=bindb hF
    refine AWP.dr [(6,.idxV (Zp c8)),(7,.ldV Zd (s:=1) (fun _=>rfl) b (Zn c8) (0 + Int.toNat a * 1) (Nat.zero_add _) []),(10,.idxV (Zp d0)),(11,.ldV Zd (s:=1) (fun _=>rfl) b (Zn d0) (0 + Int.toNat g * 1) (Nat.zero_add _) []),(12,.idxV (Zp d1)),(13,.stV Zd (s:=1) (fun _=>rfl) b (Zn d1) c7 (0 + Int.toNat g * 1) (Nat.zero_add _) []),(14,.idxV (Zp d2)),(15,.stV Zd (s:=1) (fun _=>rfl) b (Zn d2) c9 (0 + Int.toNat a * 1) (Nat.zero_add _) [])] 14 [] [13] [] [(11,(i64 g))] [.cells (cel Zd (List.set (List.set (List.set (List.set j (Int.toNat a) l) (Int.toNat d) m) (Int.toNat g) c7) (Int.toNat a) c9) b)] (AWP.seq (AWP.rg0 [] [(8,(i64 g)),(9,(vb true))] (AWP.ret ?_)))
    have hr:=someb hF
    subst hr
    exact(FnQ.f0 1 (.inr rfl))
   ·refine AWP.skip (AWP.seq ?_)
    obtain⟨b0,d3,hF⟩:=bindb hF
    obtain⟨b1,d4,hF⟩:=bindb hF
    obtain⟨j8,d5,hF⟩:=bindb hF
    obtain⟨j9,d6,hF⟩:=bindb hF
    refine AWP.dr [(6,.idxV (Zp d3)),(7,.ldV Zd (s:=1) (fun _=>rfl) b (Zn d3) (0 + Int.toNat g * 1) (Nat.zero_add _) []),(10,.idxV (Zp d4)),(11,.ldV Zd (s:=1) (fun _=>rfl) b (Zn d4) (0 + Int.toNat f * 1) (Nat.zero_add _) []),(12,.idxV (Zp d5)),(13,.stV Zd (s:=1) (fun _=>rfl) b (Zn d5) b0 (0 + Int.toNat f * 1) (Nat.zero_add _) []),(14,.idxV (Zp d6)),(15,.stV Zd (s:=1) (fun _=>rfl) b (Zn d6) b1 (0 + Int.toNat g * 1) (Nat.zero_add _) [])] 14 [] [13] [] [(0,(.vw 0 0 c)),(1,(i64 a)),(10,(i64 f)),(11,(i64 g))] [.cells (cel Zd (List.set (List.set (List.set (List.set j (Int.toNat a) l) (Int.toNat d) m) (Int.toNat f) b0) (Int.toNat g) b1) b)] (AWP.seq (AWP.rg0 [] [(0,(.vw 0 0 c)),(1,(i64 a)),(10,(i64 (ZI (f + (1:Int))))),(11,(i64 g))] (AWP.seq (AWP.rg0 [] [(0,(.vw 0 0 c)),(1,(i64 a)),(10,(i64 (ZI (f + (1:Int))))),(11,(i64 (ZI (g - (1:Int)))))] (AWP.seq ?_)))))
    obtain⟨d7,h4,hF⟩:=bindb hF
    refine AWP.mid (fun e st H=>(e=.normal∧∃ a4,∃ x,d7=(a4,x)∧st=[(0,(.vw 0 0 c)),(1,(i64 a)),(11,(i64 x))]∧H=[.cells (cel Zd a4 b)])) ?_ ?_
    ·clear hF
     refine AWP.kp [0,1,10,11] 1 ?_
     refine AWP.bround (fun n st H=>∃ k,∃ a5,∃ u,Zaw c a n k a5 u=some d7∧st=[(0,(.vw 0 0 c)),(1,(i64 a)),(10,(i64 a5)),(11,(i64 u))]∧H=[.cells (cel Zd k b)]) fuel ⟨(List.set (List.set (List.set (List.set j (Int.toNat a) l) (Int.toNat d) m) (Int.toNat f) b0) (Int.toNat g) b1),(ZI (f + (1:Int))),(ZI (g - (1:Int))),h4,by kernel_rfl,by kernel_rfl⟩ ?_
     rintro b2 st H ⟨k,a5,u,hF,rfl,rfl⟩
     cases b2 with
     | zero=>exact noneb hF
     | succ b2=>
      rw [Zaw] at hF
      refine AWP.block (AWP.seq ?_)
      obtain⟨i,h5,hF⟩:=bindb hF
      refine AWP.mid (fun e st H=>e=.normal∧st=[(0,(.vw 0 0 c)),(1,(i64 a)),(10,(i64 i)),(11,(i64 u))]∧H=[.cells (cel Zd k b)]) ?_ ?_
      ·clear hF
       refine AWP.kp [0,1,10,11] 1 ?_
       refine AWP.bround (fun n st H=>∃ a0,Zba c a k u n a0=some i∧st=[(0,(.vw 0 0 c)),(1,(i64 a)),(10,(i64 a0)),(11,(i64 u))]∧H=[.cells (cel Zd k b)]) fuel ⟨a5,h5,by kernel_rfl,by kernel_rfl⟩ ?_
       rintro b3 st H ⟨a0,hF,rfl,rfl⟩
       cases b3 with
       | zero=>exact noneb hF
       | succ b3=>
        rw [Zba] at hF
        refine AWP.seq (AWP.seq ?_)
        obtain⟨h6,a6,hF⟩:=bindb hF
        replace a6:=someb a6
        obtain⟨h7,d8,hF⟩:=bindb hF
        refine AWP.to [(0,(.vw 0 0 c)),(1,(i64 a)),(10,(i64 a0)),(11,(i64 u)),(112,(vb h7))] [.cells (cel Zd k b)] ?_ ?_
        ·cases h6 with
         | false=>
          have h8:=someb (ifF d8 rfl)
          subst h8
          exact AWP.drT [(3,.bool a6)] 14 [] [] []
         | true=>
          have v:=ifT d8 rfl
          obtain⟨h9,d9,v⟩:=bindb v
          obtain⟨i0,e0,v⟩:=bindb v
          obtain⟨i1,i2,v⟩:=bindb v
          replace v:=someb v
          subst v
          exact AWP.drT [(3,.bool a6),(6,.idxV (Zp d9)),(7,.ldV Zd (s:=1) (fun _=>rfl) b (Zn d9) (0 + Int.toNat a0 * 1) (Nat.zero_add _) []),(10,.idxV (Zp e0)),(11,.ldV Zd (s:=1) (fun _=>rfl) b (Zn e0) (0 + Int.toNat a * 1) (Nat.zero_add _) []),(12,.call Tryz.func119 [] (Za4 h9 i0 i1 i2))] 14 [] [] []
        refine AWP.cif hF (fun i3 hF=>?_) (fun i3 hF=>?_)
        ·refine AWP.skip (AWP.block (AWP.rg0 [] [(0,(.vw 0 0 c)),(1,(i64 a)),(10,(i64 (ZI (a0 + (1:Int))))),(11,(i64 u))] (LeQ.start (LeQ.pk [0,1,10,11] 1 ?_))))
         exact⟨b3,Nat.lt_succ_self _,(ZI (a0 + (1:Int))),hF,by kernel_rfl,by kernel_rfl⟩
        ·refine AWP.exit (LeQ.start (LeQ.pk [0,1,10,11] 1 ?_))
         have hr:=someb hF
         subst hr
         exact⟨rfl,by kernel_rfl,by kernel_rfl⟩
      ·rintro _ _ _ ⟨rfl,rfl,rfl⟩
       refine AWP.seq ?_
       obtain⟨o,i4,hF⟩:=bindb hF
       refine AWP.mid (fun e st H=>e=.normal∧st=[(0,(.vw 0 0 c)),(1,(i64 a)),(10,(i64 i)),(11,(i64 o))]∧H=[.cells (cel Zd k b)]) ?_ ?_
       ·clear hF
        refine AWP.kp [0,1,10,11] 1 ?_
        refine AWP.bround (fun n st H=>∃ a1,Zbb c a k i n a1=some o∧st=[(0,(.vw 0 0 c)),(1,(i64 a)),(10,(i64 i)),(11,(i64 a1))]∧H=[.cells (cel Zd k b)]) fuel ⟨u,i4,by kernel_rfl,by kernel_rfl⟩ ?_
        rintro b4 st H ⟨a1,hF,rfl,rfl⟩
        cases b4 with
        | zero=>exact noneb hF
        | succ b4=>
         rw [Zbb] at hF
         refine AWP.seq (AWP.seq ?_)
         obtain⟨i5,a7,hF⟩:=bindb hF
         replace a7:=someb a7
         obtain⟨i6,e1,hF⟩:=bindb hF
         refine AWP.to [(0,(.vw 0 0 c)),(1,(i64 a)),(10,(i64 i)),(11,(i64 a1)),(129,(vb i6))] [.cells (cel Zd k b)] ?_ ?_
         ·cases i5 with
          | false=>
           have i7:=someb (ifF e1 rfl)
           subst i7
           exact AWP.drT [(3,.bool a7)] 15 [] [] []
          | true=>
           have w:=ifT e1 rfl
           obtain⟨i8,e2,w⟩:=bindb w
           obtain⟨i9,e3,w⟩:=bindb w
           obtain⟨j0,j1,w⟩:=bindb w
           replace w:=someb w
           subst w
           exact AWP.drT [(3,.bool a7),(6,.idxV (Zp e2)),(7,.ldV Zd (s:=1) (fun _=>rfl) b (Zn e2) (0 + Int.toNat a1 * 1) (Nat.zero_add _) []),(10,.idxV (Zp e3)),(11,.ldV Zd (s:=1) (fun _=>rfl) b (Zn e3) (0 + Int.toNat a * 1) (Nat.zero_add _) []),(12,.call Tryz.func119 [] (Za4 i8 i9 j0 j1))] 15 [] [] []
         refine AWP.cif hF (fun j2 hF=>?_) (fun j2 hF=>?_)
         ·refine AWP.skip (AWP.block (AWP.rg0 [] [(0,(.vw 0 0 c)),(1,(i64 a)),(10,(i64 i)),(11,(i64 (ZI (a1 - (1:Int)))))] (LeQ.start (LeQ.pk [0,1,10,11] 1 ?_))))
          exact⟨b4,Nat.lt_succ_self _,(ZI (a1 - (1:Int))),hF,by kernel_rfl,by kernel_rfl⟩
         ·refine AWP.exit (LeQ.start (LeQ.pk [0,1,10,11] 1 ?_))
          have hr:=someb hF
          subst hr
          exact⟨rfl,by kernel_rfl,by kernel_rfl⟩
       ·rintro _ _ _ ⟨rfl,rfl,rfl⟩
        refine AWP.seq (AWP.seq (AWP.rg0 [] [(0,(.vw 0 0 c)),(1,(i64 a)),(10,(i64 i)),(11,(i64 o)),(134,(vb (decide (i > o))))] ?_))
        refine AWP.cif hF (fun j3 hF=>?_) (fun j3 hF=>?_)
        ·refine AWP.exit (LeQ.start (LeQ.pk [0,1,11] 1 ?_))
         exact⟨rfl,k,o,(someb hF).symm,by kernel_rfl,by kernel_rfl⟩
        ·refine AWP.skip (AWP.seq ?_)
         obtain⟨b5,e4,hF⟩:=bindb hF
         obtain⟨b6,e5,hF⟩:=bindb hF
         obtain⟨k0,e6,hF⟩:=bindb hF
         obtain⟨k1,e7,hF⟩:=bindb hF
         refine AWP.dr [(6,.idxV (Zp e4)),(7,.ldV Zd (s:=1) (fun _=>rfl) b (Zn e4) (0 + Int.toNat o * 1) (Nat.zero_add _) []),(10,.idxV (Zp e5)),(11,.ldV Zd (s:=1) (fun _=>rfl) b (Zn e5) (0 + Int.toNat i * 1) (Nat.zero_add _) []),(12,.idxV (Zp e6)),(13,.stV Zd (s:=1) (fun _=>rfl) b (Zn e6) b5 (0 + Int.toNat i * 1) (Nat.zero_add _) []),(14,.idxV (Zp e7)),(15,.stV Zd (s:=1) (fun _=>rfl) b (Zn e7) b6 (0 + Int.toNat o * 1) (Nat.zero_add _) [])] 14 [] [13] [] [(0,(.vw 0 0 c)),(1,(i64 a)),(10,(i64 i)),(11,(i64 o))] [.cells (cel Zd (List.set (List.set k (Int.toNat i) b5) (Int.toNat o) b6) b)] (AWP.seq (AWP.rg0 [] [(0,(.vw 0 0 c)),(1,(i64 a)),(10,(i64 (ZI (i + (1:Int))))),(11,(i64 o))] (AWP.rg0 [] [(0,(.vw 0 0 c)),(1,(i64 a)),(10,(i64 (ZI (i + (1:Int))))),(11,(i64 (ZI (o - (1:Int)))))] (LeQ.start (LeQ.pk [0,1,10,11] 1 ?_)))))
         exact⟨b2,Nat.lt_succ_self _,(List.set (List.set k (Int.toNat i) b5) (Int.toNat o) b6),(ZI (i + (1:Int))),(ZI (o - (1:Int))),hF,by kernel_rfl,by kernel_rfl⟩
    ·rintro _ _ _ ⟨rfl,a4,x,rfl,rfl,rfl⟩
     refine AWP.seq ?_
     obtain⟨e8,e9,hF⟩:=bindb hF
     obtain⟨f1,f2,hF⟩:=bindb hF
     obtain⟨k2,f3,hF⟩:=bindb hF
     obtain⟨k3,f4,hF⟩:=bindb hF
     refine AWP.dr [(6,.idxV (Zp e9)),(7,.ldV Zd (s:=1) (fun _=>rfl) b (Zn e9) (0 + Int.toNat a * 1) (Nat.zero_add _) []),(10,.idxV (Zp f2)),(11,.ldV Zd (s:=1) (fun _=>rfl) b (Zn f2) (0 + Int.toNat x * 1) (Nat.zero_add _) []),(12,.idxV (Zp f3)),(13,.stV Zd (s:=1) (fun _=>rfl) b (Zn f3) e8 (0 + Int.toNat x * 1) (Nat.zero_add _) []),(14,.idxV (Zp f4)),(15,.stV Zd (s:=1) (fun _=>rfl) b (Zn f4) f1 (0 + Int.toNat a * 1) (Nat.zero_add _) [])] 14 [] [13] [] [(11,(i64 x))] [.cells (cel Zd (List.set (List.set a4 (Int.toNat x) e8) (Int.toNat a) f1) b)] (AWP.seq (AWP.rg0 [] [(8,(i64 x)),(9,(vb false))] (AWP.ret ?_)))
     have hr:=someb hF
     subst hr
     exact(FnQ.f0 1 (.inr rfl))
def Zes (a:List Value) (r:(List Int)):PV→List Blk→Prop:=fun p K=>p=(.tup [])∧K=[.cells (cel Zd r a)]
abbrev Zgq (a:List Value) (r:(List Int)):Exit→St→List Blk→Prop:=FnQ Tryz.prog Tryz.f111.results 1 (Zes a r)
theorem Zip:∀(nr:Nat) (g:Nat) (a1:(List Int)) (d:List Value) (v:Int) (w:Int) (x:Int) (r:(List Int)) (hF:Zw nr g a1 v w x=some r),ACall Tryz.prog glob 111 [(.vw 0 0 g),(i64 v),(i64 w),(i64 x)] [.cells (cel Zd a1 d)] (Zes d r):=by
 intro nr
 induction nr with
 | zero=>intro g a1 d v w x r hF; exact noneb (by rw [Zw] at hF; exact hF)
 | succ nr ih=>
  intro g a1 d v w x r hF
  refine ACall.body Tryz.func111 rfl (by kernel_rfl) ?_
  rw [Zw] at hF
  refine AWP.seq (AWP.rg0 [] [(0,(.vw 0 0 g)),(1,(i64 v)),(2,(i64 w)),(3,(i64 x)),(8,(vb true))] (AWP.seq (AWP.rg0 [] [(0,(.vw 0 0 g)),(1,(i64 v)),(2,(i64 w)),(3,(i64 x)),(8,(vb true)),(9,(vb true))] ?_)))
  obtain⟨b3,b9,hF⟩:=bindb hF
  refine AWP.mid (fun e st H=>(e=.ret∧∃ r,b3=r∧Zgq d r e st H)) ?_ ?_
  ·clear hF
   refine AWP.kp [0,1,2,3,8,9] 1 ?_
   refine AWP.bround (fun n st H=>∃ o,∃ b,∃ a,∃ l,∃ j,∃ k,Zaq g (Zw nr) n o b a l j k=some b3∧st=[(0,(.vw 0 0 g)),(1,(i64 b)),(2,(i64 a)),(3,(i64 l)),(8,(vb j)),(9,(vb k))]∧H=[.cells (cel Zd o d)]) fuel ⟨a1,v,w,x,true,true,b9,by kernel_rfl,by kernel_rfl⟩ ?_
   rintro a2 st H ⟨o,b,a,l,j,k,hF,rfl,rfl⟩
   cases a2 with
   | zero=>exact noneb hF
   | succ a2=>
    rw [Zaq] at hF
    refine AWP.block (AWP.seq (AWP.rg0 [] [(0,(.vw 0 0 g)),(1,(i64 b)),(2,(i64 a)),(3,(i64 l)),(8,(vb j)),(9,(vb k)),(10,(i64 (ZI (a - b))))] (AWP.seq (AWP.seq (AWP.rg0 [] [(0,(.vw 0 0 g)),(1,(i64 b)),(2,(i64 a)),(3,(i64 l)),(8,(vb j)),(9,(vb k)),(10,(i64 (ZI (a - b)))),(23,(vb (decide ((ZI (a - b))≤(12:Int)))))] ?_)))))
    refine AWP.cif hF (fun c0 hF=>?_) (fun c0 hF=>?_)
    ·refine AWP.seq ?_
     obtain⟨a5,c1,hF⟩:=bindb hF
     refine AWP.rg [(3,.callC Tryz.func113 [] (closedH.c (Zt (row:=Zd) (fun _=>rfl) o d) closedH.n) (closedH.c (Zt (row:=Zd) (fun _=>rfl) a5 d) closedH.n) (Zht g o d b a a5 c1))] [] [.cells (cel Zd a5 d)] (AWP.ret ?_)
     exact LeQ.of ⟨rfl,a5,(someb hF).symm,(FnQ.f0 1 (.inr rfl))⟩
    ·refine AWP.skip (AWP.seq (AWP.seq (AWP.rg0 [] [(0,(.vw 0 0 g)),(1,(i64 b)),(2,(i64 a)),(3,(i64 l)),(8,(vb j)),(9,(vb k)),(10,(i64 (ZI (a - b)))),(29,(vb (l == (0:Int))))] ?_)))
     refine AWP.cif hF (fun c2 hF=>?_) (fun c2 hF=>?_)
     ·refine AWP.seq ?_
      obtain⟨a6,c3,hF⟩:=bindb hF
      refine AWP.rg [(3,.callC Tryz.func114 [] (closedH.c (Zt (row:=Zd) (fun _=>rfl) o d) closedH.n) (closedH.c (Zt (row:=Zd) (fun _=>rfl) a6 d) closedH.n) (Zi0 g o d b a a6 c3))] [] [.cells (cel Zd a6 d)] (AWP.ret ?_)
      exact LeQ.of ⟨rfl,a6,(someb hF).symm,(FnQ.f0 1 (.inr rfl))⟩
     ·refine AWP.skip ?_
      obtain⟨c4,c5,hF⟩:=bindb hF
      refine AWP.seq ?_
      refine AWP.mid (fun e st H=>(e=.normal∧∃ q,∃ i,c4=(q,i)∧st=[(0,(.vw 0 0 g)),(1,(i64 b)),(2,(i64 a)),(3,(i64 i)),(8,(vb j)),(9,(vb k)),(10,(i64 (ZI (a - b))))]∧H=[.cells (cel Zd q d)])) ?_ ?_
      ·clear hF
       have hF:=c5
       refine AWP.seq (AWP.rg0 [] [(0,(.vw 0 0 g)),(1,(i64 b)),(2,(i64 a)),(3,(i64 l)),(8,(vb j)),(9,(vb k)),(10,(i64 (ZI (a - b)))),(35,(vb (!j)))] ?_)
       refine AWP.cif hF (fun c6 hF=>?_) (fun c6 hF=>?_)
       ·refine AWP.seq ?_
        obtain⟨a7,c7,hF⟩:=bindb hF
        refine AWP.rg [(3,.callC Tryz.func115 [] (closedH.c (Zt (row:=Zd) (fun _=>rfl) o d) closedH.n) (closedH.c (Zt (row:=Zd) (fun _=>rfl) a7 d) closedH.n) (Zhv g o d b a a7 c7))] [(0,(.vw 0 0 g)),(1,(i64 b)),(2,(i64 a)),(3,(i64 l)),(8,(vb j)),(9,(vb k)),(10,(i64 (ZI (a - b))))] [.cells (cel Zd a7 d)] (AWP.rg0 [] [(0,(.vw 0 0 g)),(1,(i64 b)),(2,(i64 a)),(3,(i64 (ZI (l - (1:Int))))),(8,(vb j)),(9,(vb k)),(10,(i64 (ZI (a - b))))] (LeQ.start (LeQ.pk [0,1,2,3,8,9,10] 1 ?_)))
        exact⟨rfl,a7,(ZI (l - (1:Int))),(someb hF).symm,by kernel_rfl,by kernel_rfl⟩
       ·refine AWP.skip (LeQ.start (LeQ.pk [0,1,2,3,8,9,10] 1 ?_))
        exact⟨rfl,o,l,(someb hF).symm,by kernel_rfl,by kernel_rfl⟩
      ·rintro _ _ _ ⟨rfl,q,i,rfl,rfl,rfl⟩
       refine AWP.seq ?_
       obtain⟨m,c8,hF⟩:=bindb hF
       refine AWP.rg0 [(3,.callC Tryz.func116 [] (closedH.c (Zt (row:=Zd) (fun _=>rfl) q d) closedH.n) (closedH.c (Zt (row:=Zd) (fun _=>rfl) q d) closedH.n) (Zid g q d b a m c8))] [(0,(.vw 0 0 g)),(1,(i64 b)),(2,(i64 a)),(3,(i64 i)),(8,(vb j)),(9,(vb k)),(10,(i64 (ZI (a - b)))),(11,(i64 m.1)),(12,(i64 m.2))] ?_
       obtain⟨c9,d0,hF⟩:=bindb hF
       refine AWP.seq ?_
       refine AWP.mid (fun e st H=>(e=.normal∧∃ y,∃ p,∃ a8,c9=(y,p,a8)∧st=[(0,(.vw 0 0 g)),(1,(i64 b)),(2,(i64 a)),(3,(i64 i)),(8,(vb j)),(9,(vb k)),(10,(i64 (ZI (a - b)))),(11,(i64 p)),(12,(i64 a8))]∧H=[.cells (cel Zd y d)])) ?_ ?_
       ·clear hF
        have hF:=d0
        refine AWP.seq (AWP.rg0 [] [(0,(.vw 0 0 g)),(1,(i64 b)),(2,(i64 a)),(3,(i64 i)),(8,(vb j)),(9,(vb k)),(10,(i64 (ZI (a - b)))),(11,(i64 m.1)),(12,(i64 m.2)),(50,(vb (m.2 == (2:Int))))] ?_)
        refine AWP.cif hF (fun d1 hF=>?_) (fun d1 hF=>?_)
        ·refine AWP.seq ?_
         obtain⟨a9,d2,hF⟩:=bindb hF
         refine AWP.rg [(3,.callC Tryz.func117 [] (closedH.c (Zt (row:=Zd) (fun _=>rfl) q d) closedH.n) (closedH.c (Zt (row:=Zd) (fun _=>rfl) a9 d) closedH.n) (Zh9 g q d b a a9 d2))] [(0,(.vw 0 0 g)),(1,(i64 b)),(2,(i64 a)),(3,(i64 i)),(8,(vb j)),(9,(vb k)),(10,(i64 (ZI (a - b)))),(11,(i64 m.1))] [.cells (cel Zd a9 d)] (AWP.seq (AWP.rg0 [] [(0,(.vw 0 0 g)),(1,(i64 b)),(2,(i64 a)),(3,(i64 i)),(8,(vb j)),(9,(vb k)),(10,(i64 (ZI (a - b)))),(11,(i64 (ZI ((ZI (a - (1:Int))) - (ZI (m.1 - b))))))] (AWP.rg0 [] [(0,(.vw 0 0 g)),(1,(i64 b)),(2,(i64 a)),(3,(i64 i)),(8,(vb j)),(9,(vb k)),(10,(i64 (ZI (a - b)))),(11,(i64 (ZI ((ZI (a - (1:Int))) - (ZI (m.1 - b)))))),(12,(i64 (1:Int)))] (LeQ.start (LeQ.pk [0,1,2,3,8,9,10,11,12] 1 ?_)))))
         exact⟨rfl,a9,(ZI ((ZI (a - (1:Int))) - (ZI (m.1 - b)))),(1:Int),(someb hF).symm,by kernel_rfl,by kernel_rfl⟩
        ·refine AWP.skip (LeQ.start (LeQ.pk [0,1,2,3,8,9,10,11,12] 1 ?_))
         exact⟨rfl,q,m.1,m.2,(someb hF).symm,by kernel_rfl,by kernel_rfl⟩
       ·rintro _ _ _ ⟨rfl,y,p,a8,rfl,rfl,rfl⟩
        obtain⟨b4,d3,hF⟩:=bindb hF
        refine AWP.seq ?_
        refine AWP.mid (fun e st H=>(e=.normal∧∃ u,b4=(.inl u)∧st=[(0,(.vw 0 0 g)),(1,(i64 b)),(2,(i64 a)),(3,(i64 i)),(8,(vb j)),(9,(vb k)),(10,(i64 (ZI (a - b)))),(11,(i64 p))]∧H=[.cells (cel Zd u d)])∨(e=.ret∧∃ r,b4=(.inr r)∧Zgq d r e st H)) ?_ ?_
        ·clear hF
         have hF:=d3
         refine AWP.seq ?_
         obtain⟨d4,a3,hF⟩:=bindb hF
         replace a3:=someb a3
         obtain⟨b5,a4,hF⟩:=bindb hF
         replace a4:=someb a4
         refine AWP.to [(0,(.vw 0 0 g)),(1,(i64 b)),(2,(i64 a)),(3,(i64 i)),(8,(vb j)),(9,(vb k)),(10,(i64 (ZI (a - b)))),(11,(i64 p)),(68,(vb (b5 && (a8 == (1:Int)))))] [.cells (cel Zd y d)] ?_ ?_
         ·cases d4 with
          | false=>
           subst a4
           exact AWP.rgT [(1,.bool a3)]
          | true=>
           cases b5 with
           | false=>
            exact AWP.rgT [(1,.bool a3),(4,.bool a4)]
           | true=>
            exact AWP.rgT [(1,.bool a3),(4,.bool a4)]
         refine AWP.cif hF (fun d5 hF=>?_) (fun d5 hF=>?_)
         ·refine AWP.seq ?_
          obtain⟨a0,d6,hF⟩:=bindb hF
          refine AWP.rg [(3,.callC Tryz.func118 [] (closedH.c (Zt (row:=Zd) (fun _=>rfl) y d) closedH.n) (closedH.c (Zt (row:=Zd) (fun _=>rfl) a0.2 d) closedH.n) (Zgv g y d b a a0 d6))] [(0,(.vw 0 0 g)),(1,(i64 b)),(2,(i64 a)),(3,(i64 i)),(8,(vb j)),(9,(vb k)),(10,(i64 (ZI (a - b)))),(11,(i64 p)),(72,(vb a0.1))] [.cells (cel Zd a0.2 d)] ?_
          refine AWP.cif hF (fun d7 hF=>?_) (fun d7 hF=>?_)
          ·refine AWP.ret ?_
           exact LeQ.of (.inr ⟨rfl,a0.2,(someb hF).symm,(FnQ.f0 1 (.inr rfl))⟩)
          ·refine AWP.skip (LeQ.start (LeQ.pk [0,1,2,3,8,9,10,11] 1 ?_))
           exact(.inl ⟨rfl,a0.2,(someb hF).symm,by kernel_rfl,by kernel_rfl⟩)
         ·refine AWP.skip (LeQ.start (LeQ.pk [0,1,2,3,8,9,10,11] 1 ?_))
          exact(.inl ⟨rfl,y,(someb hF).symm,by kernel_rfl,by kernel_rfl⟩)
        ·rintro _ _ _ (⟨rfl,u,rfl,rfl,rfl⟩ | ⟨rfl,d8,rfl,hq⟩)
         ·refine AWP.seq (AWP.seq ?_)
          obtain⟨d9,b0,hF⟩:=bindb hF
          replace b0:=someb b0
          obtain⟨e0,b6,hF⟩:=bindb hF
          refine AWP.to [(0,(.vw 0 0 g)),(1,(i64 b)),(2,(i64 a)),(3,(i64 i)),(8,(vb j)),(9,(vb k)),(10,(i64 (ZI (a - b)))),(11,(i64 p)),(87,(vb e0))] [.cells (cel Zd u d)] ?_ ?_
          ·cases d9 with
           | false=>
            have e1:=someb (ifF b6 rfl)
            subst e1
            exact AWP.drT [(2,.bool b0)] 15 [] [] []
           | true=>
            have t:=ifT b6 rfl
            obtain⟨e2,b7,t⟩:=bindb t
            obtain⟨e3,b8,t⟩:=bindb t
            obtain⟨e4,e5,t⟩:=bindb t
            replace t:=someb t
            subst t
            exact AWP.drT [(2,.bool b0),(6,.idxV (Zp b7)),(7,.ldV Zd (s:=1) (fun _=>rfl) d (Zn b7) (0 + Int.toNat (ZI (b - (1:Int))) * 1) (Nat.zero_add _) []),(10,.idxV (Zp b8)),(11,.ldV Zd (s:=1) (fun _=>rfl) d (Zn b8) (0 + Int.toNat p * 1) (Nat.zero_add _) []),(12,.call Tryz.func119 [] (Za4 e2 e3 e4 e5))] 15 [] [] []
          refine AWP.cif hF (fun e6 hF=>?_) (fun e6 hF=>?_)
          ·refine AWP.seq ?_
           obtain⟨z,e7,hF⟩:=bindb hF
           refine AWP.rg [(4,.callC Tryz.func120 [] (closedH.c (Zt (row:=Zd) (fun _=>rfl) u d) closedH.n) (closedH.c (Zt (row:=Zd) (fun _=>rfl) z.2 d) closedH.n) (Zhi g u d b a p z e7))] [(0,(.vw 0 0 g)),(2,(i64 a)),(3,(i64 i)),(8,(vb j)),(9,(vb k)),(13,(i64 z.1))] [.cells (cel Zd z.2 d)] (AWP.seq (AWP.rg0 [] [(0,(.vw 0 0 g)),(1,(i64 z.1)),(2,(i64 a)),(3,(i64 i)),(8,(vb j)),(9,(vb k))] (AWP.exit (LeQ.start (LeQ.pk [0,1,2,3,8,9] 1 ?_)))))
           exact⟨a2,Nat.lt_succ_self _,z.2,z.1,a,i,j,k,hF,by kernel_rfl,by kernel_rfl⟩
          ·refine AWP.skip (AWP.seq ?_)
           obtain⟨f,e8,hF⟩:=bindb hF
           refine AWP.rg [(4,.callC Tryz.func121 [] (closedH.c (Zt (row:=Zd) (fun _=>rfl) u d) closedH.n) (closedH.c (Zt (row:=Zd) (fun _=>rfl) f.2.2 d) closedH.n) (Zio g u d b a p f e8))] [(0,(.vw 0 0 g)),(1,(i64 b)),(2,(i64 a)),(3,(i64 i)),(10,(i64 (ZI (a - b)))),(14,(i64 f.1)),(15,(vb f.2.1))] [.cells (cel Zd f.2.2 d)] (AWP.seq (AWP.rg0 [] [(0,(.vw 0 0 g)),(1,(i64 b)),(2,(i64 a)),(3,(i64 i)),(9,(vb f.2.1)),(10,(i64 (ZI (a - b)))),(14,(i64 f.1))] (AWP.seq (AWP.rg0 [] [(0,(.vw 0 0 g)),(1,(i64 b)),(2,(i64 a)),(3,(i64 i)),(9,(vb f.2.1)),(10,(i64 (ZI (a - b)))),(14,(i64 f.1)),(16,(i64 (ZI (f.1 - b)))),(17,(i64 (ZI (a - f.1))))] (AWP.seq (AWP.rg0 [] [(0,(.vw 0 0 g)),(1,(i64 b)),(2,(i64 a)),(3,(i64 i)),(9,(vb f.2.1)),(14,(i64 f.1)),(16,(i64 (ZI (f.1 - b)))),(17,(i64 (ZI (a - f.1)))),(18,(i64 (ZI (Int.tdiv (ZI (a - b)) (8:Int)))))] ?_))))))
           refine AWP.seq (AWP.rg0 [] [(0,(.vw 0 0 g)),(1,(i64 b)),(2,(i64 a)),(3,(i64 i)),(9,(vb f.2.1)),(14,(i64 f.1)),(16,(i64 (ZI (f.1 - b)))),(17,(i64 (ZI (a - f.1)))),(18,(i64 (ZI (Int.tdiv (ZI (a - b)) (8:Int))))),(113,(vb (decide ((ZI (f.1 - b))<(ZI (a - f.1))))))] ?_)
           refine AWP.cif hF (fun e9 hF=>?_) (fun e9 hF=>?_)
           ·refine AWP.seq (AWP.rg0 [] [(0,(.vw 0 0 g)),(1,(i64 b)),(2,(i64 a)),(3,(i64 i)),(8,(vb (decide ((ZI (f.1 - b)) ≥ (ZI (Int.tdiv (ZI (a - b)) (8:Int))))))),(9,(vb f.2.1)),(14,(i64 f.1))] (AWP.seq ?_))
            obtain⟨b1,f1,hF⟩:=bindb hF
            refine AWP.rg [(4,.callC Tryz.func111 [] (closedH.c (Zt (row:=Zd) (fun _=>rfl) f.2.2 d) closedH.n) (closedH.c (Zt (row:=Zd) (fun _=>rfl) b1 d) closedH.n) (ih g f.2.2 d b f.1 i b1 f1))] [(0,(.vw 0 0 g)),(2,(i64 a)),(3,(i64 i)),(8,(vb (decide ((ZI (f.1 - b)) ≥ (ZI (Int.tdiv (ZI (a - b)) (8:Int))))))),(9,(vb f.2.1)),(14,(i64 f.1))] [.cells (cel Zd b1 d)] (AWP.rg0 [] [(0,(.vw 0 0 g)),(1,(i64 (ZI (f.1 + (1:Int))))),(2,(i64 a)),(3,(i64 i)),(8,(vb (decide ((ZI (f.1 - b)) ≥ (ZI (Int.tdiv (ZI (a - b)) (8:Int))))))),(9,(vb f.2.1))] (LeQ.start (LeQ.pk [0,1,2,3,8,9] 1 ?_)))
            exact⟨a2,Nat.lt_succ_self _,b1,(ZI (f.1 + (1:Int))),a,i,(decide ((ZI (f.1 - b)) ≥ (ZI (Int.tdiv (ZI (a - b)) (8:Int))))),f.2.1,hF,by kernel_rfl,by kernel_rfl⟩
           ·refine AWP.seq (AWP.rg0 [] [(0,(.vw 0 0 g)),(1,(i64 b)),(2,(i64 a)),(3,(i64 i)),(8,(vb (decide ((ZI (a - f.1)) ≥ (ZI (Int.tdiv (ZI (a - b)) (8:Int))))))),(9,(vb f.2.1)),(14,(i64 f.1))] (AWP.seq ?_))
            obtain⟨b2,f2,hF⟩:=bindb hF
            refine AWP.rg [(5,.callC Tryz.func111 [] (closedH.c (Zt (row:=Zd) (fun _=>rfl) f.2.2 d) closedH.n) (closedH.c (Zt (row:=Zd) (fun _=>rfl) b2 d) closedH.n) (ih g f.2.2 d (ZI (f.1 + (1:Int))) a i b2 f2))] [(0,(.vw 0 0 g)),(1,(i64 b)),(3,(i64 i)),(8,(vb (decide ((ZI (a - f.1)) ≥ (ZI (Int.tdiv (ZI (a - b)) (8:Int))))))),(9,(vb f.2.1)),(14,(i64 f.1))] [.cells (cel Zd b2 d)] (AWP.rg0 [] [(0,(.vw 0 0 g)),(1,(i64 b)),(2,(i64 f.1)),(3,(i64 i)),(8,(vb (decide ((ZI (a - f.1)) ≥ (ZI (Int.tdiv (ZI (a - b)) (8:Int))))))),(9,(vb f.2.1))] (LeQ.start (LeQ.pk [0,1,2,3,8,9] 1 ?_)))
            exact⟨a2,Nat.lt_succ_self _,b2,b,f.1,i,(decide ((ZI (a - f.1)) ≥ (ZI (Int.tdiv (ZI (a - b)) (8:Int))))),f.2.1,hF,by kernel_rfl,by kernel_rfl⟩
         ·exact LeQ.of ⟨rfl,d8,(someb hF).symm,hq⟩
  ·rintro _ _ _ ⟨rfl,f3,rfl,hq⟩
   have hr:=someb hF
   subst hr
   exact hq
theorem Zjc (a:Nat) (b:(List Int)) (c:List Value) (d:Int) (f:Int) (g:Int) (r:(List Int)) (hF:Zw fuel a b d f g=some r):ACall Tryz.prog glob 111 [(.vw 0 0 a),(i64 d),(i64 f),(i64 g)] [.cells (cel Zd b c)] (Zes c r):=Zip fuel a b c d f g r hF
def Zj7 (a:List Value) (r:(List Int)):PV→List Blk→Prop:=fun p K=>p=(.tup [])∧K=[.cells (cel Zd r a)]
theorem Zj8 (a:Nat) (d:(List Int)) (b:List Value) (r:(List Int)) (hF:Zcx a d=some r):ACall Tryz.prog glob 109 [(.vw 0 0 a)] [.cells (cel Zd d b)] (Zj7 b r):=by
 refine ACall.body Tryz.func109 rfl (by kernel_rfl) ?_
 unfold Zcx at hF
 refine AWP.seq (AWP.rg0 [(1,.lenV a)] [(0,(.vw 0 0 a)),(2,(i64 (a:Int)))] ?_)
 obtain⟨g,i,hF⟩:=bindb hF
 obtain⟨f,j,hF⟩:=bindb hF
 refine AWP.rg [(4,.call Tryz.func112 [] (Zlp (IntKind.wrap .u64 (a:Int)) g i)),(5,.callC Tryz.func111 [] (closedH.c (Zt (row:=Zd) (fun _=>rfl) d b) closedH.n) (closedH.c (Zt (row:=Zd) (fun _=>rfl) f b) closedH.n) (Zjc a d b (0:Int) (a:Int) g f j))] [] [.cells (cel Zd f b)] ?_
 have hr:=someb hF
 subst hr
 exact(FnQ.f0 1 (.inl rfl))
def Zgr (a:List Value) (r:(Nat × (List Int))):PV→List Blk→Prop:=fun p K=>p=(.vw 0 0 r.1)∧K=[.cells (cel Zd r.2 a)]
abbrev Zjd (a:List Value) (r:(Nat × (List Int))):Exit→St→List Blk→Prop:=FnQ Tryz.prog Tryz.f110.results 1 (Zgr a r)
theorem Zje (a:Nat) (k:(List Int)) (c:List Value) (r:(Nat × (List Int))) (hF:Zcb a k=some r):ACall Tryz.prog glob 110 [(.vw 0 0 a)] [.cells (cel Zd k c)] (Zgr c r):=by
 refine ACall.body Tryz.func110 rfl (by kernel_rfl) ?_
 unfold Zcb at hF
 refine AWP.seq (AWP.rg0 [] [(0,(.vw 0 0 a))] (AWP.seq (AWP.seq (AWP.rg0 [(1,.lenV a)] [(0,(.vw 0 0 a)),(8,(vb (decide ((a:Int)<(2:Int)))))] ?_))))
 refine AWP.cif hF (fun a2 hF=>?_) (fun a2 hF=>?_)
 ·refine AWP.seq (AWP.rg0 [] [(2,(.vw 0 0 a))] (AWP.ret ?_))
  have hr:=someb hF
  subst hr
  exact(FnQ.f0 1 (.inr rfl))
 ·refine AWP.skip (AWP.seq (AWP.seq (AWP.rg0 [] [(0,(.vw 0 0 a)),(3,(i64 (1:Int)))] ?_)))
  obtain⟨p,a3,hF⟩:=bindb hF
  refine AWP.mid (fun e st H=>(e=.normal∧p=(.inl ())∧st=[(0,(.vw 0 0 a))]∧H=[.cells (cel Zd k c)])∨(e=.ret∧∃ r,p=(.inr r)∧Zjd c r e st H)) ?_ ?_
  ·clear hF
   refine AWP.kp [0,3] 1 ?_
   refine AWP.bround (fun n st H=>∃ b,Za3 a k n b=some p∧st=[(0,(.vw 0 0 a)),(3,(i64 b))]∧H=[.cells (cel Zd k c)]) fuel ⟨(1:Int),a3,by kernel_rfl,by kernel_rfl⟩ ?_
   rintro q st H ⟨b,hF,rfl,rfl⟩
   cases q with
   | zero=>exact noneb hF
   | succ q=>
    rw [Za3] at hF
    refine AWP.seq (AWP.seq (AWP.rg0 [(2,.lenV a)] [(0,(.vw 0 0 a)),(3,(i64 b)),(13,(vb (decide (b<(a:Int)))))] ?_))
    refine AWP.cif hF (fun a4 hF=>?_) (fun a4 hF=>?_)
    ·refine AWP.skip (AWP.seq (AWP.block (AWP.seq ?_)))
     obtain⟨a5,y,hF⟩:=bindb hF
     obtain⟨a6,z,hF⟩:=bindb hF
     refine AWP.dr [(2,.idxV (Zp y)),(3,.ldV Zd (s:=1) (fun _=>rfl) c (Zn y) (0 + Int.toNat b * 1) (Nat.zero_add _) []),(7,.idxV (Zp z)),(8,.ldV Zd (s:=1) (fun _=>rfl) c (Zn z) (0 + Int.toNat (ZI (b - (1:Int))) * 1) (Nat.zero_add _) [])] 10 [] [] [] [(0,(.vw 0 0 a)),(3,(i64 b)),(25,(vb (a5 == a6)))] [.cells (cel Zd k c)] ?_
     refine AWP.cif hF (fun a7 hF=>?_) (fun a7 hF=>?_)
     ·refine AWP.seq ?_
      obtain⟨m,hF⟩:=chkb hF
      refine AWP.rg0 [(2,.sliceV m)] [(0,(.vw 0 0 a)),(3,(i64 b)),(4,(.vw 0 (0 + Int.toNat b * 1) (Int.toNat (a:Int) - Int.toNat b)))] (AWP.seq (AWP.seq (AWP.rg0 [] [(0,(.vw 0 0 a)),(3,(i64 b)),(4,(.vw 0 (0 + Int.toNat b * 1) (Int.toNat (a:Int) - Int.toNat b))),(5,(i64 (1:Int)))] ?_)))
      obtain⟨a0,a8,hF⟩:=bindb hF
      refine AWP.mid (fun e st H=>(e=.normal∧∃ i,∃ d,a0=(i,d)∧st=[(0,(.vw 0 0 a)),(3,(i64 d))]∧H=[.cells (cel Zd i c)])) ?_ ?_
      ·clear hF
       refine AWP.kp [0,3,4,5] 1 ?_
       refine AWP.bround (fun n st H=>∃ j,∃ g,∃ f,Za2 a b n j g f=some a0∧st=[(0,(.vw 0 0 a)),(3,(i64 g)),(4,(.vw 0 (0 + Int.toNat b * 1) (Int.toNat (a:Int) - Int.toNat b))),(5,(i64 f))]∧H=[.cells (cel Zd j c)]) fuel ⟨k,b,(1:Int),a8,by kernel_rfl,by kernel_rfl⟩ ?_
       rintro t st H ⟨j,g,f,hF,rfl,rfl⟩
       cases t with
       | zero=>exact noneb hF
       | succ t=>
        rw [Za2] at hF
        refine AWP.seq (AWP.seq (AWP.rg0 [(2,.lenV (Int.toNat (a:Int) - Int.toNat b))] [(0,(.vw 0 0 a)),(3,(i64 g)),(4,(.vw 0 (0 + Int.toNat b * 1) (Int.toNat (a:Int) - Int.toNat b))),(5,(i64 f)),(32,(vb (decide (f<(((Int.toNat (a:Int) - Int.toNat b):Nat):Int)))))] ?_))
        refine AWP.cif hF (fun a9 hF=>?_) (fun a9 hF=>?_)
        ·refine AWP.skip ?_
         obtain⟨b0,b1,hF⟩:=bindb hF
         refine AWP.seq ?_
         refine AWP.mid (fun e st H=>(e=.normal∧∃ o,∃ l,b0=(o,l)∧st=[(0,(.vw 0 0 a)),(3,(i64 l)),(4,(.vw 0 (0 + Int.toNat b * 1) (Int.toNat (a:Int) - Int.toNat b))),(5,(i64 f))]∧H=[.cells (cel Zd o c)])) ?_ ?_
         ·clear hF
          have hF:=b1
          refine AWP.block (AWP.seq ?_)
          obtain⟨b2,u,hF⟩:=bindb hF
          obtain⟨b3,v,hF⟩:=bindb hF
          refine AWP.dr [(2,.idxV (Zkm u)),(3,.ldV Zd (s:=1) (fun _=>rfl) c (Zpx u) ((0 + Int.toNat b * 1) + Int.toNat f * 1) (Zsj m.1 (Zkm u).1 _) []),(7,.idxV (Zkm v)),(8,.ldV Zd (s:=1) (fun _=>rfl) c (Zpx v) ((0 + Int.toNat b * 1) + Int.toNat (ZI (f - (1:Int))) * 1) (Zsj m.1 (Zkm v).1 _) [])] 10 [] [] [] [(0,(.vw 0 0 a)),(3,(i64 g)),(4,(.vw 0 (0 + Int.toNat b * 1) (Int.toNat (a:Int) - Int.toNat b))),(5,(i64 f)),(44,(vb (b2 != b3)))] [.cells (cel Zd j c)] ?_
          refine AWP.cif hF (fun b4 hF=>?_) (fun b4 hF=>?_)
          ·refine AWP.seq ?_
           obtain⟨w,x,hF⟩:=bindb hF
           obtain⟨b8,a1,hF⟩:=bindb hF
           refine AWP.rg [(4,.idxV (Zkm x)),(5,.ldV Zd (s:=1) (fun _=>rfl) c (Zpx x) ((0 + Int.toNat b * 1) + Int.toNat f * 1) (Zsj m.1 (Zkm x).1 _) []),(6,.idxV (Zp a1)),(7,.stV Zd (s:=1) (fun _=>rfl) c (Zn a1) w (0 + Int.toNat g * 1) (Nat.zero_add _) [])] [(0,(.vw 0 0 a)),(3,(i64 g)),(4,(.vw 0 (0 + Int.toNat b * 1) (Int.toNat (a:Int) - Int.toNat b))),(5,(i64 f))] [.cells (cel Zd (List.set j (Int.toNat g) w) c)] (AWP.rg0 [] [(0,(.vw 0 0 a)),(3,(i64 (ZI (g + (1:Int))))),(4,(.vw 0 (0 + Int.toNat b * 1) (Int.toNat (a:Int) - Int.toNat b))),(5,(i64 f))] (LeQ.start (LeQ.pk [0,3,4,5] 1 ?_)))
           exact⟨rfl,(List.set j (Int.toNat g) w),(ZI (g + (1:Int))),(someb hF).symm,by kernel_rfl,by kernel_rfl⟩
          ·refine AWP.skip (LeQ.start (LeQ.pk [0,3,4,5] 1 ?_))
           exact⟨rfl,j,g,(someb hF).symm,by kernel_rfl,by kernel_rfl⟩
         ·rintro _ _ _ ⟨rfl,o,l,rfl,rfl,rfl⟩
          refine AWP.rg0 [] [(0,(.vw 0 0 a)),(3,(i64 l)),(4,(.vw 0 (0 + Int.toNat b * 1) (Int.toNat (a:Int) - Int.toNat b))),(5,(i64 (ZI (f + (1:Int)))))] (LeQ.start (LeQ.pk [0,3,4,5] 1 ?_))
          exact⟨t,Nat.lt_succ_self _,o,l,(ZI (f + (1:Int))),hF,by kernel_rfl,by kernel_rfl⟩
        ·refine AWP.exit (LeQ.start (LeQ.pk [0,3] 1 ?_))
         exact⟨rfl,j,g,(someb hF).symm,by kernel_rfl,by kernel_rfl⟩
      ·rintro _ _ _ ⟨rfl,i,d,rfl,rfl,rfl⟩
       refine AWP.seq ?_
       obtain⟨b5,hF⟩:=chkb hF
       obtain⟨b6,hF⟩:=chkb hF
       refine AWP.rg [(2,.sliceV b5),(3,.clrV Zd (s:=1) (fun _=>rfl) (fun _=>rfl) c i (0:Int) (lo:=Int.toNat d) (n:=(Int.toNat (a:Int) - Int.toNat d)) b6 (0 + Int.toNat d * 1) (Nat.zero_add _))] [(0,(.vw 0 0 a)),(3,(i64 d))] [.cells (cel Zd (List.take (Int.toNat d) i++List.replicate (Int.toNat (a:Int) - Int.toNat d) (0:Int)++List.drop (Int.toNat d + (Int.toNat (a:Int) - Int.toNat d)) i) c)] (AWP.seq ?_)
       obtain⟨b7,hF⟩:=chkb hF
       refine AWP.rg0 [(2,.sliceV b7)] [(2,(.vw 0 0 (Int.toNat d)))] (AWP.ret ?_)
       exact LeQ.of (.inr ⟨rfl,((Int.toNat d),(List.take (Int.toNat d) i++List.replicate (Int.toNat (a:Int) - Int.toNat d) (0:Int)++List.drop (Int.toNat d + (Int.toNat (a:Int) - Int.toNat d)) i)),(someb hF).symm,(FnQ.f0 1 (.inr rfl))⟩)
     ·refine AWP.skip (AWP.rg0 [] [(0,(.vw 0 0 a)),(3,(i64 (ZI (b + (1:Int)))))] (LeQ.start (LeQ.pk [0,3] 1 ?_)))
      exact⟨q,Nat.lt_succ_self _,(ZI (b + (1:Int))),hF,by kernel_rfl,by kernel_rfl⟩
    ·refine AWP.exit (LeQ.start (LeQ.pk [0] 1 ?_))
     exact(.inl ⟨rfl,(someb hF).symm,by kernel_rfl,by kernel_rfl⟩)
  ·rintro _ _ _ (⟨rfl,rfl,rfl,rfl⟩ | ⟨rfl,b9,rfl,hq⟩)
   ·refine AWP.seq (AWP.rg0 [] [(2,(.vw 0 0 a))] (AWP.ret ?_))
    have hr:=someb hF
    subst hr
    exact(FnQ.f0 1 (.inr rfl))
   ·have hr:=someb hF
    subst hr
    exact hq
def Zfa (r:(List Int)):PV→List Blk→Prop:=fun p K=>p=(slc 1 Zd r)∧K=[]
abbrev Zhw (r:(List Int)):Exit→St→List Blk→Prop:=FnQ Tryz.prog Tryz.f110.results 0 (Zfa r)
theorem Zhx (r:(List Int)) (hF:Zcc=some r):ACall Tryz.prog glob 110 [(slc 1 Zd ([]:(List Int)))] [] (Zfa r):=by
 refine ACall.body Tryz.func110 rfl (by kernel_rfl) ?_
 unfold Zcc at hF
 refine AWP.seq (AWP.rg0 [] [(0,(slc 1 Zd ([]:(List Int))))] (AWP.seq (AWP.seq (AWP.rg0 [(1,.len Zd ([]:(List Int)))] [(0,(slc 1 Zd ([]:(List Int)))),(8,(vb (decide ((List.length ([]:(List Int)):Int)<(2:Int)))))] ?_))))
 refine AWP.cif hF (fun j hF=>?_) (fun j hF=>?_)
 ·refine AWP.seq (AWP.rg0 [] [(2,(slc 1 Zd ([]:(List Int))))] (AWP.ret ?_))
  have hr:=someb hF
  subst hr
  exact(FnQ.f0 0 (.inr rfl))
 ·refine AWP.skip (AWP.seq (AWP.seq (AWP.rg0 [] [(0,(slc 1 Zd ([]:(List Int)))),(3,(i64 (1:Int)))] ?_)))
  obtain⟨d,k,hF⟩:=bindb hF
  refine AWP.mid (fun e st H=>(e=.normal∧d=(.inl ())∧st=[(0,(slc 1 Zd ([]:(List Int))))]∧H=[])∨(e=.ret∧∃ r,d=(.inr r)∧Zhw r e st H)) ?_ ?_
  ·clear hF
   refine AWP.kp [0,3] 0 ?_
   refine AWP.bround (fun n st H=>∃ a,Zby n a=some d∧st=[(0,(slc 1 Zd ([]:(List Int)))),(3,(i64 a))]∧H=[]) fuel ⟨(1:Int),k,by kernel_rfl,by kernel_rfl⟩ ?_
   rintro f st H ⟨a,hF,rfl,rfl⟩
   cases f with
   | zero=>exact noneb hF
   | succ f=>
    rw [Zby] at hF
    refine AWP.seq (AWP.seq (AWP.rg0 [(2,.len Zd ([]:(List Int)))] [(0,(slc 1 Zd ([]:(List Int)))),(3,(i64 a)),(13,(vb (decide (a<(List.length ([]:(List Int)):Int)))))] ?_))
    refine AWP.cif hF (fun l hF=>?_) (fun l hF=>?_)
    ·refine AWP.skip (AWP.seq (AWP.block (AWP.seq ?_)))
     obtain⟨m,o,hF⟩:=bindb hF
     obtain⟨p,q,hF⟩:=bindb hF
     refine AWP.dr [(2,.idx Zd o),(7,.idx Zd q)] 10 [] [] [] [(0,(slc 1 Zd ([]:(List Int)))),(3,(i64 a)),(25,(vb (m == p)))] [] ?_
     refine AWP.cif hF (fun s hF=>?_) (fun s hF=>?_)
     ·refine AWP.seq ?_
      obtain⟨t,hF⟩:=chkb hF
      refine AWP.rg0 [(2,.slice Zd ([]:(List Int)) t)] [(0,(slc 1 Zd ([]:(List Int)))),(3,(i64 a)),(4,(slc 1 Zd (List.drop (Int.toNat a) (List.take (Int.toNat (List.length ([]:(List Int)):Int)) ([]:(List Int))))))] (AWP.seq (AWP.seq (AWP.rg0 [] [(0,(slc 1 Zd ([]:(List Int)))),(3,(i64 a)),(4,(slc 1 Zd (List.drop (Int.toNat a) (List.take (Int.toNat (List.length ([]:(List Int)):Int)) ([]:(List Int)))))),(5,(i64 (1:Int)))] ?_)))
      obtain⟨i,u,hF⟩:=bindb hF
      refine AWP.mid (fun e st H=>e=.normal∧st=[(0,(slc 1 Zd ([]:(List Int)))),(3,(i64 i))]∧H=[]) ?_ ?_
      ·clear hF
       refine AWP.kp [0,3,4,5] 0 ?_
       refine AWP.bround (fun n st H=>∃ c,∃ b,Zbx a n c b=some i∧st=[(0,(slc 1 Zd ([]:(List Int)))),(3,(i64 c)),(4,(slc 1 Zd (List.drop (Int.toNat a) (List.take (Int.toNat (List.length ([]:(List Int)):Int)) ([]:(List Int)))))),(5,(i64 b))]∧H=[]) fuel ⟨a,(1:Int),u,by kernel_rfl,by kernel_rfl⟩ ?_
       rintro g st H ⟨c,b,hF,rfl,rfl⟩
       cases g with
       | zero=>exact noneb hF
       | succ g=>
        rw [Zbx] at hF
        refine AWP.seq (AWP.seq (AWP.rg0 [(2,.len Zd (List.drop (Int.toNat a) (List.take (Int.toNat (List.length ([]:(List Int)):Int)) ([]:(List Int)))))] [(0,(slc 1 Zd ([]:(List Int)))),(3,(i64 c)),(4,(slc 1 Zd (List.drop (Int.toNat a) (List.take (Int.toNat (List.length ([]:(List Int)):Int)) ([]:(List Int)))))),(5,(i64 b)),(32,(vb (decide (b<(List.length (List.drop (Int.toNat a) (List.take (Int.toNat (List.length ([]:(List Int)):Int)) ([]:(List Int)))):Int)))))] ?_))
        refine AWP.cif hF (fun v hF=>?_) (fun v hF=>?_)
        ·refine AWP.skip ?_
         obtain⟨w,x,hF⟩:=bindb hF
         refine AWP.seq ?_
         refine AWP.mid (fun e st H=>(e=.normal∧w=()∧st=[(0,(slc 1 Zd ([]:(List Int)))),(3,(i64 c)),(4,(slc 1 Zd (List.drop (Int.toNat a) (List.take (Int.toNat (List.length ([]:(List Int)):Int)) ([]:(List Int)))))),(5,(i64 b))]∧H=[])) ?_ ?_
         ·clear hF
          have hF:=x
          refine AWP.block (AWP.seq ?_)
          obtain⟨y,z,hF⟩:=bindb hF
          obtain⟨a0,a1,hF⟩:=bindb hF
          refine AWP.dr [(2,.idx Zd z),(7,.idx Zd a1)] 10 [] [] [] [(0,(slc 1 Zd ([]:(List Int)))),(3,(i64 c)),(4,(slc 1 Zd (List.drop (Int.toNat a) (List.take (Int.toNat (List.length ([]:(List Int)):Int)) ([]:(List Int)))))),(5,(i64 b)),(44,(vb (y != a0)))] [] ?_
          refine AWP.cif hF (fun a2 hF=>?_) (fun a2 hF=>?_)
          ·refine AWP.seq ?_
           exact noneb hF
          ·refine AWP.skip (LeQ.start (LeQ.pk [0,3,4,5] 0 ?_))
           exact⟨rfl,(someb hF).symm,by kernel_rfl,by kernel_rfl⟩
         ·rintro _ _ _ ⟨rfl,rfl,rfl,rfl⟩
          refine AWP.rg0 [] [(0,(slc 1 Zd ([]:(List Int)))),(3,(i64 c)),(4,(slc 1 Zd (List.drop (Int.toNat a) (List.take (Int.toNat (List.length ([]:(List Int)):Int)) ([]:(List Int)))))),(5,(i64 (ZI (b + (1:Int)))))] (LeQ.start (LeQ.pk [0,3,4,5] 0 ?_))
          exact⟨g,Nat.lt_succ_self _,c,(ZI (b + (1:Int))),hF,by kernel_rfl,by kernel_rfl⟩
        ·refine AWP.exit (LeQ.start (LeQ.pk [0,3] 0 ?_))
         have hr:=someb hF
         subst hr
         exact⟨rfl,by kernel_rfl,by kernel_rfl⟩
      ·rintro _ _ _ ⟨rfl,rfl,rfl⟩
       refine AWP.seq ?_
       exact noneb hF
     ·refine AWP.skip (AWP.rg0 [] [(0,(slc 1 Zd ([]:(List Int)))),(3,(i64 (ZI (a + (1:Int)))))] (LeQ.start (LeQ.pk [0,3] 0 ?_)))
      exact⟨f,Nat.lt_succ_self _,(ZI (a + (1:Int))),hF,by kernel_rfl,by kernel_rfl⟩
    ·refine AWP.exit (LeQ.start (LeQ.pk [0] 0 ?_))
     exact(.inl ⟨rfl,(someb hF).symm,by kernel_rfl,by kernel_rfl⟩)
  ·rintro _ _ _ (⟨rfl,rfl,rfl,rfl⟩ | ⟨rfl,a3,rfl,hq⟩)
   ·refine AWP.seq (AWP.rg0 [] [(2,(slc 1 Zd ([]:(List Int))))] (AWP.ret ?_))
    have hr:=someb hF
    subst hr
    exact(FnQ.f0 0 (.inr rfl))
   ·have hr:=someb hF
    subst hr
    exact hq
def Zp8 (r:(List Int)):PV→List Blk→Prop:=fun p K=>p=(slc 1 Zd r)∧K=[]
theorem Zp9 (b:Int) (a:(List ZL)) (r:(List Int)) (hF:Ze4 b a=some r):ACall Tryz.prog glob 106 [(i64 b),(slc 1 Zae a)] [] (Zp8 r):=by
 refine ACall.body Tryz.func106 rfl (by kernel_rfl) ?_
 unfold Ze4 at hF
 refine AWP.seq (AWP.rg0 [] [(0,(i64 b)),(1,(slc 1 Zae a))] (AWP.seq ?_))
 obtain⟨l,y,hF⟩:=bindb hF
 refine AWP.rg [(1,.call Tryz.func108 [] (Zyo b l y)),(4,.m)] [(0,(i64 b)),(1,(slc 1 Zae a)),(5,(.own 0 (List.length [(0:Int),(IntKind.wrap .u64 ((IntKind.wrap .u64 l) + (1:Int)))])))] [bf 1 32 Zd [(0:Int),(IntKind.wrap .u64 ((IntKind.wrap .u64 l) + (1:Int)))] false] (AWP.seq (AWP.seq (AWP.rg0 [(1,.len Zae a)] [(0,(i64 b)),(5,(.own 0 (List.length [(0:Int),(IntKind.wrap .u64 ((IntKind.wrap .u64 l) + (1:Int)))]))),(15,(slc 1 Zae a)),(16,(i64 (List.length a:Int))),(17,(i64 (0:Int)))] ?_)))
 obtain⟨k,z,hF⟩:=bindb hF
 refine AWP.mid (fun e st H=>e=.normal∧st=[(5,(.own 0 (List.length k)))]∧H=[bf 1 32 Zd k false]) ?_ ?_
 ·clear hF
  refine AWP.kp [0,5,15,16,17] 1 ?_
  refine AWP.bround (fun n st H=>∃ j,∃ d,Zcm b a n j d=some k∧st=[(0,(i64 b)),(5,(.own 0 (List.length j))),(15,(slc 1 Zae a)),(16,(i64 (List.length a:Int))),(17,(i64 d))]∧H=[bf 1 32 Zd j false]) fuel ⟨[(0:Int),(IntKind.wrap .u64 ((IntKind.wrap .u64 l) + (1:Int)))],(0:Int),z,by kernel_rfl,by kernel_rfl⟩ ?_
  rintro q st H ⟨j,d,hF,rfl,rfl⟩
  cases q with
  | zero=>exact noneb hF
  | succ q=>
   rw [Zcm] at hF
   refine AWP.seq (AWP.rg0 [] [(0,(i64 b)),(5,(.own 0 (List.length j))),(15,(slc 1 Zae a)),(16,(i64 (List.length a:Int))),(17,(i64 d)),(18,(vb (decide (d<(List.length a:Int)))))] (AWP.seq ?_))
   refine AWP.cif hF (fun a0 hF=>?_) (fun a0 hF=>?_)
   ·refine AWP.skip (AWP.seq (AWP.block (AWP.seq ?_)))
    obtain⟨c,a1,hF⟩:=bindb hF
    refine AWP.rg0 [(0,.idx Zae a1)] [(0,(i64 b)),(5,(.own 0 (List.length j))),(7,(slc 10 Za c)),(15,(slc 1 Zae a)),(16,(i64 (List.length a:Int))),(17,(i64 d))] (AWP.seq (AWP.rg0 [(1,.len Za c)] [(0,(i64 b)),(5,(.own 0 (List.length j))),(15,(slc 1 Zae a)),(16,(i64 (List.length a:Int))),(17,(i64 d)),(21,(slc 10 Za c)),(22,(i64 (List.length c:Int))),(23,(i64 (0:Int)))] ?_))
    obtain⟨o,a2,hF⟩:=bindb hF
    refine AWP.mid (fun e st H=>e=.normal∧st=[(0,(i64 b)),(5,(.own 0 (List.length o))),(15,(slc 1 Zae a)),(16,(i64 (List.length a:Int))),(17,(i64 d))]∧H=[bf 1 32 Zd o false]) ?_ ?_
    ·clear hF
     refine AWP.kp [0,5,15,16,17,21,22,23] 1 ?_
     refine AWP.bround (fun n st H=>∃ g,∃ i,Zcl b c n g i=some o∧st=[(0,(i64 b)),(5,(.own 0 (List.length g))),(15,(slc 1 Zae a)),(16,(i64 (List.length a:Int))),(17,(i64 d)),(21,(slc 10 Za c)),(22,(i64 (List.length c:Int))),(23,(i64 i))]∧H=[bf 1 32 Zd g false]) fuel ⟨j,(0:Int),a2,by kernel_rfl,by kernel_rfl⟩ ?_
     rintro t st H ⟨g,i,hF,rfl,rfl⟩
     cases t with
     | zero=>exact noneb hF
     | succ t=>
      rw [Zcl] at hF
      refine AWP.seq (AWP.rg0 [] [(0,(i64 b)),(5,(.own 0 (List.length g))),(15,(slc 1 Zae a)),(16,(i64 (List.length a:Int))),(17,(i64 d)),(21,(slc 10 Za c)),(22,(i64 (List.length c:Int))),(23,(i64 i)),(24,(vb (decide (i<(List.length c:Int)))))] (AWP.seq ?_))
      refine AWP.cif hF (fun a3 hF=>?_) (fun a3 hF=>?_)
      ·refine AWP.skip (AWP.seq (AWP.block (AWP.seq ?_)))
       obtain⟨f,a4,hF⟩:=bindb hF
       refine AWP.rg [(0,.idx Za a4)] [(0,(i64 b)),(5,(.own 0 (List.length g))),(9,(.ptr 1 0)),(15,(slc 1 Zae a)),(16,(i64 (List.length a:Int))),(17,(i64 d)),(21,(slc 10 Za c)),(22,(i64 (List.length c:Int))),(23,(i64 i))] [bf 1 32 Zd g false,.cells (Za f)] ?_
       obtain⟨v,hF⟩:=chkb hF
       obtain⟨w,hF⟩:=chkb hF
       obtain⟨a5,hF⟩:=chkb hF
       refine AWP.dr [(2,.ixd v),(4,.ldA Zh (Arr5.get f) 0 2 0 v),(7,.ixd w),(9,.ldA Zh (Arr5.get f) 0 2 1 w),(13,.app Zd (fun _=>by kernel_rfl) a5)] 14 [] [13] [] [(0,(i64 b)),(5,(.own 0 (List.length (g++[(IntKind.wrap .u64 (Arr5.get f b).Lo),(IntKind.wrap .u64 ((IntKind.wrap .u64 (Arr5.get f b).Hi) + (1:Int)))])))),(15,(slc 1 Zae a)),(16,(i64 (List.length a:Int))),(17,(i64 d)),(21,(slc 10 Za c)),(22,(i64 (List.length c:Int))),(23,(i64 i))] [bf 1 32 Zd (g++[(IntKind.wrap .u64 (Arr5.get f b).Lo),(IntKind.wrap .u64 ((IntKind.wrap .u64 (Arr5.get f b).Hi) + (1:Int)))]) false,.cells (Za f)] (AWP.rg0 [] [(0,(i64 b)),(5,(.own 0 (List.length (g++[(IntKind.wrap .u64 (Arr5.get f b).Lo),(IntKind.wrap .u64 ((IntKind.wrap .u64 (Arr5.get f b).Hi) + (1:Int)))])))),(15,(slc 1 Zae a)),(16,(i64 (List.length a:Int))),(17,(i64 d)),(21,(slc 10 Za c)),(22,(i64 (List.length c:Int))),(23,(i64 (ZI (i + (1:Int)))))] (LeQ.start (LeQ.pk [0,5,15,16,17,21,22,23] 1 ?_)))
       exact⟨t,Nat.lt_succ_self _,(g++[(IntKind.wrap .u64 (Arr5.get f b).Lo),(IntKind.wrap .u64 ((IntKind.wrap .u64 (Arr5.get f b).Hi) + (1:Int)))]),(ZI (i + (1:Int))),hF,by kernel_rfl,by kernel_rfl⟩
      ·refine AWP.exit (LeQ.start (LeQ.pk [0,5,15,16,17] 1 ?_))
       have hr:=someb hF
       subst hr
       exact⟨rfl,by kernel_rfl,by kernel_rfl⟩
    ·rintro _ _ _ ⟨rfl,rfl,rfl⟩
     refine AWP.rg0 [] [(0,(i64 b)),(5,(.own 0 (List.length o))),(15,(slc 1 Zae a)),(16,(i64 (List.length a:Int))),(17,(i64 (ZI (d + (1:Int)))))] (LeQ.start (LeQ.pk [0,5,15,16,17] 1 ?_))
     exact⟨q,Nat.lt_succ_self _,o,(ZI (d + (1:Int))),hF,by kernel_rfl,by kernel_rfl⟩
   ·refine AWP.exit (LeQ.start (LeQ.pk [5] 1 ?_))
    have hr:=someb hF
    subst hr
    exact⟨rfl,by kernel_rfl,by kernel_rfl⟩
 ·rintro _ _ _ ⟨rfl,rfl,rfl⟩
  refine AWP.seq ?_
  obtain⟨a6,hF⟩:=chkb hF
  obtain⟨p,a7,hF⟩:=bindb hF
  obtain⟨x,hF⟩:=chkb hF
  refine AWP.rg [(1,.callB (s:=1) Zd Tryz.func109 (fun _=>rfl) a6 x (fun sp_=>Zj8 (List.length k) k sp_ p a7))] [(5,(.own 0 (List.length k)))] [bf 1 32 Zd p false] ?_
  rw [show ([(5,(.own 0 (List.length k)))]:St)=[(5,(.own 0 (List.length p)))] by simp only [x]]
  refine AWP.seq ?_
  obtain⟨u,a8,hF⟩:=bindb hF
  refine AWP.rg [(1,.callBE (s:=1) Zd Tryz.func110 (fun _=>rfl) a8 (fun h sp_=>Zje (List.length p) p sp_ _ h) (fun h=>Zhx _ h))] [(4,(slc 1 Zd (List.take u.1 u.2)))] [bf 1 32 Zd u.2 true] (AWP.ret ?_)
  have hr:=someb hF
  subst hr
  exact(FnQ.f0 0 (.inr rfl))
def Zmq (r:ZL):PV→List Blk→Prop:=fun p K=>p=(slc 10 Za r)∧K=[]
theorem Zjf (a:ZL) (b:Int) (c:Int) (r:ZL) (hF:Zdo a b c=some r):ACall Tryz.prog glob 107 [(slc 10 Za a),(i64 b),(u32 c)] [] (Zmq r):=by
 refine ACall.body Tryz.func107 rfl (by kernel_rfl) ?_
 unfold Zdo at hF
 refine AWP.seq (AWP.rg0 [] [(0,(slc 10 Za a)),(1,(i64 b)),(2,(u32 c))] (AWP.seq (AWP.rg0 [] [(0,(slc 10 Za a)),(1,(i64 b)),(2,(u32 c)),(7,nils)] ?_)))
 refine AWP.own (H':=[bf 10 59 Za ([]:ZL) false]) (st':=[(7,(.own 0 (List.length ([]:ZL)))),(0,(slc 10 Za a)),(1,(i64 b)),(2,(u32 c))]) 7 10 59 (by kernel_rfl) (by kernel_rfl) (by kernel_rfl) ?_
 refine AWP.pick (st':=[(0,(slc 10 Za a)),(1,(i64 b)),(2,(u32 c)),(7,(.own 0 (List.length ([]:ZL))))]) (ks:=[0,1,2,7]) (by kernel_rfl) ?_
 refine AWP.seq (AWP.seq (AWP.rg0 [(1,.len Za a)] [(1,(i64 b)),(2,(u32 c)),(7,(.own 0 (List.length ([]:ZL)))),(10,(slc 10 Za a)),(11,(i64 (List.length a:Int))),(12,(i64 (0:Int)))] ?_))
 obtain⟨j,w,hF⟩:=bindb hF
 refine AWP.mid (fun e st H=>e=.normal∧st=[(7,(.own 0 (List.length j)))]∧H=[bf 10 59 Za j false]) ?_ ?_
 ·clear hF
  refine AWP.kp [1,2,7,10,11,12] 1 ?_
  refine AWP.bround (fun n st H=>∃ d,∃ f,Zb6 a b c n d f=some j∧st=[(1,(i64 b)),(2,(u32 c)),(7,(.own 0 (List.length d))),(10,(slc 10 Za a)),(11,(i64 (List.length a:Int))),(12,(i64 f))]∧H=[bf 10 59 Za d false]) fuel ⟨([]:ZL),(0:Int),w,by kernel_rfl,by kernel_rfl⟩ ?_
  rintro q st H ⟨d,f,hF,rfl,rfl⟩
  cases q with
  | zero=>exact noneb hF
  | succ q=>
   rw [Zb6] at hF
   refine AWP.seq (AWP.rg0 [] [(1,(i64 b)),(2,(u32 c)),(7,(.own 0 (List.length d))),(10,(slc 10 Za a)),(11,(i64 (List.length a:Int))),(12,(i64 f)),(13,(vb (decide (f<(List.length a:Int)))))] (AWP.seq ?_))
   refine AWP.cif hF (fun x hF=>?_) (fun x hF=>?_)
   ·refine AWP.skip ?_
    obtain⟨m,y,hF⟩:=bindb hF
    refine AWP.seq ?_
    refine AWP.mid (fun e st H=>e=.normal∧st=[(1,(i64 b)),(2,(u32 c)),(7,(.own 0 (List.length m))),(10,(slc 10 Za a)),(11,(i64 (List.length a:Int))),(12,(i64 f))]∧H=[bf 10 59 Za m false]) ?_ ?_
    ·clear hF
     have hF:=y
     refine AWP.block (AWP.seq ?_)
     obtain⟨g,z,hF⟩:=bindb hF
     refine AWP.rg [(0,.idx Za z)] [(1,(i64 b)),(2,(u32 c)),(7,(.own 0 (List.length d))),(9,(.ptr 1 0)),(10,(slc 10 Za a)),(11,(i64 (List.length a:Int))),(12,(i64 f))] [bf 10 59 Za d false,.cells (Za g)] (AWP.seq ?_)
     obtain⟨o,hF⟩:=chkb hF
     obtain⟨a0,p,hF⟩:=bindb hF
     replace p:=someb p
     obtain⟨a1,u,hF⟩:=bindb hF
     refine AWP.to [(1,(i64 b)),(2,(u32 c)),(7,(.own 0 (List.length d))),(9,(.ptr 1 0)),(10,(slc 10 Za a)),(11,(i64 (List.length a:Int))),(12,(i64 f)),(29,(vb a1))] [bf 10 59 Za d false,.cells (Za g)] ?_ ?_
     ·cases a0 with
      | false=>
       have a2:=someb (ifF u rfl)
       subst a2
       exact AWP.rgT [(1,.ixd o),(3,.ldA Zh (Arr5.get g) 0 2 0 o),(6,.bool p)]
      | true=>
       have k:=ifT u rfl
       obtain⟨v,k⟩:=chkb k
       replace k:=someb k
       subst k
       exact AWP.rgT [(1,.ixd o),(3,.ldA Zh (Arr5.get g) 0 2 0 o),(6,.bool p),(9,.ixd v),(11,.ldA Zh (Arr5.get g) 0 2 1 v)]
     refine AWP.cif hF (fun a3 hF=>?_) (fun a3 hF=>?_)
     ·obtain⟨a4,hF⟩:=chkb hF
      refine AWP.rg [(3,.app Za (fun _=>by kernel_rfl) a4)] [(1,(i64 b)),(2,(u32 c)),(7,(.own 0 (List.length (d++[g])))),(10,(slc 10 Za a)),(11,(i64 (List.length a:Int))),(12,(i64 f))] [bf 10 59 Za (d++[g]) false,.cells (Za g)] (LeQ.start (LeQ.pk [1,2,7,10,11,12] 1 ?_))
      have hr:=someb hF
      subst hr
      exact⟨rfl,by kernel_rfl,by kernel_rfl⟩
     ·refine AWP.skip (LeQ.start (LeQ.pk [1,2,7,10,11,12] 1 ?_))
      have hr:=someb hF
      subst hr
      exact⟨rfl,by kernel_rfl,by kernel_rfl⟩
    ·rintro _ _ _ ⟨rfl,rfl,rfl⟩
     refine AWP.rg0 [] [(1,(i64 b)),(2,(u32 c)),(7,(.own 0 (List.length m))),(10,(slc 10 Za a)),(11,(i64 (List.length a:Int))),(12,(i64 (ZI (f + (1:Int)))))] (LeQ.start (LeQ.pk [1,2,7,10,11,12] 1 ?_))
     exact⟨q,Nat.lt_succ_self _,m,(ZI (f + (1:Int))),hF,by kernel_rfl,by kernel_rfl⟩
   ·refine AWP.exit (LeQ.start (LeQ.pk [7] 1 ?_))
    have hr:=someb hF
    subst hr
    exact⟨rfl,by kernel_rfl,by kernel_rfl⟩
 ·rintro _ _ _ ⟨rfl,rfl,rfl⟩
  refine AWP.seq (AWP.rg0 [] [(6,(.own 0 (List.length j)))] (AWP.ret ?_))
  have hr:=someb hF
  subst hr
  exact(FnQ.f1 0 (.inr rfl) (.inl (Wk.ownT (i:=0) (s:=10) (t:=59) (l:=j) (sh:=false) (row:=Za) (by kernel_rfl) (.inl rfl))))
def Zej (r:(ZL × Bool)):PV→List Blk→Prop:=fun p K=>p=(.tup [(slc 10 Za r.1),(vb r.2)])∧K=[]
abbrev Zgc (r:(ZL × Bool)):Exit→St→List Blk→Prop:=FnQ Tryz.prog Tryz.f103.results 0 (Zej r)
theorem Zij:∀(nr:Nat) (a:Int) (d:ZL) (f:ZL) (g:Int) (r:(ZL × Bool)) (hF:Zaf nr a d f g=some r),ACall Tryz.prog glob 103 [(i64 a),(slc 10 Za d),(slc 10 Za f),(.sc (.func (.func 88) #[] #[])),(i64 g)] [] (Zej r):=by
 intro nr
 induction nr with
 | zero=>intro a d f g r hF; exact noneb (by rw [Zaf] at hF; exact hF)
 | succ nr ih=>
  intro a d f g r hF
  refine ACall.body Tryz.func103 rfl (by kernel_rfl) ?_
  rw [Zaf] at hF
  refine AWP.seq (AWP.rg0 [] [(0,(i64 a)),(1,(slc 10 Za d)),(2,(slc 10 Za f)),(3,(.sc (.func (.func 88) #[] #[]))),(4,(i64 g))] (AWP.seq (AWP.seq (AWP.rg0 [] [(0,(i64 a)),(1,(slc 10 Za d)),(2,(slc 10 Za f)),(3,(.sc (.func (.func 88) #[] #[]))),(4,(i64 g)),(26,(vb (a == (5:Int))))] ?_))))
  refine AWP.cif hF (fun c8 hF=>?_) (fun c8 hF=>?_)
  ·refine AWP.seq (AWP.seq ?_)
   obtain⟨b8,c9,hF⟩:=bindb hF
   refine AWP.rg0 [(2,.len Za d),(5,.len Za f),(7,.call Tryz.func88 [] (Zj6 (decide ((List.length d:Int) > (0:Int))) (decide ((List.length f:Int) > (0:Int))) b8 c9))] [(34,(vb b8))] ?_
   refine AWP.cif hF (fun d0 hF=>?_) (fun d0 hF=>?_)
   ·refine AWP.seq (AWP.rg0 [] [(10,(slc 10 Za [(Arr5.mk Z3 Z3 Z3 Z3 Z3)])),(11,(vb true))] (AWP.ret ?_))
    have hr:=someb hF
    subst hr
    exact(FnQ.f0 0 (.inr rfl))
   ·refine AWP.skip (AWP.seq (AWP.rg0 [] [(10,nils),(11,(vb true))] (AWP.ret ?_)))
    have hr:=someb hF
    subst hr
    exact(FnQ.f1 0 (.inr rfl) (.inr ⟨_,_,rfl,rfl,(.cons _ _ _ _ (.nil 10) (.cons _ _ _ _ (.refl _) .nil))⟩))
  ·refine AWP.skip (AWP.seq (AWP.seq ?_))
   obtain⟨d1,b0,hF⟩:=bindb hF
   replace b0:=someb b0
   obtain⟨d2,b9,hF⟩:=bindb hF
   refine AWP.to [(0,(i64 a)),(1,(slc 10 Za d)),(2,(slc 10 Za f)),(3,(.sc (.func (.func 88) #[] #[]))),(4,(i64 g)),(47,(vb d2))] [] ?_ ?_
   ·cases d1 with
    | false=>
     have d3:=someb (ifF b9 rfl)
     subst d3
     exact AWP.rgT [(1,.len Za d),(3,.len Za f),(6,.bool b0)]
    | true=>
     have a3:=ifT b9 rfl
     obtain⟨d4,d5,a3⟩:=bindb a3
     replace a3:=someb a3
     subst a3
     exact AWP.rgT [(1,.len Za d),(3,.len Za f),(6,.bool b0),(8,.call Tryz.func88 [] (Zj6 false false d4 d5))]
   refine AWP.cif hF (fun d6 hF=>?_) (fun d6 hF=>?_)
   ·refine AWP.seq (AWP.rg0 [] [(10,nils),(11,(vb true))] (AWP.ret ?_))
    have hr:=someb hF
    subst hr
    exact(FnQ.f1 0 (.inr rfl) (.inr ⟨_,_,rfl,rfl,(.cons _ _ _ _ (.nil 10) (.cons _ _ _ _ (.refl _) .nil))⟩))
   ·refine AWP.skip (AWP.seq (AWP.rg0 [] [(0,(i64 a)),(1,(slc 10 Za d)),(2,(slc 10 Za f)),(3,(.sc (.func (.func 88) #[] #[]))),(4,(i64 g)),(12,nils)] ?_))
    refine AWP.own (H':=[bf 3 127 Zl ([]:(List Zm)) false]) (st':=[(12,(.own 0 (List.length ([]:(List Zm))))),(0,(i64 a)),(1,(slc 10 Za d)),(2,(slc 10 Za f)),(3,(.sc (.func (.func 88) #[] #[]))),(4,(i64 g))]) 12 3 127 (by kernel_rfl) (by kernel_rfl) (by kernel_rfl) ?_
    refine AWP.pick (st':=[(0,(i64 a)),(1,(slc 10 Za d)),(2,(slc 10 Za f)),(3,(.sc (.func (.func 88) #[] #[]))),(4,(i64 g)),(12,(.own 0 (List.length ([]:(List Zm)))))]) (ks:=[0,1,2,3,4,12]) (by kernel_rfl) ?_
    refine AWP.seq (AWP.rg0 [] [(0,(i64 a)),(1,(slc 10 Za d)),(2,(slc 10 Za f)),(3,(.sc (.func (.func 88) #[] #[]))),(4,(i64 g)),(12,(.own 0 (List.length ([]:(List Zm))))),(13,(i64 (0:Int)))] (AWP.seq ?_))
    obtain⟨k,d7,hF⟩:=bindb hF
    refine AWP.rg0 [(4,.call Tryz.func106 [] (Zp9 a [d,f] k d7))] [(0,(i64 a)),(1,(slc 10 Za d)),(2,(slc 10 Za f)),(3,(.sc (.func (.func 88) #[] #[]))),(4,(i64 g)),(12,(.own 0 (List.length ([]:(List Zm))))),(13,(i64 (0:Int))),(14,(slc 1 Zd k))] (AWP.seq (AWP.seq (AWP.rg0 [] [(0,(i64 a)),(1,(slc 10 Za d)),(2,(slc 10 Za f)),(3,(.sc (.func (.func 88) #[] #[]))),(4,(i64 g)),(12,(.own 0 (List.length ([]:(List Zm))))),(13,(i64 (0:Int))),(14,(slc 1 Zd k)),(15,(i64 (0:Int)))] ?_)))
    obtain⟨b2,d8,hF⟩:=bindb hF
    refine AWP.mid (fun e st H=>(e=.normal∧∃ c,∃ b3,b2=(.inl (c,b3))∧st=[(0,(i64 a)),(12,(.own 0 (List.length c))),(13,(i64 b3))]∧H=[bf 3 127 Zl c false])∨(e=.ret∧∃ r,b2=(.inr r)∧Zgc r e st H)) ?_ ?_
    ·clear hF
     refine AWP.kp [0,1,2,3,4,12,13,14,15] 1 ?_
     refine AWP.bround (fun n st H=>∃ b,∃ o,∃ p,Zam a d f g (Zaf nr) k n b o p=some b2∧st=[(0,(i64 a)),(1,(slc 10 Za d)),(2,(slc 10 Za f)),(3,(.sc (.func (.func 88) #[] #[]))),(4,(i64 g)),(12,(.own 0 (List.length b))),(13,(i64 o)),(14,(slc 1 Zd k)),(15,(i64 p))]∧H=[bf 3 127 Zl b false]) fuel ⟨([]:(List Zm)),(0:Int),(0:Int),d8,by kernel_rfl,by kernel_rfl⟩ ?_
     rintro b4 st H ⟨b,o,p,hF,rfl,rfl⟩
     cases b4 with
     | zero=>exact noneb hF
     | succ b4=>
      rw [Zam] at hF
      refine AWP.seq (AWP.seq (AWP.rg0 [(3,.len Zd k)] [(0,(i64 a)),(1,(slc 10 Za d)),(2,(slc 10 Za f)),(3,(.sc (.func (.func 88) #[] #[]))),(4,(i64 g)),(12,(.own 0 (List.length b))),(13,(i64 o)),(14,(slc 1 Zd k)),(15,(i64 p)),(57,(vb (decide ((ZI (p + (1:Int)))<(List.length k:Int)))))] ?_))
      refine AWP.cif hF (fun d9 hF=>?_) (fun d9 hF=>?_)
      ·refine AWP.skip ?_
       obtain⟨c0,e0,hF⟩:=bindb hF
       refine AWP.seq ?_
       refine AWP.mid (fun e st H=>(e=.normal∧∃ a2,∃ a4,c0=(.inl (a2,a4))∧st=[(0,(i64 a)),(1,(slc 10 Za d)),(2,(slc 10 Za f)),(3,(.sc (.func (.func 88) #[] #[]))),(4,(i64 g)),(12,(.own 0 (List.length a2))),(13,(i64 a4)),(14,(slc 1 Zd k)),(15,(i64 p))]∧H=[bf 3 127 Zl a2 false])∨(e=.ret∧∃ r,c0=(.inr r)∧Zgc r e st H)) ?_ ?_
       ·clear hF
        have hF:=e0
        refine AWP.block (AWP.seq ?_)
        obtain⟨w,e1,hF⟩:=bindb hF
        obtain⟨u,e2,hF⟩:=bindb hF
        refine AWP.dr [(2,.idx Zd e1),(8,.idx Zd e2)] 14 [] [13] [] [(0,(i64 a)),(1,(slc 10 Za d)),(2,(slc 10 Za f)),(3,(.sc (.func (.func 88) #[] #[]))),(4,(i64 g)),(12,(.own 0 (List.length b))),(13,(i64 o)),(14,(slc 1 Zd k)),(15,(i64 p)),(16,(.ptr 1 0))] [bf 3 127 Zl b false,.cells (Zh (Zb.mk (IntKind.wrap .u32 w) (IntKind.wrap .u32 (IntKind.wrap .u64 (u - (1:Int))))))] (AWP.seq ?_)
        obtain⟨c1,e3,hF⟩:=bindb hF
        obtain⟨c2,e4,hF⟩:=bindb hF
        obtain⟨m,e5,hF⟩:=bindb hF
        refine AWP.dr [(6,.call Tryz.func107 [] (Zjf d a (IntKind.wrap .u32 w) c1 e3)),(11,.call Tryz.func107 [] (Zjf f a (IntKind.wrap .u32 w) c2 e4)),(14,.call Tryz.func103 [] (ih (ZI (a + (1:Int))) c1 c2 g m e5))] 19 [] [] [] [(0,(i64 a)),(1,(slc 10 Za d)),(2,(slc 10 Za f)),(3,(.sc (.func (.func 88) #[] #[]))),(4,(i64 g)),(12,(.own 0 (List.length b))),(13,(i64 o)),(14,(slc 1 Zd k)),(15,(i64 p)),(16,(.ptr 1 0)),(17,(slc 10 Za m.1)),(18,(vb m.2))] [bf 3 127 Zl b false,.cells (Zh (Zb.mk (IntKind.wrap .u32 w) (IntKind.wrap .u32 (IntKind.wrap .u64 (u - (1:Int))))))] (AWP.seq (AWP.seq (AWP.rg0 [] [(0,(i64 a)),(1,(slc 10 Za d)),(2,(slc 10 Za f)),(3,(.sc (.func (.func 88) #[] #[]))),(4,(i64 g)),(12,(.own 0 (List.length b))),(13,(i64 o)),(14,(slc 1 Zd k)),(15,(i64 p)),(16,(.ptr 1 0)),(17,(slc 10 Za m.1)),(92,(vb (!m.2)))] ?_)))
        refine AWP.cif hF (fun e6 hF=>?_) (fun e6 hF=>?_)
        ·refine AWP.seq (AWP.rg0 [] [(10,nils),(11,(vb false))] (AWP.ret ?_))
         exact LeQ.of (.inr ⟨rfl,(([]:ZL),false),(someb hF).symm,(FnQ.f1 0 (.inr rfl) (.inr ⟨_,_,rfl,rfl,(.cons _ _ _ _ (.nil 10) (.cons _ _ _ _ (.refl _) .nil))⟩))⟩)
        ·refine AWP.skip (AWP.seq (AWP.seq (AWP.rg0 [(1,.len Za m.1)] [(0,(i64 a)),(1,(slc 10 Za d)),(2,(slc 10 Za f)),(3,(.sc (.func (.func 88) #[] #[]))),(4,(i64 g)),(12,(.own 0 (List.length b))),(13,(i64 o)),(14,(slc 1 Zd k)),(15,(i64 p)),(16,(.ptr 1 0)),(17,(slc 10 Za m.1)),(95,(vb ((List.length m.1:Int) == (0:Int))))] ?_)))
         refine AWP.cif hF (fun e7 hF=>?_) (fun e7 hF=>?_)
         ·refine AWP.exit (LeQ.start (LeQ.pk [0,1,2,3,4,12,13,14,15] 1 ?_))
          exact(.inl ⟨rfl,b,o,(someb hF).symm,by kernel_rfl,by kernel_rfl⟩)
         ·refine AWP.skip (AWP.seq (AWP.seq (AWP.rg0 [(1,.len Zl b)] [(0,(i64 a)),(1,(slc 10 Za d)),(2,(slc 10 Za f)),(3,(.sc (.func (.func 88) #[] #[]))),(4,(i64 g)),(12,(.own 0 (List.length b))),(13,(i64 o)),(14,(slc 1 Zd k)),(15,(i64 p)),(16,(.ptr 1 0)),(17,(slc 10 Za m.1)),(19,(i64 (List.length b:Int)))] (AWP.seq ?_))))
          obtain⟨e8,a5,hF⟩:=bindb hF
          replace a5:=someb a5
          obtain⟨h1,c3,hF⟩:=bindb hF
          obtain⟨e9,a6,hF⟩:=bindb hF
          replace a6:=someb a6
          obtain⟨f2,b5,hF⟩:=bindb hF
          refine AWP.to [(0,(i64 a)),(1,(slc 10 Za d)),(2,(slc 10 Za f)),(3,(.sc (.func (.func 88) #[] #[]))),(4,(i64 g)),(12,(.own 0 (List.length b))),(13,(i64 o)),(14,(slc 1 Zd k)),(15,(i64 p)),(16,(.ptr 1 0)),(17,(slc 10 Za m.1)),(19,(i64 (List.length b:Int))),(122,(vb f2))] [bf 3 127 Zl b false,.cells (Zh (Zb.mk (IntKind.wrap .u32 w) (IntKind.wrap .u32 (IntKind.wrap .u64 (u - (1:Int))))))] ?_ ?_
          ·cases e8 with
           | false=>
            have f3:=someb (ifF c3 rfl)
            subst f3
            subst a6
            have f4:=someb (ifF b5 rfl)
            subst f4
            exact AWP.drT [(2,.bool a5)] 25 [] [] []
           | true=>
            have a7:=ifT c3 rfl
            obtain⟨h2,b1,a7⟩:=bindb a7
            replace a7:=someb a7
            subst a7
            cases e9 with
            | false=>
             have f5:=someb (ifF b5 rfl)
             subst f5
             exact AWP.drT [(2,.bool a5),(6,.idx Zl b1),(7,.fdE Zl b (ZI ((List.length b:Int) - (1:Int)))),(8,.fdE Zl b (ZI ((List.length b:Int) - (1:Int)))),(9,.ldE Zl b1),(15,.bool a6)] 25 [] [] []
            | true=>
             have a1:=ifT b5 rfl
             obtain⟨f6,c4,a1⟩:=bindb a1
             obtain⟨f7,f8,a1⟩:=bindb a1
             replace a1:=someb a1
             subst a1
             exact AWP.drT [(2,.bool a5),(6,.idx Zl b1),(7,.fdE Zl b (ZI ((List.length b:Int) - (1:Int)))),(8,.fdE Zl b (ZI ((List.length b:Int) - (1:Int)))),(9,.ldE Zl b1),(15,.bool a6),(19,.idx Zl c4),(20,.fdE Zl b (ZI ((List.length b:Int) - (1:Int)))),(21,.ldE Zl c4),(23,.call Tryz.func102 [] (Zgp f6.f_rest m.1 f7 f8))] 25 [] [] []
          refine AWP.cif hF (fun f9 hF=>?_) (fun f9 hF=>?_)
          ·refine AWP.seq ?_
           obtain⟨z,c5,hF⟩:=bindb hF
           refine AWP.rg [(5,.idx Zl c5),(6,.fdE Zl b (ZI ((List.length b:Int) - (1:Int)))),(7,.fdE Zl b (ZI ((List.length b:Int) - (1:Int)))),(8,.stE Zl c5 ({ z with f_values:=({ z.f_values with Hi:=(IntKind.wrap .u32 (IntKind.wrap .u64 (u - (1:Int)))) }:Zb) }:Zm))] [(0,(i64 a)),(1,(slc 10 Za d)),(2,(slc 10 Za f)),(3,(.sc (.func (.func 88) #[] #[]))),(4,(i64 g)),(12,(.own 0 (List.length b))),(13,(i64 o)),(14,(slc 1 Zd k)),(15,(i64 p))] [bf 3 127 Zl (List.set b (Int.toNat (ZI ((List.length b:Int) - (1:Int)))) ({ z with f_values:=({ z.f_values with Hi:=(IntKind.wrap .u32 (IntKind.wrap .u64 (u - (1:Int)))) }:Zb) }:Zm)) false,.cells (Zh (Zb.mk (IntKind.wrap .u32 w) (IntKind.wrap .u32 (IntKind.wrap .u64 (u - (1:Int))))))] ?_
           rw [show ([(0,(i64 a)),(1,(slc 10 Za d)),(2,(slc 10 Za f)),(3,(.sc (.func (.func 88) #[] #[]))),(4,(i64 g)),(12,(.own 0 (List.length b))),(13,(i64 o)),(14,(slc 1 Zd k)),(15,(i64 p))]:St)=[(0,(i64 a)),(1,(slc 10 Za d)),(2,(slc 10 Za f)),(3,(.sc (.func (.func 88) #[] #[]))),(4,(i64 g)),(12,(.own 0 (List.length (List.set b (Int.toNat (ZI ((List.length b:Int) - (1:Int)))) ({ z with f_values:=({ z.f_values with Hi:=(IntKind.wrap .u32 (IntKind.wrap .u64 (u - (1:Int)))) }:Zb) }:Zm))))),(13,(i64 o)),(14,(slc 1 Zd k)),(15,(i64 p))] by simp only [List.length_set]]
           refine AWP.exit (LeQ.start (LeQ.pk [0,1,2,3,4,12,13,14,15] 1 ?_))
           exact(.inl ⟨rfl,(List.set b (Int.toNat (ZI ((List.length b:Int) - (1:Int)))) ({ z with f_values:=({ z.f_values with Hi:=(IntKind.wrap .u32 (IntKind.wrap .u64 (u - (1:Int)))) }:Zb) }:Zm)),o,(someb hF).symm,by kernel_rfl,by kernel_rfl⟩)
          ·refine AWP.skip (AWP.seq ?_)
           obtain⟨g0,hF⟩:=chkb hF
           refine AWP.rg [(5,.app Zl (fun _=>by kernel_rfl) g0)] [(0,(i64 a)),(1,(slc 10 Za d)),(2,(slc 10 Za f)),(3,(.sc (.func (.func 88) #[] #[]))),(4,(i64 g)),(12,(.own 0 (List.length (b++[(Zm.mk (Zb.mk (IntKind.wrap .u32 w) (IntKind.wrap .u32 (IntKind.wrap .u64 (u - (1:Int))))) m.1)])))),(13,(i64 o)),(14,(slc 1 Zd k)),(15,(i64 p)),(17,(slc 10 Za m.1))] [bf 3 127 Zl (b++[(Zm.mk (Zb.mk (IntKind.wrap .u32 w) (IntKind.wrap .u32 (IntKind.wrap .u64 (u - (1:Int))))) m.1)]) false,.cells (Zh (Zb.mk (IntKind.wrap .u32 w) (IntKind.wrap .u32 (IntKind.wrap .u64 (u - (1:Int))))))] (AWP.seq (AWP.rg0 [(2,.len Za m.1)] [(0,(i64 a)),(1,(slc 10 Za d)),(2,(slc 10 Za f)),(3,(.sc (.func (.func 88) #[] #[]))),(4,(i64 g)),(12,(.own 0 (List.length (b++[(Zm.mk (Zb.mk (IntKind.wrap .u32 w) (IntKind.wrap .u32 (IntKind.wrap .u64 (u - (1:Int))))) m.1)])))),(13,(i64 (ZI (o + (List.length m.1:Int))))),(14,(slc 1 Zd k)),(15,(i64 p))] (AWP.seq (AWP.rg0 [] [(0,(i64 a)),(1,(slc 10 Za d)),(2,(slc 10 Za f)),(3,(.sc (.func (.func 88) #[] #[]))),(4,(i64 g)),(12,(.own 0 (List.length (b++[(Zm.mk (Zb.mk (IntKind.wrap .u32 w) (IntKind.wrap .u32 (IntKind.wrap .u64 (u - (1:Int))))) m.1)])))),(13,(i64 (ZI (o + (List.length m.1:Int))))),(14,(slc 1 Zd k)),(15,(i64 p)),(143,(vb (decide ((ZI (o + (List.length m.1:Int))) > g))))] ?_))))
           refine AWP.cif hF (fun g1 hF=>?_) (fun g1 hF=>?_)
           ·refine AWP.seq (AWP.rg0 [] [(10,nils),(11,(vb false))] (AWP.ret ?_))
            exact LeQ.of (.inr ⟨rfl,(([]:ZL),false),(someb hF).symm,(FnQ.f1 0 (.inr rfl) (.inr ⟨_,_,rfl,rfl,(.cons _ _ _ _ (.nil 10) (.cons _ _ _ _ (.refl _) .nil))⟩))⟩)
           ·refine AWP.skip (LeQ.start (LeQ.pk [0,1,2,3,4,12,13,14,15] 1 ?_))
            exact(.inl ⟨rfl,(b++[(Zm.mk (Zb.mk (IntKind.wrap .u32 w) (IntKind.wrap .u32 (IntKind.wrap .u64 (u - (1:Int))))) m.1)]),(ZI (o + (List.length m.1:Int))),(someb hF).symm,by kernel_rfl,by kernel_rfl⟩)
       ·rintro _ _ _ (⟨rfl,a2,a4,rfl,rfl,rfl⟩ | ⟨rfl,g2,rfl,hq⟩)
        ·refine AWP.rg0 [] [(0,(i64 a)),(1,(slc 10 Za d)),(2,(slc 10 Za f)),(3,(.sc (.func (.func 88) #[] #[]))),(4,(i64 g)),(12,(.own 0 (List.length a2))),(13,(i64 a4)),(14,(slc 1 Zd k)),(15,(i64 (ZI (p + (1:Int)))))] (LeQ.start (LeQ.pk [0,1,2,3,4,12,13,14,15] 1 ?_))
         exact⟨b4,Nat.lt_succ_self _,a2,a4,(ZI (p + (1:Int))),hF,by kernel_rfl,by kernel_rfl⟩
        ·exact LeQ.of (.inr ⟨rfl,g2,(someb hF).symm,hq⟩)
      ·refine AWP.exit (LeQ.start (LeQ.pk [0,12,13] 1 ?_))
       exact(.inl ⟨rfl,b,o,(someb hF).symm,by kernel_rfl,by kernel_rfl⟩)
    ·rintro _ _ _ (⟨rfl,c,b3,rfl,rfl,rfl⟩ | ⟨rfl,h3,rfl,hq⟩)
     ·refine AWP.seq ?_
      obtain⟨g3,hF⟩:=chkb hF
      refine AWP.rg [(1,.mk0 Za g3)] [(0,(i64 a)),(12,(.own 0 (List.length c))),(20,(.own 1 (List.length ([]:ZL))))] [bf 3 127 Zl c false,bf 10 59 Za ([]:ZL) false] (AWP.seq (AWP.seq (AWP.rg0 [(1,.len Zl c)] [(0,(i64 a)),(20,(.own 1 (List.length ([]:ZL)))),(146,(.own 0 (List.length c))),(147,(i64 (List.length c:Int))),(148,(i64 (0:Int)))] ?_)))
      obtain⟨a8,g4,hF⟩:=bindb hF
      refine AWP.mid (fun e st H=>e=.normal∧st=[(20,(.own 1 (List.length a8)))]∧H=[bf 3 127 Zl c false,bf 10 59 Za a8 false]) ?_ ?_
      ·clear hF
       refine AWP.kp [0,20,146,147,148] 2 ?_
       refine AWP.bround (fun n st H=>∃ y,∃ q,Zah a c n y q=some a8∧st=[(0,(i64 a)),(20,(.own 1 (List.length y))),(146,(.own 0 (List.length c))),(147,(i64 (List.length c:Int))),(148,(i64 q))]∧H=[bf 3 127 Zl c false,bf 10 59 Za y false]) fuel ⟨([]:ZL),(0:Int),g4,by kernel_rfl,by kernel_rfl⟩ ?_
       rintro b6 st H ⟨y,q,hF,rfl,rfl⟩
       cases b6 with
       | zero=>exact noneb hF
       | succ b6=>
        rw [Zah] at hF
        refine AWP.seq (AWP.rg0 [] [(0,(i64 a)),(20,(.own 1 (List.length y))),(146,(.own 0 (List.length c))),(147,(i64 (List.length c:Int))),(148,(i64 q)),(149,(vb (decide (q<(List.length c:Int)))))] (AWP.seq ?_))
        refine AWP.cif hF (fun g5 hF=>?_) (fun g5 hF=>?_)
        ·refine AWP.skip (AWP.seq (AWP.block (AWP.seq ?_)))
         obtain⟨j,c6,hF⟩:=bindb hF
         refine AWP.rg [(0,.idx Zl c6),(1,.ldE Zl c6)] [(0,(i64 a)),(20,(.own 1 (List.length y))),(22,(.ptr 2 0)),(146,(.own 0 (List.length c))),(147,(i64 (List.length c:Int))),(148,(i64 q))] [bf 3 127 Zl c false,bf 10 59 Za y false,.cells (Zl j)] (AWP.seq (AWP.rg0 [(2,.len Za j.f_rest)] [(0,(i64 a)),(20,(.own 1 (List.length y))),(22,(.ptr 2 0)),(146,(.own 0 (List.length c))),(147,(i64 (List.length c:Int))),(148,(i64 q)),(153,(slc 10 Za j.f_rest)),(154,(i64 (List.length j.f_rest:Int))),(155,(i64 (0:Int)))] ?_))
         obtain⟨a9,g6,hF⟩:=bindb hF
         refine AWP.mid (fun e st H=>e=.normal∧st=[(0,(i64 a)),(20,(.own 1 (List.length a9))),(146,(.own 0 (List.length c))),(147,(i64 (List.length c:Int))),(148,(i64 q))]∧H=[bf 3 127 Zl c false,bf 10 59 Za a9 false,.cells (Zl j)]) ?_ ?_
         ·clear hF
          refine AWP.kp [0,20,22,146,147,148,153,154,155] 3 ?_
          refine AWP.bround (fun n st H=>∃ v,∃ x,Zan a j n v x=some a9∧st=[(0,(i64 a)),(20,(.own 1 (List.length v))),(22,(.ptr 2 0)),(146,(.own 0 (List.length c))),(147,(i64 (List.length c:Int))),(148,(i64 q)),(153,(slc 10 Za j.f_rest)),(154,(i64 (List.length j.f_rest:Int))),(155,(i64 x))]∧H=[bf 3 127 Zl c false,bf 10 59 Za v false,.cells (Zl j)]) fuel ⟨y,(0:Int),g6,by kernel_rfl,by kernel_rfl⟩ ?_
          rintro b7 st H ⟨v,x,hF,rfl,rfl⟩
          cases b7 with
          | zero=>exact noneb hF
          | succ b7=>
           rw [Zan] at hF
           refine AWP.seq (AWP.rg0 [] [(0,(i64 a)),(20,(.own 1 (List.length v))),(22,(.ptr 2 0)),(146,(.own 0 (List.length c))),(147,(i64 (List.length c:Int))),(148,(i64 q)),(153,(slc 10 Za j.f_rest)),(154,(i64 (List.length j.f_rest:Int))),(155,(i64 x)),(156,(vb (decide (x<(List.length j.f_rest:Int)))))] (AWP.seq ?_))
           refine AWP.cif hF (fun g7 hF=>?_) (fun g7 hF=>?_)
           ·refine AWP.skip (AWP.seq (AWP.block (AWP.seq ?_)))
            obtain⟨a0,g8,hF⟩:=bindb hF
            refine AWP.rg [(0,.idx Za g8)] [(0,(i64 a)),(20,(.own 1 (List.length v))),(22,(.ptr 2 0)),(24,(.ptr 3 0)),(146,(.own 0 (List.length c))),(147,(i64 (List.length c:Int))),(148,(i64 q)),(153,(slc 10 Za j.f_rest)),(154,(i64 (List.length j.f_rest:Int))),(155,(i64 x))] [bf 3 127 Zl c false,bf 10 59 Za v false,.cells (Zl j),.cells (Za a0)] (AWP.seq ?_)
            obtain⟨c7,hF⟩:=chkb hF
            refine AWP.rg [(3,.ixd c7),(4,.stA (fun g9=>Za (Arr5.set a0 g9 j.f_values)) 0 2 0 c7)] [(0,(i64 a)),(20,(.own 1 (List.length v))),(22,(.ptr 2 0)),(24,(.ptr 3 0)),(146,(.own 0 (List.length c))),(147,(i64 (List.length c:Int))),(148,(i64 q)),(153,(slc 10 Za j.f_rest)),(154,(i64 (List.length j.f_rest:Int))),(155,(i64 x))] [bf 3 127 Zl c false,bf 10 59 Za v false,.cells (Zl j),.cells (Za (Arr5.set a0 a j.f_values))] ?_
            obtain⟨h0,hF⟩:=chkb hF
            refine AWP.rg [(3,.app Za (fun _=>by kernel_rfl) h0)] [(0,(i64 a)),(20,(.own 1 (List.length (v++[(Arr5.set a0 a j.f_values)])))),(22,(.ptr 2 0)),(146,(.own 0 (List.length c))),(147,(i64 (List.length c:Int))),(148,(i64 q)),(153,(slc 10 Za j.f_rest)),(154,(i64 (List.length j.f_rest:Int))),(155,(i64 x))] [bf 3 127 Zl c false,bf 10 59 Za (v++[(Arr5.set a0 a j.f_values)]) false,.cells (Zl j),.cells (Za (Arr5.set a0 a j.f_values))] (AWP.rg0 [] [(0,(i64 a)),(20,(.own 1 (List.length (v++[(Arr5.set a0 a j.f_values)])))),(22,(.ptr 2 0)),(146,(.own 0 (List.length c))),(147,(i64 (List.length c:Int))),(148,(i64 q)),(153,(slc 10 Za j.f_rest)),(154,(i64 (List.length j.f_rest:Int))),(155,(i64 (ZI (x + (1:Int)))))] (LeQ.start (LeQ.pk [0,20,22,146,147,148,153,154,155] 3 ?_)))
            exact⟨b7,Nat.lt_succ_self _,(v++[(Arr5.set a0 a j.f_values)]),(ZI (x + (1:Int))),hF,by kernel_rfl,by kernel_rfl⟩
           ·refine AWP.exit (LeQ.start (LeQ.pk [0,20,146,147,148] 3 ?_))
            have hr:=someb hF
            subst hr
            exact⟨rfl,by kernel_rfl,by kernel_rfl⟩
         ·rintro _ _ _ ⟨rfl,rfl,rfl⟩
          refine AWP.rg0 [] [(0,(i64 a)),(20,(.own 1 (List.length a9))),(146,(.own 0 (List.length c))),(147,(i64 (List.length c:Int))),(148,(i64 (ZI (q + (1:Int)))))] (LeQ.start (LeQ.pk [0,20,146,147,148] 2 ?_))
          exact⟨b6,Nat.lt_succ_self _,a9,(ZI (q + (1:Int))),hF,by kernel_rfl,by kernel_rfl⟩
        ·refine AWP.exit (LeQ.start (LeQ.pk [20] 2 ?_))
         have hr:=someb hF
         subst hr
         exact⟨rfl,by kernel_rfl,by kernel_rfl⟩
      ·rintro _ _ _ ⟨rfl,rfl,rfl⟩
       refine AWP.seq (AWP.rg0 [] [(10,(.own 1 (List.length a8))),(11,(vb true))] (AWP.ret ?_))
       have hr:=someb hF
       subst hr
       exact(FnQ.f1 0 (.inr rfl) (.inr ⟨_,_,rfl,rfl,(.cons _ _ _ _ (Wk.ownT (i:=1) (s:=10) (t:=59) (l:=a8) (sh:=false) (row:=Za) (by kernel_rfl) (.inl rfl)) (.cons _ _ _ _ (.refl _) .nil))⟩))
     ·have hr:=someb hF
      subst hr
      exact hq
theorem Zi1 (a:Int) (b:ZL) (c:ZL) (d:Int) (r:(ZL × Bool)) (hF:Zaf fuel a b c d=some r):ACall Tryz.prog glob 103 [(i64 a),(slc 10 Za b),(slc 10 Za c),(.sc (.func (.func 88) #[] #[])),(i64 d)] [] (Zej r):=Zij fuel a b c d r hF
def Zjn (r:(ZL × Int)):PV→List Blk→Prop:=fun p K=>p=(.tup [(slc 10 Za r.1),(i64 r.2)])∧K=[]
theorem Zjo (b:ZL) (c:ZL) (r:(ZL × Int)) (hF:Zbt b c=some r):ACall Tryz.prog glob 87 [(slc 10 Za b),(slc 10 Za c),(.sc (.func (.func 88) #[] #[]))] [] (Zjn r):=by
 refine ACall.body Tryz.func87 rfl (by kernel_rfl) ?_
 unfold Zbt at hF
 refine AWP.seq (AWP.rg0 [] [(0,(slc 10 Za b)),(1,(slc 10 Za c)),(2,(.sc (.func (.func 88) #[] #[])))] (AWP.seq ?_))
 obtain⟨a,d,hF⟩:=bindb hF
 refine AWP.rg0 [(3,.call Tryz.func103 [] (Zi1 (0:Int) b c (4096:Int) a d))] [(8,(slc 10 Za a.1)),(9,(vb a.2))] (AWP.seq (AWP.seq (AWP.rg0 [] [(8,(slc 10 Za a.1)),(18,(vb (!a.2)))] ?_)))
 refine AWP.cif hF (fun f hF=>?_) (fun f hF=>?_)
 ·refine AWP.seq (AWP.rg0 [] [(6,nils),(7,(i64 (3:Int)))] (AWP.ret ?_))
  have hr:=someb hF
  subst hr
  exact(FnQ.f1 0 (.inr rfl) (.inr ⟨_,_,rfl,rfl,(.cons _ _ _ _ (.nil 10) (.cons _ _ _ _ (.refl _) .nil))⟩))
 ·refine AWP.skip (AWP.seq (AWP.rg0 [] [(6,(slc 10 Za a.1)),(7,(i64 (0:Int)))] (AWP.ret ?_)))
  have hr:=someb hF
  subst hr
  exact(FnQ.f0 0 (.inr rfl))
def Zkx (r:(ZL × Int)):PV→List Blk→Prop:=fun p K=>p=(.tup [(slc 10 Za r.1),(i64 r.2)])∧K=[]
abbrev Zqa (r:(ZL × Int)):Exit→St→List Blk→Prop:=FnQ Tryz.prog Tryz.f55.results 0 (Zkx r)
theorem Zqb (f:ZL) (r:(ZL × Int)) (hF:Zf1 f=some r):ACall Tryz.prog glob 55 [(slc 10 Za f)] [] (Zkx r):=by
 refine ACall.body Tryz.func55 rfl (by kernel_rfl) ?_
 unfold Zf1 at hF
 refine AWP.seq (AWP.rg0 [] [(0,(slc 10 Za f))] (AWP.seq (AWP.rg0 [] [(0,(slc 10 Za f)),(4,nils)] (AWP.seq (AWP.seq ?_)))))
 obtain⟨a,l,hF⟩:=bindb hF
 refine AWP.rg0 [(1,.call Tryz.func85 [] (Zib f a l)),(2,.len Za a)] [(4,nils),(10,(slc 10 Za a)),(11,(i64 (List.length a:Int))),(12,(i64 (0:Int)))] ?_
 obtain⟨i,m,hF⟩:=bindb hF
 refine AWP.mid (fun e st H=>(e=.normal∧∃ g,i=(.inl g)∧st=[(4,(slc 10 Za g))]∧H=[])∨(e=.ret∧∃ r,i=(.inr r)∧Zqa r e st H)) ?_ ?_
 ·clear hF
  refine AWP.wk (p:=nils) (q:=(slc 10 Za ([]:ZL))) (st':=[(4,(slc 10 Za ([]:ZL))),(10,(slc 10 Za a)),(11,(i64 (List.length a:Int))),(12,(i64 (0:Int)))]) 4 (by kernel_rfl) (.nil 10) (by kernel_rfl) ?_
  refine AWP.kp [4,10,11,12] 0 ?_
  refine AWP.bround (fun n st H=>∃ d,∃ b,Zdb a n d b=some i∧st=[(4,(slc 10 Za d)),(10,(slc 10 Za a)),(11,(i64 (List.length a:Int))),(12,(i64 b))]∧H=[]) fuel ⟨([]:ZL),(0:Int),m,by kernel_rfl,by kernel_rfl⟩ ?_
  rintro j st H ⟨d,b,hF,rfl,rfl⟩
  cases j with
  | zero=>exact noneb hF
  | succ j=>
   rw [Zdb] at hF
   refine AWP.seq (AWP.rg0 [] [(4,(slc 10 Za d)),(10,(slc 10 Za a)),(11,(i64 (List.length a:Int))),(12,(i64 b)),(13,(vb (decide (b<(List.length a:Int)))))] (AWP.seq ?_))
   refine AWP.cif hF (fun o hF=>?_) (fun o hF=>?_)
   ·refine AWP.skip (AWP.seq (AWP.block (AWP.seq ?_)))
    obtain⟨k,s,hF⟩:=bindb hF
    refine AWP.rg [(0,.idx Za s)] [(4,(slc 10 Za d)),(6,(.ptr 0 0)),(10,(slc 10 Za a)),(11,(i64 (List.length a:Int))),(12,(i64 b))] [.cells (Za k)] (AWP.seq ?_)
    obtain⟨c,t,hF⟩:=bindb hF
    refine AWP.rg0 [(3,.call Tryz.func87 [] (Zjo d [k] c t))] [(7,(slc 10 Za c.1)),(8,(i64 c.2)),(10,(slc 10 Za a)),(11,(i64 (List.length a:Int))),(12,(i64 b))] (AWP.seq (AWP.seq (AWP.rg0 [] [(7,(slc 10 Za c.1)),(8,(i64 c.2)),(10,(slc 10 Za a)),(11,(i64 (List.length a:Int))),(12,(i64 b)),(24,(vb (c.2 != (0:Int))))] ?_)))
    refine AWP.cif hF (fun u hF=>?_) (fun u hF=>?_)
    ·refine AWP.seq (AWP.rg0 [] [(2,nils),(3,(i64 c.2))] (AWP.ret ?_))
     exact LeQ.of (.inr ⟨rfl,(([]:ZL),c.2),(someb hF).symm,(FnQ.f1 0 (.inr rfl) (.inr ⟨_,_,rfl,rfl,(.cons _ _ _ _ (.nil 10) (.cons _ _ _ _ (.refl _) .nil))⟩))⟩)
    ·refine AWP.skip (AWP.rg0 [] [(4,(slc 10 Za c.1)),(10,(slc 10 Za a)),(11,(i64 (List.length a:Int))),(12,(i64 b))] (AWP.rg0 [] [(4,(slc 10 Za c.1)),(10,(slc 10 Za a)),(11,(i64 (List.length a:Int))),(12,(i64 (ZI (b + (1:Int)))))] (LeQ.start (LeQ.pk [4,10,11,12] 0 ?_))))
     exact⟨j,Nat.lt_succ_self _,c.1,(ZI (b + (1:Int))),hF,by kernel_rfl,by kernel_rfl⟩
   ·refine AWP.exit (LeQ.start (LeQ.pk [4] 0 ?_))
    exact(.inl ⟨rfl,d,(someb hF).symm,by kernel_rfl,by kernel_rfl⟩)
 ·rintro _ _ _ (⟨rfl,g,rfl,rfl,rfl⟩ | ⟨rfl,v,rfl,hq⟩)
  ·refine AWP.seq (AWP.rg0 [] [(2,(slc 10 Za g)),(3,(i64 (0:Int)))] (AWP.ret ?_))
   have hr:=someb hF
   subst hr
   exact(FnQ.f0 0 (.inr rfl))
  ·have hr:=someb hF
   subst hr
   exact hq
def Zsv (r:(ZL × Int)):PV→List Blk→Prop:=fun p K=>p=(.tup [(slc 10 Za r.1),(i64 r.2)])∧K=[]
theorem Zjy (a:ZL) (r:(ZL × Int)) (hF:Ze5 a=some r):ACall Tryz.prog glob 26 [(slc 10 Za a)] [] (Zsv r):=by
 refine ACall.body Tryz.func26 rfl (by kernel_rfl) ?_
 unfold Ze5 at hF
 refine AWP.seq (AWP.rg0 [] [(0,(slc 10 Za a))] (AWP.seq (AWP.seq ?_)))
 obtain⟨c,d,hF⟩:=bindb hF
 refine AWP.rg0 [(1,.call Tryz.func54 [] (Zoy a c d))] [(0,(slc 10 Za a)),(5,(vb c))] ?_
 refine AWP.cif hF (fun f hF=>?_) (fun f hF=>?_)
 ·refine AWP.seq (AWP.rg0 [] [(2,(slc 10 Za a)),(3,(i64 (0:Int)))] (AWP.ret ?_))
  have hr:=someb hF
  subst hr
  exact(FnQ.f0 0 (.inr rfl))
 ·refine AWP.skip (AWP.seq ?_)
  obtain⟨b,g,hF⟩:=bindb hF
  refine AWP.rg0 [(1,.call Tryz.func55 [] (Zqb a b g))] [(2,(slc 10 Za b.1)),(3,(i64 b.2))] (AWP.ret ?_)
  have hr:=someb hF
  subst hr
  exact(FnQ.f0 0 (.inr rfl))
def Zo2 (r:Zf):PV→List Blk→Prop:=fun p K=>p=(Zq r)∧K=[]
theorem Zo3 (a:Int) (r:Zf) (hF:Zgy a=some r):ACall Tryz.prog glob 24 [(u64 a)] [] (Zo2 r):=by
 refine ACall.body Tryz.func24 rfl (by kernel_rfl) ?_
 unfold Zgy at hF
 refine AWP.seq (AWP.rg [] [(0,(u64 a)),(2,(.ptr 0 0))] [.cells (Zc Zk)] (AWP.seq (AWP.rg [] [(2,(.ptr 0 0))] [.cells (Zc (Zf.mk (0:Int) a))] (AWP.ret ?_))))
 have hr:=someb hF
 subst hr
 exact(FnQ.f0 0 (.inr rfl))
def Zo4 (r:Int):PV→List Blk→Prop:=fun p K=>p=(u64 r)∧K=[]
theorem Zgz (a:Zb) (r:Int) (hF:Zcr a=some r):ACall Tryz.prog glob 48 [(Zhn a)] [] (Zo4 r):=by
 refine ACall.body Tryz.func48 rfl (by kernel_rfl) ?_
 unfold Zcr at hF
 refine AWP.seq (AWP.rg [] [(1,(.ptr 0 0))] [.cells (Zh a)] (AWP.seq (AWP.rg0 [] [(2,(u64 (IntKind.wrap .u64 ((IntKind.wrap .u64 ((IntKind.wrap .u64 a.Hi) - (IntKind.wrap .u64 a.Lo))) + (1:Int)))))] (AWP.ret ?_))))
 have hr:=someb hF
 subst hr
 exact(FnQ.f0 0 (.inr rfl))
def Zo5 (r:(Int × Int)):PV→List Blk→Prop:=fun p K=>p=(.tup [(u64 r.1),(u64 r.2)])∧K=[]
theorem Zkf (a:Int) (b:Int) (r:(Int × Int)) (hF:Zex a b=some r):ACall Tryz.prog glob 80 [(u64 a),(u64 b)] [] (Zo5 r):=by
 refine ACall.body Tryz.func80 rfl (by kernel_rfl) ?_
 unfold Zex at hF
 refine AWP.seq (AWP.rg0 [] [(0,(u64 a)),(1,(u64 b))] (AWP.seq (AWP.rg0 [] [(0,(u64 a)),(1,(u64 b)),(6,(u64 (bAnd .u64 a (4294967295:Int))))] (AWP.seq (AWP.rg0 [] [(0,(u64 a)),(1,(u64 b)),(6,(u64 (bAnd .u64 a (4294967295:Int)))),(7,(u64 (bShr .u64 a (32:Int))))] (AWP.seq ?_))))))
 refine AWP.rg0 [] [(0,(u64 a)),(1,(u64 b)),(6,(u64 (bAnd .u64 a (4294967295:Int)))),(7,(u64 (bShr .u64 a (32:Int)))),(8,(u64 (bAnd .u64 b (4294967295:Int))))] (AWP.seq (AWP.rg0 [] [(0,(u64 a)),(1,(u64 b)),(6,(u64 (bAnd .u64 a (4294967295:Int)))),(7,(u64 (bShr .u64 a (32:Int)))),(8,(u64 (bAnd .u64 b (4294967295:Int)))),(9,(u64 (bShr .u64 b (32:Int))))] (AWP.seq (AWP.rg0 [] [(0,(u64 a)),(1,(u64 b)),(6,(u64 (bAnd .u64 a (4294967295:Int)))),(7,(u64 (bShr .u64 a (32:Int)))),(8,(u64 (bAnd .u64 b (4294967295:Int)))),(9,(u64 (bShr .u64 b (32:Int)))),(10,(u64 (IntKind.wrap .u64 ((bAnd .u64 a (4294967295:Int)) * (bAnd .u64 b (4294967295:Int))))))] (AWP.seq (AWP.rg0 [] [(0,(u64 a)),(1,(u64 b)),(6,(u64 (bAnd .u64 a (4294967295:Int)))),(7,(u64 (bShr .u64 a (32:Int)))),(9,(u64 (bShr .u64 b (32:Int)))),(11,(u64 (IntKind.wrap .u64 ((IntKind.wrap .u64 ((bShr .u64 a (32:Int)) * (bAnd .u64 b (4294967295:Int)))) + (bShr .u64 (IntKind.wrap .u64 ((bAnd .u64 a (4294967295:Int)) * (bAnd .u64 b (4294967295:Int)))) (32:Int))))))] ?_))))))
 refine AWP.seq (AWP.rg0 [] [(0,(u64 a)),(1,(u64 b)),(6,(u64 (bAnd .u64 a (4294967295:Int)))),(7,(u64 (bShr .u64 a (32:Int)))),(9,(u64 (bShr .u64 b (32:Int)))),(11,(u64 (IntKind.wrap .u64 ((IntKind.wrap .u64 ((bShr .u64 a (32:Int)) * (bAnd .u64 b (4294967295:Int)))) + (bShr .u64 (IntKind.wrap .u64 ((bAnd .u64 a (4294967295:Int)) * (bAnd .u64 b (4294967295:Int)))) (32:Int)))))),(12,(u64 (bAnd .u64 (IntKind.wrap .u64 ((IntKind.wrap .u64 ((bShr .u64 a (32:Int)) * (bAnd .u64 b (4294967295:Int)))) + (bShr .u64 (IntKind.wrap .u64 ((bAnd .u64 a (4294967295:Int)) * (bAnd .u64 b (4294967295:Int)))) (32:Int)))) (4294967295:Int))))] (AWP.seq (AWP.rg0 [] [(0,(u64 a)),(1,(u64 b)),(6,(u64 (bAnd .u64 a (4294967295:Int)))),(7,(u64 (bShr .u64 a (32:Int)))),(9,(u64 (bShr .u64 b (32:Int)))),(12,(u64 (bAnd .u64 (IntKind.wrap .u64 ((IntKind.wrap .u64 ((bShr .u64 a (32:Int)) * (bAnd .u64 b (4294967295:Int)))) + (bShr .u64 (IntKind.wrap .u64 ((bAnd .u64 a (4294967295:Int)) * (bAnd .u64 b (4294967295:Int)))) (32:Int)))) (4294967295:Int)))),(13,(u64 (bShr .u64 (IntKind.wrap .u64 ((IntKind.wrap .u64 ((bShr .u64 a (32:Int)) * (bAnd .u64 b (4294967295:Int)))) + (bShr .u64 (IntKind.wrap .u64 ((bAnd .u64 a (4294967295:Int)) * (bAnd .u64 b (4294967295:Int)))) (32:Int)))) (32:Int))))] (AWP.seq (AWP.rg0 [] [(0,(u64 a)),(1,(u64 b)),(7,(u64 (bShr .u64 a (32:Int)))),(9,(u64 (bShr .u64 b (32:Int)))),(12,(u64 (IntKind.wrap .u64 ((bAnd .u64 (IntKind.wrap .u64 ((IntKind.wrap .u64 ((bShr .u64 a (32:Int)) * (bAnd .u64 b (4294967295:Int)))) + (bShr .u64 (IntKind.wrap .u64 ((bAnd .u64 a (4294967295:Int)) * (bAnd .u64 b (4294967295:Int)))) (32:Int)))) (4294967295:Int)) + (IntKind.wrap .u64 ((bAnd .u64 a (4294967295:Int)) * (bShr .u64 b (32:Int)))))))),(13,(u64 (bShr .u64 (IntKind.wrap .u64 ((IntKind.wrap .u64 ((bShr .u64 a (32:Int)) * (bAnd .u64 b (4294967295:Int)))) + (bShr .u64 (IntKind.wrap .u64 ((bAnd .u64 a (4294967295:Int)) * (bAnd .u64 b (4294967295:Int)))) (32:Int)))) (32:Int))))] (AWP.seq ?_))))))
 refine AWP.rg0 [] [(0,(u64 a)),(1,(u64 b)),(4,(u64 (IntKind.wrap .u64 ((IntKind.wrap .u64 ((IntKind.wrap .u64 ((bShr .u64 a (32:Int)) * (bShr .u64 b (32:Int)))) + (bShr .u64 (IntKind.wrap .u64 ((IntKind.wrap .u64 ((bShr .u64 a (32:Int)) * (bAnd .u64 b (4294967295:Int)))) + (bShr .u64 (IntKind.wrap .u64 ((bAnd .u64 a (4294967295:Int)) * (bAnd .u64 b (4294967295:Int)))) (32:Int)))) (32:Int)))) + (bShr .u64 (IntKind.wrap .u64 ((bAnd .u64 (IntKind.wrap .u64 ((IntKind.wrap .u64 ((bShr .u64 a (32:Int)) * (bAnd .u64 b (4294967295:Int)))) + (bShr .u64 (IntKind.wrap .u64 ((bAnd .u64 a (4294967295:Int)) * (bAnd .u64 b (4294967295:Int)))) (32:Int)))) (4294967295:Int)) + (IntKind.wrap .u64 ((bAnd .u64 a (4294967295:Int)) * (bShr .u64 b (32:Int)))))) (32:Int))))))] (AWP.seq (AWP.rg0 [] [(4,(u64 (IntKind.wrap .u64 ((IntKind.wrap .u64 ((IntKind.wrap .u64 ((bShr .u64 a (32:Int)) * (bShr .u64 b (32:Int)))) + (bShr .u64 (IntKind.wrap .u64 ((IntKind.wrap .u64 ((bShr .u64 a (32:Int)) * (bAnd .u64 b (4294967295:Int)))) + (bShr .u64 (IntKind.wrap .u64 ((bAnd .u64 a (4294967295:Int)) * (bAnd .u64 b (4294967295:Int)))) (32:Int)))) (32:Int)))) + (bShr .u64 (IntKind.wrap .u64 ((bAnd .u64 (IntKind.wrap .u64 ((IntKind.wrap .u64 ((bShr .u64 a (32:Int)) * (bAnd .u64 b (4294967295:Int)))) + (bShr .u64 (IntKind.wrap .u64 ((bAnd .u64 a (4294967295:Int)) * (bAnd .u64 b (4294967295:Int)))) (32:Int)))) (4294967295:Int)) + (IntKind.wrap .u64 ((bAnd .u64 a (4294967295:Int)) * (bShr .u64 b (32:Int)))))) (32:Int)))))),(5,(u64 (IntKind.wrap .u64 (a * b))))] (AWP.ret ?_)))
 have hr:=someb hF
 subst hr
 exact(FnQ.f0 0 (.inr rfl))
def Zqc (r:(Zf × Bool)):PV→List Blk→Prop:=fun p K=>p=(.tup [(Zq r.1),(vb r.2)])∧K=[]
theorem Zf6 (c:Zf) (d:Int) (r:(Zf × Bool)) (hF:Zch c d=some r):ACall Tryz.prog glob 47 [(Zq c),(u64 d)] [] (Zqc r):=by
 refine ACall.body Tryz.func47 rfl (by kernel_rfl) ?_
 unfold Zch at hF
 refine AWP.seq (AWP.rg [] [(1,(u64 d)),(2,(.ptr 0 0)),(4,(.ptr 1 0))] [.cells (Zc c),.cells (Zc Zk)] (AWP.seq ?_))
 obtain⟨a,i,hF⟩:=bindb hF
 refine AWP.rg0 [(3,.call Tryz.func80 [] (Zkf c.Lo d a i))] [(1,(u64 d)),(2,(.ptr 0 0)),(4,(.ptr 1 0)),(6,(u64 a.1)),(7,(u64 a.2))] (AWP.seq ?_)
 obtain⟨b,j,hF⟩:=bindb hF
 refine AWP.rg0 [(3,.call Tryz.func80 [] (Zkf c.Hi d b j))] [(4,(.ptr 1 0)),(6,(u64 a.1)),(7,(u64 a.2)),(8,(u64 b.1)),(9,(u64 b.2))] (AWP.seq ?_)
 obtain⟨k,hF⟩:=chkb hF
 refine AWP.rg0 [(2,.ext (e:=add64Entry) (Znl k) Tryz.func28 (by kernel_rfl) (by kernel_rfl) (by kernel_rfl) (by kernel_rfl))] [(4,(.ptr 1 0)),(7,(u64 a.2)),(8,(u64 b.1)),(9,(u64 ((b.2 + a.1 + (0:Int)) % 18446744073709551616))),(10,(u64 ((b.2 + a.1 + (0:Int)) / 18446744073709551616)))] (AWP.seq ?_)
 obtain⟨g,f,hF⟩:=bindb hF
 replace f:=someb f
 refine AWP.to [(4,(.ptr 1 0)),(5,(vb (g && (((b.2 + a.1 + (0:Int)) / 18446744073709551616) == (0:Int)))))] [.cells (Zc c),.cells (Zc (Zf.mk ((b.2 + a.1 + (0:Int)) % 18446744073709551616) a.2))] ?_ ?_
 ·cases g with
  | false=>
   exact AWP.rgT [(5,.bool f)]
  | true=>
   exact AWP.rgT [(5,.bool f)]
 refine AWP.ret ?_
 have hr:=someb hF
 subst hr
 exact(FnQ.f0 0 (.inr rfl))
def Zo6 (r:Zf):PV→List Blk→Prop:=fun p K=>p=(Zq r)∧K=[]
theorem Zkg (b:ZB) (a:Int) (r:Zf) (hF:Zdv b a=some r):ACall Tryz.prog glob 56 [(Zs b),(i64 a)] [] (Zo6 r):=by
 refine ACall.body Tryz.func56 rfl (by kernel_rfl) ?_
 unfold Zdv at hF
 refine AWP.seq (AWP.rg [] [(1,(i64 a)),(2,(.ptr 0 0)),(4,(.ptr 1 0))] [.cells (Za b),.cells (Zc Zk)] (AWP.seq ?_))
 obtain⟨g,o,hF⟩:=bindb hF
 refine AWP.rg [(0,.call Tryz.func24 [] (Zo3 (1:Int) g o))] [(1,(i64 a)),(2,(.ptr 0 0)),(4,(.ptr 1 0)),(5,(.ptr 2 0))] [.cells (Za b),.cells (Zc Zk),.cells (Zc g)] (AWP.seq (AWP.seq ?_))
 obtain⟨k,hF⟩:=chkb hF
 refine AWP.rg0 [(1,.sliceA (n:=5) k),(2,.lenV (Int.toNat (5:Int) - Int.toNat a))] [(4,(.ptr 1 0)),(5,(.ptr 2 0)),(10,(.vw 0 (0 + Int.toNat a * 2) (Int.toNat (5:Int) - Int.toNat a))),(11,(i64 (((Int.toNat (5:Int) - Int.toNat a):Nat):Int))),(12,(i64 (0:Int)))] ?_
 obtain⟨f,p,hF⟩:=bindb hF
 refine AWP.mid (fun e st H=>e=.normal∧st=[(4,(.ptr 1 0)),(5,(.ptr 2 0))]∧H=[.cells (Za b),.cells (Zc Zk),.cells (Zc f)]) ?_ ?_
 ·clear hF
  refine AWP.kp [4,5,10,11,12] 3 ?_
  refine AWP.bround (fun n st H=>∃ d,∃ c,Zc3 b a n d c=some f∧st=[(4,(.ptr 1 0)),(5,(.ptr 2 0)),(10,(.vw 0 (0 + Int.toNat a * 2) (Int.toNat (5:Int) - Int.toNat a))),(11,(i64 (((Int.toNat (5:Int) - Int.toNat a):Nat):Int))),(12,(i64 c))]∧H=[.cells (Za b),.cells (Zc Zk),.cells (Zc d)]) fuel ⟨g,(0:Int),p,by kernel_rfl,by kernel_rfl⟩ ?_
  rintro i st H ⟨d,c,hF,rfl,rfl⟩
  cases i with
  | zero=>exact noneb hF
  | succ i=>
   rw [Zc3] at hF
   refine AWP.seq (AWP.rg0 [] [(4,(.ptr 1 0)),(5,(.ptr 2 0)),(10,(.vw 0 (0 + Int.toNat a * 2) (Int.toNat (5:Int) - Int.toNat a))),(11,(i64 (((Int.toNat (5:Int) - Int.toNat a):Nat):Int))),(12,(i64 c)),(13,(vb (decide (c<(((Int.toNat (5:Int) - Int.toNat a):Nat):Int)))))] (AWP.seq ?_))
   refine AWP.cif hF (fun q hF=>?_) (fun q hF=>?_)
   ·refine AWP.skip (AWP.seq (AWP.block (AWP.seq ?_)))
    obtain⟨l,hF⟩:=chkb hF
    obtain⟨t,hF⟩:=chkb hF
    refine AWP.rg [(0,.idxVA (n:=(Int.toNat (5:Int) - Int.toNat a)) (off0:=(0 + Int.toNat a * 2)) (off1:=0 + Int.toNat (a + c) * 2) (s:=2) l (Zzi k.1 l.1 _)),(1,.ldA Zh (Arr5.get b) 0 2 0 t)] [(4,(.ptr 1 0)),(5,(.ptr 2 0)),(7,(.ptr 3 0)),(10,(.vw 0 (0 + Int.toNat a * 2) (Int.toNat (5:Int) - Int.toNat a))),(11,(i64 (((Int.toNat (5:Int) - Int.toNat a):Nat):Int))),(12,(i64 c))] [.cells (Za b),.cells (Zc Zk),.cells (Zc d),.cells (Zh (Arr5.get b (a + c)))] ?_
    obtain⟨m,u,hF⟩:=bindb hF
    obtain⟨j,v,hF⟩:=bindb hF
    refine AWP.dr [(2,.call Tryz.func48 [] (Zgz (Arr5.get b (a + c)) m u)),(3,.call Tryz.func47 [] (Zf6 d m j v))] 8 [] [7] [] [(4,(.ptr 1 0)),(5,(.ptr 2 0)),(10,(.vw 0 (0 + Int.toNat a * 2) (Int.toNat (5:Int) - Int.toNat a))),(11,(i64 (((Int.toNat (5:Int) - Int.toNat a):Nat):Int))),(12,(i64 c))] [.cells (Za b),.cells (Zc Zk),.cells (Zc j.1),.cells (Zh (Arr5.get b (a + c)))] (AWP.rg0 [] [(4,(.ptr 1 0)),(5,(.ptr 2 0)),(10,(.vw 0 (0 + Int.toNat a * 2) (Int.toNat (5:Int) - Int.toNat a))),(11,(i64 (((Int.toNat (5:Int) - Int.toNat a):Nat):Int))),(12,(i64 (ZI (c + (1:Int)))))] (LeQ.start (LeQ.pk [4,5,10,11,12] 3 ?_)))
    exact⟨i,Nat.lt_succ_self _,j.1,(ZI (c + (1:Int))),hF,by kernel_rfl,by kernel_rfl⟩
   ·refine AWP.exit (LeQ.start (LeQ.pk [4,5] 3 ?_))
    have hr:=someb hF
    subst hr
    exact⟨rfl,by kernel_rfl,by kernel_rfl⟩
 ·rintro _ _ _ ⟨rfl,rfl,rfl⟩
  refine AWP.seq (AWP.rg [] [(4,(.ptr 1 0))] [.cells (Za b),.cells (Zc f),.cells (Zc f)] (AWP.ret ?_))
  have hr:=someb hF
  subst hr
  exact(FnQ.f0 0 (.inr rfl))
def Zsw (r:Zf):PV→List Blk→Prop:=fun p K=>p=(Zq r)∧K=[]
theorem Zjz (a:Zf) (b:Zf) (r:Zf) (hF:Zed a b=some r):ACall Tryz.prog glob 11 [(Zq a),(Zq b)] [] (Zsw r):=by
 refine ACall.body Tryz.func11 rfl (by kernel_rfl) ?_
 unfold Zed at hF
 refine AWP.seq (AWP.rg [] [(2,(.ptr 0 0)),(3,(.ptr 1 0)),(4,(.ptr 2 0))] [.cells (Zc a),.cells (Zc b),.cells (Zc Zk)] (AWP.seq ?_))
 obtain⟨c,hF⟩:=chkb hF
 refine AWP.rg0 [(4,.ext (e:=add64Entry) (Znl c) Tryz.func28 (by kernel_rfl) (by kernel_rfl) (by kernel_rfl) (by kernel_rfl))] [(2,(.ptr 0 0)),(3,(.ptr 1 0)),(4,(.ptr 2 0)),(5,(u64 ((a.Lo + b.Lo + (0:Int)) % 18446744073709551616))),(6,(u64 ((a.Lo + b.Lo + (0:Int)) / 18446744073709551616)))] (AWP.seq ?_)
 obtain⟨d,hF⟩:=chkb hF
 refine AWP.rg0 [(5,.ext (e:=add64Entry) (Znl d) Tryz.func28 (by kernel_rfl) (by kernel_rfl) (by kernel_rfl) (by kernel_rfl))] [(4,(.ptr 2 0)),(5,(u64 ((a.Lo + b.Lo + (0:Int)) % 18446744073709551616))),(7,(u64 ((a.Hi + b.Hi + ((a.Lo + b.Lo + (0:Int)) / 18446744073709551616)) % 18446744073709551616)))] (AWP.seq (AWP.rg [] [(4,(.ptr 2 0))] [.cells (Zc a),.cells (Zc b),.cells (Zc (Zf.mk ((a.Hi + b.Hi + ((a.Lo + b.Lo + (0:Int)) / 18446744073709551616)) % 18446744073709551616) ((a.Lo + b.Lo + (0:Int)) % 18446744073709551616)))] (AWP.ret ?_)))
 have hr:=someb hF
 subst hr
 exact(FnQ.f0 0 (.inr rfl))
def Zqd (r:Zf):PV→List Blk→Prop:=fun p K=>p=(Zq r)∧K=[]
theorem Ziq (a:ZL) (b:Int) (r:Zf) (hF:Zb0 a b=some r):ACall Tryz.prog glob 27 [(slc 10 Za a),(i64 b)] [] (Zqd r):=by
 refine ACall.body Tryz.func27 rfl (by kernel_rfl) ?_
 unfold Zb0 at hF
 refine AWP.seq (AWP.rg [] [(0,(slc 10 Za a)),(1,(i64 b)),(4,(.ptr 0 0))] [.cells (Zc Zk)] (AWP.seq (AWP.rg [] [(0,(slc 10 Za a)),(1,(i64 b)),(4,(.ptr 0 0)),(5,(.ptr 1 0))] [.cells (Zc Zk),.cells (Zc Zk)] (AWP.seq (AWP.seq (AWP.rg0 [(1,.len Za a)] [(1,(i64 b)),(4,(.ptr 0 0)),(5,(.ptr 1 0)),(8,(slc 10 Za a)),(9,(i64 (List.length a:Int))),(10,(i64 (0:Int)))] ?_))))))
 obtain⟨f,l,hF⟩:=bindb hF
 refine AWP.mid (fun e st H=>e=.normal∧st=[(4,(.ptr 0 0)),(5,(.ptr 1 0))]∧H=[.cells (Zc Zk),.cells (Zc f)]) ?_ ?_
 ·clear hF
  refine AWP.kp [1,4,5,8,9,10] 2 ?_
  refine AWP.bround (fun n st H=>∃ d,∃ c,Zcn a b n d c=some f∧st=[(1,(i64 b)),(4,(.ptr 0 0)),(5,(.ptr 1 0)),(8,(slc 10 Za a)),(9,(i64 (List.length a:Int))),(10,(i64 c))]∧H=[.cells (Zc Zk),.cells (Zc d)]) fuel ⟨Zk,(0:Int),l,by kernel_rfl,by kernel_rfl⟩ ?_
  rintro g st H ⟨d,c,hF,rfl,rfl⟩
  cases g with
  | zero=>exact noneb hF
  | succ g=>
   rw [Zcn] at hF
   refine AWP.seq (AWP.rg0 [] [(1,(i64 b)),(4,(.ptr 0 0)),(5,(.ptr 1 0)),(8,(slc 10 Za a)),(9,(i64 (List.length a:Int))),(10,(i64 c)),(11,(vb (decide (c<(List.length a:Int)))))] (AWP.seq ?_))
   refine AWP.cif hF (fun m hF=>?_) (fun m hF=>?_)
   ·refine AWP.skip (AWP.seq (AWP.block (AWP.seq ?_)))
    obtain⟨i,o,hF⟩:=bindb hF
    refine AWP.rg [(0,.idx Za o)] [(1,(i64 b)),(4,(.ptr 0 0)),(5,(.ptr 1 0)),(7,(.ptr 2 0)),(8,(slc 10 Za a)),(9,(i64 (List.length a:Int))),(10,(i64 c))] [.cells (Zc Zk),.cells (Zc d),.cells (Za i)] ?_
    obtain⟨k,p,hF⟩:=bindb hF
    obtain⟨j,q,hF⟩:=bindb hF
    refine AWP.dr [(3,.call Tryz.func56 [] (Zkg i b k p)),(4,.call Tryz.func11 [] (Zjz d k j q))] 5 [] [] [] [(1,(i64 b)),(4,(.ptr 0 0)),(5,(.ptr 1 0)),(8,(slc 10 Za a)),(9,(i64 (List.length a:Int))),(10,(i64 c))] [.cells (Zc Zk),.cells (Zc j),.cells (Za i)] (AWP.rg0 [] [(1,(i64 b)),(4,(.ptr 0 0)),(5,(.ptr 1 0)),(8,(slc 10 Za a)),(9,(i64 (List.length a:Int))),(10,(i64 (ZI (c + (1:Int)))))] (LeQ.start (LeQ.pk [1,4,5,8,9,10] 2 ?_)))
    exact⟨g,Nat.lt_succ_self _,j,(ZI (c + (1:Int))),hF,by kernel_rfl,by kernel_rfl⟩
   ·refine AWP.exit (LeQ.start (LeQ.pk [4,5] 2 ?_))
    have hr:=someb hF
    subst hr
    exact⟨rfl,by kernel_rfl,by kernel_rfl⟩
 ·rintro _ _ _ ⟨rfl,rfl,rfl⟩
  refine AWP.seq (AWP.rg [] [(4,(.ptr 0 0))] [.cells (Zc f),.cells (Zc f)] (AWP.ret ?_))
  have hr:=someb hF
  subst hr
  exact(FnQ.f0 0 (.inr rfl))
def Zuh (r:(Zf × Int)):PV→List Blk→Prop:=fun p K=>p=(.tup [(Zq r.1),(i64 r.2)])∧K=[]
theorem Zui (b:ZL) (r:(Zf × Int)) (hF:Zhb b=some r):ACall Tryz.prog glob 10 [(slc 10 Za b)] [] (Zuh r):=by
 refine ACall.body Tryz.func10 rfl (by kernel_rfl) ?_
 unfold Zhb at hF
 refine AWP.seq (AWP.rg [] [(0,(slc 10 Za b)),(2,(.ptr 0 0))] [.cells (Zc Zk)] (AWP.seq ?_))
 obtain⟨a,d,hF⟩:=bindb hF
 refine AWP.rg0 [(1,.call Tryz.func26 [] (Zjy b a d))] [(2,(.ptr 0 0)),(4,(slc 10 Za a.1)),(5,(i64 a.2))] (AWP.seq (AWP.seq (AWP.rg0 [] [(2,(.ptr 0 0)),(4,(slc 10 Za a.1)),(5,(i64 a.2)),(12,(vb (a.2 != (0:Int))))] ?_)))
 refine AWP.cif hF (fun f hF=>?_) (fun f hF=>?_)
 ·refine AWP.seq (AWP.rg [] [(2,(.ptr 0 0)),(3,(i64 a.2))] [.cells (Zc (Zf.mk (0:Int) (0:Int)))] (AWP.ret ?_))
  have hr:=someb hF
  subst hr
  exact(FnQ.f0 0 (.inr rfl))
 ·refine AWP.skip (AWP.seq ?_)
  obtain⟨c,g,hF⟩:=bindb hF
  refine AWP.rg [(1,.call Tryz.func27 [] (Ziq a.1 (0:Int) c g))] [(2,(.ptr 0 0)),(3,(i64 (0:Int)))] [.cells (Zc c)] (AWP.ret ?_)
  have hr:=someb hF
  subst hr
  exact(FnQ.f0 0 (.inr rfl))
def Zvc (r:(Zf × Int)):PV→List Blk→Prop:=fun p K=>p=(.tup [(Zq r.1),(i64 r.2)])∧K=[]
theorem Znw (d:ZL) (r:(Zf × Int)) (hF:Zf2 d=some r):ACall Tryz.prog glob 36 [(slc 10 Za d)] [] (Zvc r):=by
 refine ACall.body Tryz.func36 rfl (by kernel_rfl) ?_
 unfold Zf2 at hF
 refine AWP.seq (AWP.rg [] [(0,(slc 10 Za d)),(2,(.ptr 0 0))] [.cells (Zc Zk)] (AWP.seq ?_))
 obtain⟨a,m,hF⟩:=bindb hF
 refine AWP.rg0 [(1,.call Tryz.func33 [] (Zi9 d a m))] [(2,(.ptr 0 0)),(4,(slc 10 Za a.1)),(5,(i64 a.2))] (AWP.seq (AWP.rg [] [(2,(.ptr 0 0)),(4,(slc 10 Za a.1)),(5,(i64 a.2)),(6,(.ptr 1 0))] [.cells (Zc Zk),.cells (Zc Zk)] (AWP.seq (AWP.seq (AWP.rg0 [] [(2,(.ptr 0 0)),(4,(slc 10 Za a.1)),(5,(i64 a.2)),(6,(.ptr 1 0)),(7,(i64 (0:Int)))] ?_)))))
 obtain⟨f,o,hF⟩:=bindb hF
 refine AWP.mid (fun e st H=>e=.normal∧st=[(2,(.ptr 0 0)),(5,(i64 a.2)),(6,(.ptr 1 0))]∧H=[.cells (Zc Zk),.cells (Zc f)]) ?_ ?_
 ·clear hF
  refine AWP.kp [2,4,5,6,7] 2 ?_
  refine AWP.bround (fun n st H=>∃ c,∃ b,Zcu a n c b=some f∧st=[(2,(.ptr 0 0)),(4,(slc 10 Za a.1)),(5,(i64 a.2)),(6,(.ptr 1 0)),(7,(i64 b))]∧H=[.cells (Zc Zk),.cells (Zc c)]) fuel ⟨Zk,(0:Int),o,by kernel_rfl,by kernel_rfl⟩ ?_
  rintro i st H ⟨c,b,hF,rfl,rfl⟩
  cases i with
  | zero=>exact noneb hF
  | succ i=>
   rw [Zcu] at hF
   refine AWP.seq (AWP.seq ?_)
   obtain⟨k,g,hF⟩:=bindb hF
   replace g:=someb g
   refine AWP.to [(2,(.ptr 0 0)),(4,(slc 10 Za a.1)),(5,(i64 a.2)),(6,(.ptr 1 0)),(7,(i64 b)),(20,(vb (k && (decide (b<(List.length a.1:Int))))))] [.cells (Zc Zk),.cells (Zc c)] ?_ ?_
   ·cases k with
    | false=>
     exact AWP.rgT [(2,.bool g)]
    | true=>
     exact AWP.rgT [(2,.bool g),(5,.len Za a.1)]
   refine AWP.cif hF (fun p hF=>?_) (fun p hF=>?_)
   ·refine AWP.skip (AWP.seq (AWP.block ?_))
    obtain⟨q,s,hF⟩:=bindb hF
    obtain⟨l,t,hF⟩:=bindb hF
    obtain⟨j,u,hF⟩:=bindb hF
    refine AWP.dr [(3,.idx Za s),(5,.call Tryz.func63 [] (Zmc q (0:Int) l t)),(6,.call Tryz.func34 [] (Zik c l j u))] 7 [] [] [] [(2,(.ptr 0 0)),(4,(slc 10 Za a.1)),(5,(i64 a.2)),(6,(.ptr 1 0)),(7,(i64 b))] [.cells (Zc Zk),.cells (Zc j)] (AWP.rg0 [] [(2,(.ptr 0 0)),(4,(slc 10 Za a.1)),(5,(i64 a.2)),(6,(.ptr 1 0)),(7,(i64 (ZI (b + (1:Int)))))] (LeQ.start (LeQ.pk [2,4,5,6,7] 2 ?_)))
    exact⟨i,Nat.lt_succ_self _,j,(ZI (b + (1:Int))),hF,by kernel_rfl,by kernel_rfl⟩
   ·refine AWP.exit (LeQ.start (LeQ.pk [2,5,6] 2 ?_))
    have hr:=someb hF
    subst hr
    exact⟨rfl,by kernel_rfl,by kernel_rfl⟩
 ·rintro _ _ _ ⟨rfl,rfl,rfl⟩
  refine AWP.seq (AWP.rg [] [(2,(.ptr 0 0)),(3,(i64 a.2))] [.cells (Zc f),.cells (Zc f)] (AWP.ret ?_))
  have hr:=someb hF
  subst hr
  exact(FnQ.f0 0 (.inr rfl))
def Zvd (r:(Arr5 Int)):PV→List Blk→Prop:=fun p K=>p=(Zk8 r)∧K=[]
theorem Znx (a:Zj) (r:(Arr5 Int)) (hF:Zhp a=some r):ACall Tryz.prog glob 82 [(Zas a)] [] (Zvd r):=by
 refine ACall.body Tryz.func82 rfl (by kernel_rfl) ?_
 unfold Zhp at hF
 refine AWP.seq (AWP.rg [] [(1,(.ptr 0 0)),(2,(.ptr 1 0))] [.cells (Ze a),.cells (Z5 Zil)] (AWP.seq (AWP.rg [] [(2,(.ptr 1 0))] [.cells (Ze a),.cells (Z5 (Arr5.mk a.Src a.Dst (IntKind.wrap .u32 a.Proto) (IntKind.wrap .u32 a.SrcPort) (IntKind.wrap .u32 a.DstPort)))] (AWP.ret ?_))))
 have hr:=someb hF
 subst hr
 exact(FnQ.f0 0 (.inr rfl))
def Zwh (r:Int):PV→List Blk→Prop:=fun p K=>p=(u32 r)∧K=[]
theorem Zwi (b:Zj) (a:Int) (r:Int) (hF:Zii b a=some r):ACall Tryz.prog glob 89 [(Zas b),(i64 a)] [] (Zwh r):=by
 refine ACall.body Tryz.func89 rfl (by kernel_rfl) ?_
 unfold Zii at hF
 refine AWP.seq (AWP.rg [] [(1,(i64 a)),(2,(.ptr 0 0))] [.cells (Ze b)] (AWP.seq (AWP.seq ?_)))
 obtain⟨b1,c,hF⟩:=bindb hF
 replace c:=someb c
 refine AWP.to [(1,(i64 a)),(2,(.ptr 0 0)),(10,(vb (b1 || (decide (a ≥ (5:Int))))))] [.cells (Ze b)] ?_ ?_
 ·cases b1 with
  | false=>
   exact AWP.rgT [(2,.bool c)]
  | true=>
   exact AWP.rgT [(2,.bool c)]
 refine AWP.cif hF (fun f hF=>?_) (fun f hF=>?_)
 ·refine AWP.seq (AWP.rg0 [] [(4,(u32 (0:Int)))] (AWP.ret ?_))
  have hr:=someb hF
  subst hr
  exact(FnQ.f0 0 (.inr rfl))
 ·refine AWP.skip (AWP.seq ?_)
  obtain⟨d,g,hF⟩:=bindb hF
  obtain⟨i,hF⟩:=chkb hF
  refine AWP.rg0 [(1,.call Tryz.func82 [] (Znx b d g)),(3,.ixA Zet (Arr5.get d) i)] [(4,(u32 (Arr5.get d a)))] (AWP.ret ?_)
  have hr:=someb hF
  subst hr
  exact(FnQ.f0 0 (.inr rfl))
def Zqe (r:Zf):PV→List Blk→Prop:=fun p K=>p=(Zq r)∧K=[]
theorem Zqf (a:ZB) (c:Zj) (r:Zf) (hF:Zf3 a c=some r):ACall Tryz.prog glob 65 [(Zs a),(Zas c)] [] (Zqe r):=by
 refine ACall.body Tryz.func65 rfl (by kernel_rfl) ?_
 unfold Zf3 at hF
 refine AWP.seq (AWP.rg [] [(2,(.ptr 0 0)),(3,(.ptr 1 0)),(4,(.ptr 2 0))] [.cells (Za a),.cells (Ze c),.cells (Zc Zk)] (AWP.seq (AWP.rg [] [(2,(.ptr 0 0)),(3,(.ptr 1 0)),(4,(.ptr 2 0)),(5,(.ptr 3 0))] [.cells (Za a),.cells (Ze c),.cells (Zc Zk),.cells (Zc Zk)] (AWP.seq (AWP.seq (AWP.rg0 [] [(2,(.ptr 0 0)),(3,(.ptr 1 0)),(4,(.ptr 2 0)),(5,(.ptr 3 0)),(12,(Zs a)),(13,(i64 (0:Int)))] ?_))))))
 obtain⟨g,v,hF⟩:=bindb hF
 refine AWP.mid (fun e st H=>e=.normal∧st=[(4,(.ptr 2 0)),(5,(.ptr 3 0))]∧H=[.cells (Za a),.cells (Ze c),.cells (Zc Zk),.cells (Zc g)]) ?_ ?_
 ·clear hF
  refine AWP.kp [2,3,4,5,12,13] 4 ?_
  refine AWP.bround (fun n st H=>∃ f,∃ b,Zco a c n f b=some g∧st=[(2,(.ptr 0 0)),(3,(.ptr 1 0)),(4,(.ptr 2 0)),(5,(.ptr 3 0)),(12,(Zs a)),(13,(i64 b))]∧H=[.cells (Za a),.cells (Ze c),.cells (Zc Zk),.cells (Zc f)]) fuel ⟨Zk,(0:Int),v,by kernel_rfl,by kernel_rfl⟩ ?_
  rintro m st H ⟨f,b,hF,rfl,rfl⟩
  cases m with
  | zero=>exact noneb hF
  | succ m=>
   rw [Zco] at hF
   refine AWP.seq (AWP.rg0 [] [(2,(.ptr 0 0)),(3,(.ptr 1 0)),(4,(.ptr 2 0)),(5,(.ptr 3 0)),(12,(Zs a)),(13,(i64 b)),(14,(vb (decide (b<(5:Int)))))] (AWP.seq ?_))
   refine AWP.cif hF (fun w hF=>?_) (fun w hF=>?_)
   ·refine AWP.skip ?_
    obtain⟨q,x,hF⟩:=bindb hF
    refine AWP.seq ?_
    refine AWP.mid (fun e st H=>(e=.normal∧∃ i,q=(.inl i)∧st=[(2,(.ptr 0 0)),(3,(.ptr 1 0)),(4,(.ptr 2 0)),(5,(.ptr 3 0)),(12,(Zs a)),(13,(i64 b))]∧H=[.cells (Za a),.cells (Ze c),.cells (Zc Zk),.cells (Zc i)])∨(e=.exit 0∧∃ o,q=(.inr o)∧st=[(4,(.ptr 2 0)),(5,(.ptr 3 0))]∧H=[.cells (Za a),.cells (Ze c),.cells (Zc Zk),.cells (Zc o)])) ?_ ?_
    ·clear hF
     have hF:=x
     refine AWP.block (AWP.seq ?_)
     obtain⟨y,hF⟩:=chkb hF
     refine AWP.rg [(1,.ixA Zh (Arr5.get a) y)] [(2,(.ptr 0 0)),(3,(.ptr 1 0)),(4,(.ptr 2 0)),(5,(.ptr 3 0)),(6,(i64 b)),(7,(.ptr 4 0)),(12,(Zs a)),(13,(i64 b))] [.cells (Za a),.cells (Ze c),.cells (Zc Zk),.cells (Zc f),.cells (Zh (Arr5.get a b))] (AWP.seq ?_)
     obtain⟨d,z,hF⟩:=bindb hF
     refine AWP.rg0 [(2,.call Tryz.func89 [] (Zwi c b d z))] [(2,(.ptr 0 0)),(3,(.ptr 1 0)),(4,(.ptr 2 0)),(5,(.ptr 3 0)),(6,(i64 b)),(7,(.ptr 4 0)),(8,(u32 d)),(12,(Zs a)),(13,(i64 b))] ?_
     obtain⟨j,a0,hF⟩:=bindb hF
     refine AWP.seq ?_
     refine AWP.mid (fun e st H=>e=.normal∧st=[(2,(.ptr 0 0)),(3,(.ptr 1 0)),(4,(.ptr 2 0)),(5,(.ptr 3 0)),(7,(.ptr 4 0)),(8,(u32 d)),(12,(Zs a)),(13,(i64 b))]∧H=[.cells (Za a),.cells (Ze c),.cells (Zc Zk),.cells (Zc j),.cells (Zh (Arr5.get a b))]) ?_ ?_
     ·clear hF
      have hF:=a0
      refine AWP.seq (AWP.rg0 [] [(2,(.ptr 0 0)),(3,(.ptr 1 0)),(4,(.ptr 2 0)),(5,(.ptr 3 0)),(6,(i64 b)),(7,(.ptr 4 0)),(8,(u32 d)),(12,(Zs a)),(13,(i64 b)),(23,(vb (decide (d > (Arr5.get a b).Lo))))] ?_)
      refine AWP.cif hF (fun a1 hF=>?_) (fun a1 hF=>?_)
      ·refine AWP.seq ?_
       obtain⟨p,a2,hF⟩:=bindb hF
       refine AWP.dr [(7,.call Tryz.func48 [] (Zgz (Arr5.get a b) p a2))] 9 [] [] [] [(2,(.ptr 0 0)),(3,(.ptr 1 0)),(4,(.ptr 2 0)),(5,(.ptr 3 0)),(6,(i64 b)),(7,(.ptr 4 0)),(8,(u32 d)),(9,(u64 (iMin (IntKind.wrap .u64 ((IntKind.wrap .u64 d) - (IntKind.wrap .u64 (Arr5.get a b).Lo))) p))),(12,(Zs a)),(13,(i64 b))] [.cells (Za a),.cells (Ze c),.cells (Zc Zk),.cells (Zc f),.cells (Zh (Arr5.get a b))] (AWP.seq ?_)
       obtain⟨s,a3,hF⟩:=bindb hF
       obtain⟨k,a4,hF⟩:=bindb hF
       refine AWP.rg [(3,.call Tryz.func56 [] (Zkg a (ZI (b + (1:Int))) s a3)),(5,.call Tryz.func47 [] (Zf6 s (iMin (IntKind.wrap .u64 ((IntKind.wrap .u64 d) - (IntKind.wrap .u64 (Arr5.get a b).Lo))) p) k a4))] [(2,(.ptr 0 0)),(3,(.ptr 1 0)),(4,(.ptr 2 0)),(5,(.ptr 3 0)),(7,(.ptr 4 0)),(8,(u32 d)),(10,(.ptr 5 0)),(12,(Zs a)),(13,(i64 b))] [.cells (Za a),.cells (Ze c),.cells (Zc Zk),.cells (Zc f),.cells (Zh (Arr5.get a b)),.cells (Zc k.1)] ?_
       obtain⟨t,a5,hF⟩:=bindb hF
       refine AWP.rg [(2,.call Tryz.func11 [] (Zjz f k.1 t a5))] [(2,(.ptr 0 0)),(3,(.ptr 1 0)),(4,(.ptr 2 0)),(5,(.ptr 3 0)),(7,(.ptr 4 0)),(8,(u32 d)),(12,(Zs a)),(13,(i64 b))] [.cells (Za a),.cells (Ze c),.cells (Zc Zk),.cells (Zc t),.cells (Zh (Arr5.get a b)),.cells (Zc k.1)] (LeQ.start (LeQ.pk [2,3,4,5,7,8,12,13] 5 ?_))
       have hr:=someb hF
       subst hr
       exact⟨rfl,by kernel_rfl,by kernel_rfl⟩
      ·refine AWP.skip (LeQ.start (LeQ.pk [2,3,4,5,7,8,12,13] 5 ?_))
       have hr:=someb hF
       subst hr
       exact⟨rfl,by kernel_rfl,by kernel_rfl⟩
     ·rintro _ _ _ ⟨rfl,rfl,rfl⟩
      refine AWP.seq ?_
      obtain⟨u,l,hF⟩:=bindb hF
      replace l:=someb l
      refine AWP.to [(2,(.ptr 0 0)),(3,(.ptr 1 0)),(4,(.ptr 2 0)),(5,(.ptr 3 0)),(12,(Zs a)),(13,(i64 b)),(54,(vb (u || (decide (d > (Arr5.get a b).Hi)))))] [.cells (Za a),.cells (Ze c),.cells (Zc Zk),.cells (Zc j),.cells (Zh (Arr5.get a b))] ?_ ?_
      ·cases u with
       | false=>
        exact AWP.rgT [(4,.bool l)]
       | true=>
        exact AWP.rgT [(4,.bool l)]
      refine AWP.cif hF (fun a6 hF=>?_) (fun a6 hF=>?_)
      ·refine AWP.exit (LeQ.start (LeQ.pk [4,5] 4 ?_))
       exact(.inr ⟨rfl,j,(someb hF).symm,by kernel_rfl,by kernel_rfl⟩)
      ·refine AWP.skip (LeQ.start (LeQ.pk [2,3,4,5,12,13] 4 ?_))
       exact(.inl ⟨rfl,j,(someb hF).symm,by kernel_rfl,by kernel_rfl⟩)
    ·rintro _ _ _ (⟨rfl,i,rfl,rfl,rfl⟩ | ⟨rfl,o,rfl,rfl,rfl⟩)
     ·refine AWP.rg0 [] [(2,(.ptr 0 0)),(3,(.ptr 1 0)),(4,(.ptr 2 0)),(5,(.ptr 3 0)),(12,(Zs a)),(13,(i64 (ZI (b + (1:Int)))))] (LeQ.start (LeQ.pk [2,3,4,5,12,13] 4 ?_))
      exact⟨m,Nat.lt_succ_self _,i,(ZI (b + (1:Int))),hF,by kernel_rfl,by kernel_rfl⟩
     ·refine LeQ.start (LeQ.pk [4,5] 4 ?_)
      have hr:=someb hF
      subst hr
      exact⟨rfl,by kernel_rfl,by kernel_rfl⟩
   ·refine AWP.exit (LeQ.start (LeQ.pk [4,5] 4 ?_))
    have hr:=someb hF
    subst hr
    exact⟨rfl,by kernel_rfl,by kernel_rfl⟩
 ·rintro _ _ _ ⟨rfl,rfl,rfl⟩
  refine AWP.seq (AWP.rg [] [(4,(.ptr 2 0))] [.cells (Za a),.cells (Ze c),.cells (Zc g),.cells (Zc g)] (AWP.ret ?_))
  have hr:=someb hF
  subst hr
  exact(FnQ.f0 0 (.inr rfl))
end Go.AM
set_option maxRecDepth 100000
namespace Go.AM
open Go Go.Proofs
def Zrz (r:(Zf × Int)):PV→List Blk→Prop:=fun p K=>p=(.tup [(Zq r.1),(i64 r.2)])∧K=[]
theorem Zr0 (f:ZL) (b:Zj) (r:(Zf × Int)) (hF:Zgk f b=some r):ACall Tryz.prog glob 37 [(slc 10 Za f),(Zas b)] [] (Zrz r):=by
 refine ACall.body Tryz.func37 rfl (by kernel_rfl) ?_
 unfold Zgk at hF
 refine AWP.seq (AWP.rg [] [(0,(slc 10 Za f)),(3,(.ptr 0 0)),(4,(.ptr 1 0))] [.cells (Ze b),.cells (Zc Zk)] (AWP.seq ?_))
 obtain⟨a,m,hF⟩:=bindb hF
 refine AWP.rg0 [(1,.call Tryz.func26 [] (Zjy f a m))] [(3,(.ptr 0 0)),(4,(.ptr 1 0)),(6,(slc 10 Za a.1)),(7,(i64 a.2))] (AWP.seq (AWP.seq (AWP.rg0 [] [(3,(.ptr 0 0)),(4,(.ptr 1 0)),(6,(slc 10 Za a.1)),(7,(i64 a.2)),(17,(vb (a.2 != (0:Int))))] ?_)))
 refine AWP.cif hF (fun o hF=>?_) (fun o hF=>?_)
 ·refine AWP.seq (AWP.rg [] [(4,(.ptr 1 0)),(5,(i64 a.2))] [.cells (Ze b),.cells (Zc (Zf.mk (0:Int) (0:Int)))] (AWP.ret ?_))
  have hr:=someb hF
  subst hr
  exact(FnQ.f0 0 (.inr rfl))
 ·refine AWP.skip (AWP.seq (AWP.rg [] [(3,(.ptr 0 0)),(4,(.ptr 1 0)),(6,(slc 10 Za a.1)),(8,(.ptr 2 0))] [.cells (Ze b),.cells (Zc Zk),.cells (Zc Zk)] (AWP.seq (AWP.seq (AWP.rg0 [(1,.len Za a.1)] [(3,(.ptr 0 0)),(4,(.ptr 1 0)),(8,(.ptr 2 0)),(20,(slc 10 Za a.1)),(21,(i64 (List.length a.1:Int))),(22,(i64 (0:Int)))] ?_)))))
  obtain⟨g,p,hF⟩:=bindb hF
  refine AWP.mid (fun e st H=>e=.normal∧st=[(4,(.ptr 1 0)),(8,(.ptr 2 0))]∧H=[.cells (Ze b),.cells (Zc Zk),.cells (Zc g)]) ?_ ?_
  ·clear hF
   refine AWP.kp [3,4,8,20,21,22] 3 ?_
   refine AWP.bround (fun n st H=>∃ d,∃ c,Zcz b a n d c=some g∧st=[(3,(.ptr 0 0)),(4,(.ptr 1 0)),(8,(.ptr 2 0)),(20,(slc 10 Za a.1)),(21,(i64 (List.length a.1:Int))),(22,(i64 c))]∧H=[.cells (Ze b),.cells (Zc Zk),.cells (Zc d)]) fuel ⟨Zk,(0:Int),p,by kernel_rfl,by kernel_rfl⟩ ?_
   rintro i st H ⟨d,c,hF,rfl,rfl⟩
   cases i with
   | zero=>exact noneb hF
   | succ i=>
    rw [Zcz] at hF
    refine AWP.seq (AWP.rg0 [] [(3,(.ptr 0 0)),(4,(.ptr 1 0)),(8,(.ptr 2 0)),(20,(slc 10 Za a.1)),(21,(i64 (List.length a.1:Int))),(22,(i64 c)),(23,(vb (decide (c<(List.length a.1:Int)))))] (AWP.seq ?_))
    refine AWP.cif hF (fun q hF=>?_) (fun q hF=>?_)
    ·refine AWP.skip (AWP.seq (AWP.block (AWP.seq ?_)))
     obtain⟨j,s,hF⟩:=bindb hF
     refine AWP.rg [(0,.idx Za s)] [(3,(.ptr 0 0)),(4,(.ptr 1 0)),(8,(.ptr 2 0)),(10,(.ptr 3 0)),(20,(slc 10 Za a.1)),(21,(i64 (List.length a.1:Int))),(22,(i64 c))] [.cells (Ze b),.cells (Zc Zk),.cells (Zc d),.cells (Za j)] ?_
     obtain⟨l,t,hF⟩:=bindb hF
     obtain⟨k,u,hF⟩:=bindb hF
     refine AWP.dr [(3,.call Tryz.func65 [] (Zqf j b l t)),(4,.call Tryz.func11 [] (Zjz d l k u))] 5 [] [] [] [(3,(.ptr 0 0)),(4,(.ptr 1 0)),(8,(.ptr 2 0)),(20,(slc 10 Za a.1)),(21,(i64 (List.length a.1:Int))),(22,(i64 c))] [.cells (Ze b),.cells (Zc Zk),.cells (Zc k),.cells (Za j)] (AWP.rg0 [] [(3,(.ptr 0 0)),(4,(.ptr 1 0)),(8,(.ptr 2 0)),(20,(slc 10 Za a.1)),(21,(i64 (List.length a.1:Int))),(22,(i64 (ZI (c + (1:Int)))))] (LeQ.start (LeQ.pk [3,4,8,20,21,22] 3 ?_)))
     exact⟨i,Nat.lt_succ_self _,k,(ZI (c + (1:Int))),hF,by kernel_rfl,by kernel_rfl⟩
    ·refine AWP.exit (LeQ.start (LeQ.pk [4,8] 3 ?_))
     have hr:=someb hF
     subst hr
     exact⟨rfl,by kernel_rfl,by kernel_rfl⟩
  ·rintro _ _ _ ⟨rfl,rfl,rfl⟩
   refine AWP.seq (AWP.rg [] [(4,(.ptr 1 0)),(5,(i64 (0:Int)))] [.cells (Ze b),.cells (Zc g),.cells (Zc g)] (AWP.ret ?_))
   have hr:=someb hF
   subst hr
   exact(FnQ.f0 0 (.inr rfl))
def Zmr (r:Int):PV→List Blk→Prop:=fun p K=>p=(i64 r)∧K=[]
theorem Zjg (a:Int) (b:Int) (r:Int) (hF:Zdq a b=some r):ACall Tryz.prog glob 79 [(u64 a),(u64 b)] [] (Zmr r):=by
 refine ACall.body Tryz.func79 rfl (by kernel_rfl) ?_
 unfold Zdq at hF
 refine AWP.seq (AWP.rg0 [] [(0,(u64 a)),(1,(u64 b))] (AWP.seq ?_))
 obtain⟨d,f,hF⟩:=bindb hF
 refine AWP.rg0 [(1,.call Tryz.func95 [] (Zdk a d f))] [(0,(u64 a)),(1,(u64 b)),(5,(vb d))] (AWP.seq ?_)
 obtain⟨c,g,hF⟩:=bindb hF
 refine AWP.rg0 [(1,.call Tryz.func95 [] (Zdk b c g))] [(0,(u64 a)),(1,(u64 b)),(5,(vb d)),(6,(vb c))] (AWP.seq (AWP.seq (AWP.rg0 [] [(0,(u64 a)),(1,(u64 b)),(6,(vb c)),(11,(vb d))] ?_)))
 refine AWP.cif hF (fun i hF=>?_) (fun i hF=>?_)
 ·refine AWP.seq (AWP.seq (AWP.rg0 [] [(12,(vb c))] ?_))
  refine AWP.cif hF (fun j hF=>?_) (fun j hF=>?_)
  ·refine AWP.seq (AWP.rg0 [] [(4,(i64 (0:Int)))] (AWP.ret ?_))
   have hr:=someb hF
   subst hr
   exact(FnQ.f0 0 (.inr rfl))
  ·refine AWP.skip (AWP.seq (AWP.rg0 [] [(4,(i64 (-1:Int)))] (AWP.ret ?_)))
   have hr:=someb hF
   subst hr
   exact(FnQ.f0 0 (.inr rfl))
 ·refine AWP.skip (AWP.seq (AWP.seq (AWP.rg0 [] [(0,(u64 a)),(1,(u64 b)),(13,(vb c))] ?_)))
  refine AWP.cif hF (fun k hF=>?_) (fun k hF=>?_)
  ·refine AWP.seq (AWP.rg0 [] [(4,(i64 (1:Int)))] (AWP.ret ?_))
   have hr:=someb hF
   subst hr
   exact(FnQ.f0 0 (.inr rfl))
  ·refine AWP.skip (AWP.seq (AWP.seq (AWP.rg0 [] [(0,(u64 a)),(1,(u64 b)),(16,(vb (decide (a<b))))] ?_)))
   refine AWP.cif hF (fun l hF=>?_) (fun l hF=>?_)
   ·refine AWP.seq (AWP.rg0 [] [(4,(i64 (-1:Int)))] (AWP.ret ?_))
    have hr:=someb hF
    subst hr
    exact(FnQ.f0 0 (.inr rfl))
   ·refine AWP.skip (AWP.seq (AWP.seq (AWP.rg0 [] [(19,(vb (decide (a > b))))] ?_)))
    refine AWP.cif hF (fun m hF=>?_) (fun m hF=>?_)
    ·refine AWP.seq (AWP.rg0 [] [(4,(i64 (1:Int)))] (AWP.ret ?_))
     have hr:=someb hF
     subst hr
     exact(FnQ.f0 0 (.inr rfl))
    ·refine AWP.skip (AWP.seq (AWP.rg0 [] [(4,(i64 (0:Int)))] (AWP.ret ?_)))
     have hr:=someb hF
     subst hr
     exact(FnQ.f0 0 (.inr rfl))
def Zny (r:Int):PV→List Blk→Prop:=fun p K=>p=(i64 r)∧K=[]
abbrev Zve (r:Int):Exit→St→List Blk→Prop:=FnQ Tryz.prog Tryz.f78.results 0 (Zny r)
theorem Zvf (a:(List Int)) (r:Int) (hF:Zhq a=some r):ACall Tryz.prog glob 78 [(slc 1 Zz a)] [] (Zny r):=by
 refine ACall.body Tryz.func78 rfl (by kernel_rfl) ?_
 unfold Zhq at hF
 refine AWP.seq (AWP.rg0 [] [(0,(slc 1 Zz a))] (AWP.seq (AWP.rg0 [] [(0,(slc 1 Zz a)),(3,(i64 (0:Int)))] (AWP.seq (AWP.seq (AWP.rg0 [(1,.len Zz a)] [(3,(i64 (0:Int))),(6,(slc 1 Zz a)),(7,(i64 (List.length a:Int))),(8,(i64 (0:Int)))] ?_))))))
 obtain⟨d,g,hF⟩:=bindb hF
 refine AWP.mid (fun e st H=>(e=.normal∧d=(.inl ())∧st=[(3,(i64 (0:Int)))]∧H=[])∨(e=.ret∧∃ r,d=(.inr r)∧Zve r e st H)) ?_ ?_
 ·clear hF
  refine AWP.kp [3,6,7,8] 0 ?_
  refine AWP.bround (fun n st H=>∃ b,Zeq a n b=some d∧st=[(3,(i64 (0:Int))),(6,(slc 1 Zz a)),(7,(i64 (List.length a:Int))),(8,(i64 b))]∧H=[]) fuel ⟨(0:Int),g,by kernel_rfl,by kernel_rfl⟩ ?_
  rintro f st H ⟨b,hF,rfl,rfl⟩
  cases f with
  | zero=>exact noneb hF
  | succ f=>
   rw [Zeq] at hF
   refine AWP.seq (AWP.rg0 [] [(3,(i64 (0:Int))),(6,(slc 1 Zz a)),(7,(i64 (List.length a:Int))),(8,(i64 b)),(9,(vb (decide (b<(List.length a:Int)))))] (AWP.seq ?_))
   refine AWP.cif hF (fun i hF=>?_) (fun i hF=>?_)
   ·refine AWP.skip (AWP.seq (AWP.block (AWP.seq ?_)))
    obtain⟨c,j,hF⟩:=bindb hF
    refine AWP.rg0 [(0,.idx Zz j)] [(3,(i64 (0:Int))),(5,(i64 c)),(6,(slc 1 Zz a)),(7,(i64 (List.length a:Int))),(8,(i64 b))] (AWP.seq (AWP.rg0 [] [(3,(i64 (0:Int))),(5,(i64 c)),(6,(slc 1 Zz a)),(7,(i64 (List.length a:Int))),(8,(i64 b)),(14,(vb (c != (0:Int))))] ?_))
    refine AWP.cif hF (fun k hF=>?_) (fun k hF=>?_)
    ·refine AWP.seq (AWP.rg0 [] [(2,(i64 c))] (AWP.ret ?_))
     exact LeQ.of (.inr ⟨rfl,c,(someb hF).symm,(FnQ.f0 0 (.inr rfl))⟩)
    ·refine AWP.skip (AWP.rg0 [] [(3,(i64 (0:Int))),(6,(slc 1 Zz a)),(7,(i64 (List.length a:Int))),(8,(i64 (ZI (b + (1:Int)))))] (LeQ.start (LeQ.pk [3,6,7,8] 0 ?_)))
     exact⟨f,Nat.lt_succ_self _,(ZI (b + (1:Int))),hF,by kernel_rfl,by kernel_rfl⟩
   ·refine AWP.exit (LeQ.start (LeQ.pk [3] 0 ?_))
    exact(.inl ⟨rfl,(someb hF).symm,by kernel_rfl,by kernel_rfl⟩)
 ·rintro _ _ _ (⟨rfl,rfl,rfl,rfl⟩ | ⟨rfl,l,rfl,hq⟩)
  ·refine AWP.seq (AWP.rg0 [] [(2,(i64 (0:Int)))] (AWP.ret ?_))
   have hr:=someb hF
   subst hr
   exact(FnQ.f0 0 (.inr rfl))
  ·have hr:=someb hF
   subst hr
   exact hq
def Znz (r:Int):PV→List Blk→Prop:=fun p K=>p=(i64 r)∧K=[]
theorem Zhy (a:Zf) (b:Zf) (r:Int) (hF:Zdi a b=some r):ACall Tryz.prog glob 46 [(Zq a),(Zq b)] [] (Znz r):=by
 refine ACall.body Tryz.func46 rfl (by kernel_rfl) ?_
 unfold Zdi at hF
 refine AWP.seq (AWP.rg [] [(2,(.ptr 0 0)),(3,(.ptr 1 0))] [.cells (Zc a),.cells (Zc b)] (AWP.seq ?_))
 obtain⟨c,g,hF⟩:=bindb hF
 obtain⟨d,i,hF⟩:=bindb hF
 obtain⟨f,j,hF⟩:=bindb hF
 refine AWP.dr [(4,.call Tryz.func79 [] (Zjg a.Hi b.Hi c g)),(9,.call Tryz.func79 [] (Zjg a.Lo b.Lo d i)),(11,.call Tryz.func78 [] (Zvf [c,d] f j))] 12 [] [] [] [(4,(i64 f))] [.cells (Zc a),.cells (Zc b)] (AWP.ret ?_)
 have hr:=someb hF
 subst hr
 exact(FnQ.f0 0 (.inr rfl))
def Znb (r:Zf):PV→List Blk→Prop:=fun p K=>p=(Zq r)∧K=[]
theorem Zjs (a:Zf) (b:Zf) (r:Zf) (hF:Zd1 a b=some r):ACall Tryz.prog glob 49 [(Zq a),(Zq b)] [] (Znb r):=by
 refine ACall.body Tryz.func49 rfl (by kernel_rfl) ?_
 unfold Zd1 at hF
 refine AWP.seq (AWP.rg [] [(2,(.ptr 0 0)),(3,(.ptr 1 0)),(4,(.ptr 2 0))] [.cells (Zc a),.cells (Zc b),.cells (Zc Zk)] (AWP.seq ?_))
 obtain⟨c,hF⟩:=chkb hF
 refine AWP.rg0 [(4,.ext (e:=sub64Entry) (Ztr c) Tryz.func81 (by kernel_rfl) (by kernel_rfl) (by kernel_rfl) (by kernel_rfl))] [(2,(.ptr 0 0)),(3,(.ptr 1 0)),(4,(.ptr 2 0)),(5,(u64 ((a.Lo + 18446744073709551616 - b.Lo - (0:Int)) % 18446744073709551616))),(6,(u64 (if a.Lo<b.Lo + (0:Int) then (1:Int) else (0:Int))))] (AWP.seq ?_)
 obtain⟨d,hF⟩:=chkb hF
 refine AWP.rg0 [(5,.ext (e:=sub64Entry) (Ztr d) Tryz.func81 (by kernel_rfl) (by kernel_rfl) (by kernel_rfl) (by kernel_rfl))] [(4,(.ptr 2 0)),(5,(u64 ((a.Lo + 18446744073709551616 - b.Lo - (0:Int)) % 18446744073709551616))),(7,(u64 ((a.Hi + 18446744073709551616 - b.Hi - (if a.Lo<b.Lo + (0:Int) then (1:Int) else (0:Int))) % 18446744073709551616)))] (AWP.seq (AWP.rg [] [(4,(.ptr 2 0))] [.cells (Zc a),.cells (Zc b),.cells (Zc (Zf.mk ((a.Hi + 18446744073709551616 - b.Hi - (if a.Lo<b.Lo + (0:Int) then (1:Int) else (0:Int))) % 18446744073709551616) ((a.Lo + 18446744073709551616 - b.Lo - (0:Int)) % 18446744073709551616)))] (AWP.ret ?_)))
 have hr:=someb hF
 subst hr
 exact(FnQ.f0 0 (.inr rfl))
def Zqg (r:Int):PV→List Blk→Prop:=fun p K=>p=(u64 r)∧K=[]
theorem Zqh (c:Zf) (d:Zf) (f:Int) (r:Int) (hF:Zf4 c d f=some r):ACall Tryz.prog glob 50 [(Zq c),(Zq d),(u64 f)] [] (Zqg r):=by
 refine ACall.body Tryz.func50 rfl (by kernel_rfl) ?_
 unfold Zf4 at hF
 refine AWP.seq (AWP.rg [] [(2,(u64 f)),(3,(.ptr 0 0)),(4,(.ptr 1 0))] [.cells (Zc c),.cells (Zc d)] (AWP.seq (AWP.rg0 [] [(3,(.ptr 0 0)),(4,(.ptr 1 0)),(7,(u64 (0:Int))),(8,(u64 f))] (AWP.seq ?_))))
 obtain⟨i,l,hF⟩:=bindb hF
 refine AWP.mid (fun e st H=>e=.normal∧st=[(7,(u64 i))]∧H=[.cells (Zc c),.cells (Zc d)]) ?_ ?_
 ·clear hF
  refine AWP.kp [3,4,7,8] 2 ?_
  refine AWP.bround (fun n st H=>∃ a,∃ b,Zb1 c d n a b=some i∧st=[(3,(.ptr 0 0)),(4,(.ptr 1 0)),(7,(u64 a)),(8,(u64 b))]∧H=[.cells (Zc c),.cells (Zc d)]) fuel ⟨(0:Int),f,l,by kernel_rfl,by kernel_rfl⟩ ?_
  rintro g st H ⟨a,b,hF,rfl,rfl⟩
  cases g with
  | zero=>exact noneb hF
  | succ g=>
   rw [Zb1] at hF
   refine AWP.seq (AWP.seq (AWP.rg0 [] [(3,(.ptr 0 0)),(4,(.ptr 1 0)),(7,(u64 a)),(8,(u64 b)),(15,(vb (decide (a<b))))] ?_))
   refine AWP.cif hF (fun m hF=>?_) (fun m hF=>?_)
   ·refine AWP.skip (AWP.block (AWP.seq (AWP.rg0 [] [(3,(.ptr 0 0)),(4,(.ptr 1 0)),(7,(u64 a)),(8,(u64 b)),(9,(u64 (IntKind.wrap .u64 (Int.tdiv (IntKind.wrap .u64 ((IntKind.wrap .u64 (a + b)) + (1:Int))) (2:Int)))))] (AWP.seq ?_))))
    obtain⟨j,o,hF⟩:=bindb hF
    refine AWP.rg [(2,.call Tryz.func47 [] (Zf6 d (IntKind.wrap .u64 (Int.tdiv (IntKind.wrap .u64 ((IntKind.wrap .u64 (a + b)) + (1:Int))) (2:Int))) j o))] [(3,(.ptr 0 0)),(4,(.ptr 1 0)),(7,(u64 a)),(8,(u64 b)),(9,(u64 (IntKind.wrap .u64 (Int.tdiv (IntKind.wrap .u64 ((IntKind.wrap .u64 (a + b)) + (1:Int))) (2:Int))))),(10,(.ptr 2 0))] [.cells (Zc c),.cells (Zc d),.cells (Zc j.1)] (AWP.seq ?_)
    obtain⟨k,p,hF⟩:=bindb hF
    refine AWP.rg0 [(2,.call Tryz.func46 [] (Zhy j.1 c k p))] [(3,(.ptr 0 0)),(4,(.ptr 1 0)),(7,(u64 a)),(8,(u64 b)),(9,(u64 (IntKind.wrap .u64 (Int.tdiv (IntKind.wrap .u64 ((IntKind.wrap .u64 (a + b)) + (1:Int))) (2:Int))))),(30,(vb (decide (k≤(0:Int)))))] ?_
    refine AWP.cif hF (fun q hF=>?_) (fun q hF=>?_)
    ·refine AWP.rg0 [] [(3,(.ptr 0 0)),(4,(.ptr 1 0)),(7,(u64 (IntKind.wrap .u64 (Int.tdiv (IntKind.wrap .u64 ((IntKind.wrap .u64 (a + b)) + (1:Int))) (2:Int))))),(8,(u64 b))] (LeQ.start (LeQ.pk [3,4,7,8] 2 ?_))
     exact⟨g,Nat.lt_succ_self _,(IntKind.wrap .u64 (Int.tdiv (IntKind.wrap .u64 ((IntKind.wrap .u64 (a + b)) + (1:Int))) (2:Int))),b,hF,by kernel_rfl,by kernel_rfl⟩
    ·refine AWP.rg0 [] [(3,(.ptr 0 0)),(4,(.ptr 1 0)),(7,(u64 a)),(8,(u64 (IntKind.wrap .u64 ((IntKind.wrap .u64 (Int.tdiv (IntKind.wrap .u64 ((IntKind.wrap .u64 (a + b)) + (1:Int))) (2:Int))) - (1:Int)))))] (LeQ.start (LeQ.pk [3,4,7,8] 2 ?_))
     exact⟨g,Nat.lt_succ_self _,a,(IntKind.wrap .u64 ((IntKind.wrap .u64 (Int.tdiv (IntKind.wrap .u64 ((IntKind.wrap .u64 (a + b)) + (1:Int))) (2:Int))) - (1:Int))),hF,by kernel_rfl,by kernel_rfl⟩
   ·refine AWP.exit (LeQ.start (LeQ.pk [7] 2 ?_))
    have hr:=someb hF
    subst hr
    exact⟨rfl,by kernel_rfl,by kernel_rfl⟩
 ·rintro _ _ _ ⟨rfl,rfl,rfl⟩
  refine AWP.seq (AWP.rg0 [] [(6,(u64 i))] (AWP.ret ?_))
  have hr:=someb hF
  subst hr
  exact(FnQ.f0 0 (.inr rfl))
def Zvg (r:Zj):PV→List Blk→Prop:=fun p K=>p=(Zas r)∧K=[]
theorem Zvh (a:(Arr5 Int)) (r:Zj) (hF:Zhr a=some r):ACall Tryz.prog glob 83 [(Zk8 a)] [] (Zvg r):=by
 refine ACall.body Tryz.func83 rfl (by kernel_rfl) ?_
 unfold Zhr at hF
 refine AWP.seq (AWP.rg [] [(1,(.ptr 0 0)),(2,(.ptr 1 0))] [.cells (Z5 a),.cells (Ze Zo)] (AWP.seq (AWP.rg [] [(2,(.ptr 1 0))] [.cells (Z5 a),.cells (Ze (Zj.mk a.x0 a.x1 (IntKind.wrap .u8 a.x2) (IntKind.wrap .u16 a.x3) (IntKind.wrap .u16 a.x4)))] (AWP.ret ?_))))
 have hr:=someb hF
 subst hr
 exact(FnQ.f0 0 (.inr rfl))
def Zxz (r:Zj):PV→List Blk→Prop:=fun p K=>p=(Zas r)∧K=[]
theorem Zx0 (a:Zj) (c:Int) (b:Int) (r:Zj) (hF:Zh7 a c b=some r):ACall Tryz.prog glob 51 [(Zas a),(i64 c),(u32 b)] [] (Zxz r):=by
 refine ACall.body Tryz.func51 rfl (by kernel_rfl) ?_
 unfold Zh7 at hF
 refine AWP.seq (AWP.rg [] [(1,(i64 c)),(2,(u32 b)),(3,(.ptr 0 0)),(6,(.ptr 1 0))] [.cells (Ze a),.cells (Ze Zo)] (AWP.seq (AWP.seq ?_)))
 obtain⟨b1,f,hF⟩:=bindb hF
 replace f:=someb f
 obtain⟨n,g,hF⟩:=bindb hF
 replace g:=someb g
 obtain⟨o,j,hF⟩:=bindb hF
 refine AWP.to [(1,(i64 c)),(2,(u32 b)),(3,(.ptr 0 0)),(6,(.ptr 1 0)),(20,(vb o))] [.cells (Ze a),.cells (Ze Zo)] ?_ ?_
 ·cases b1 with
  | false=>
   cases n with
   | false=>
    have i:=ifF j rfl
    obtain⟨k,i⟩:=chkb i
    replace i:=someb i
    subst i
    exact AWP.rgT [(2,.bool f),(6,.bool g),(9,.ixd k),(10,.ldA Zet (Arr5.get Zd6) 0 1 0 k)]
   | true=>
    have p:=someb (ifT j rfl)
    subst p
    exact AWP.rgT [(2,.bool f),(6,.bool g)]
  | true=>
   subst g
   have q:=someb (ifT j rfl)
   subst q
   exact AWP.rgT [(2,.bool f)]
 refine AWP.cif hF (fun s hF=>?_) (fun s hF=>?_)
 ·refine AWP.seq (AWP.rg [] [(6,(.ptr 1 0))] [.cells (Ze a),.cells (Ze a)] (AWP.ret ?_))
  have hr:=someb hF
  subst hr
  exact(FnQ.f0 0 (.inr rfl))
 ·refine AWP.skip (AWP.seq ?_)
  obtain⟨d,t,hF⟩:=bindb hF
  refine AWP.rg [(1,.call Tryz.func82 [] (Znx a d t))] [(1,(i64 c)),(2,(u32 b)),(6,(.ptr 1 0)),(7,(.ptr 2 0))] [.cells (Ze a),.cells (Ze Zo),.cells (Z5 d)] (AWP.seq ?_)
  obtain⟨l,hF⟩:=chkb hF
  refine AWP.rg [(2,.ixd l),(3,.stA (fun u=>Z5 (Arr5.set d u b)) 0 1 0 l)] [(6,(.ptr 1 0)),(7,(.ptr 2 0))] [.cells (Ze a),.cells (Ze Zo),.cells (Z5 (Arr5.set d c b))] (AWP.seq ?_)
  obtain⟨m,v,hF⟩:=bindb hF
  refine AWP.rg [(1,.call Tryz.func83 [] (Zvh (Arr5.set d c b) m v))] [(6,(.ptr 1 0))] [.cells (Ze a),.cells (Ze m),.cells (Z5 (Arr5.set d c b))] (AWP.ret ?_)
  have hr:=someb hF
  subst hr
  exact(FnQ.f0 0 (.inr rfl))
def Zo7 (r:(Zj × Bool)):PV→List Blk→Prop:=fun p K=>p=(.tup [(Zas r.1),(vb r.2)])∧K=[]
theorem Zo8 (s:ZL) (k:Zf) (r:(Zj × Bool)) (hF:Zc4 s k=some r):ACall Tryz.prog glob 23 [(slc 10 Za s),(Zq k)] [] (Zo7 r):=by
 refine ACall.body Tryz.func23 rfl (by kernel_rfl) ?_
 unfold Zc4 at hF
 refine AWP.seq (AWP.rg [] [(0,(slc 10 Za s)),(3,(.ptr 0 0)),(4,(.ptr 1 0))] [.cells (Zc k),.cells (Ze Zo)] (AWP.seq (AWP.rg [] [(0,(slc 10 Za s)),(3,(.ptr 0 0)),(4,(.ptr 1 0)),(6,(.ptr 2 0))] [.cells (Zc k),.cells (Ze Zo),.cells (Ze Zo)] (AWP.seq ?_))))
 obtain⟨l,b9,hF⟩:=bindb hF
 refine AWP.rg0 [(1,.call Tryz.func26 [] (Zjy s l b9))] [(3,(.ptr 0 0)),(4,(.ptr 1 0)),(6,(.ptr 2 0)),(7,(slc 10 Za l.1)),(8,(i64 l.2))] (AWP.seq (AWP.seq ?_))
 obtain⟨c0,y,hF⟩:=bindb hF
 replace y:=someb y
 obtain⟨c1,a9,hF⟩:=bindb hF
 refine AWP.to [(3,(.ptr 0 0)),(4,(.ptr 1 0)),(6,(.ptr 2 0)),(7,(slc 10 Za l.1)),(31,(vb c1))] [.cells (Zc k),.cells (Ze Zo),.cells (Ze Zo)] ?_ ?_
 ·cases c0 with
  | false=>
   have m:=ifF a9 rfl
   obtain⟨b0,c2,m⟩:=bindb m
   obtain⟨c3,c4,m⟩:=bindb m
   replace m:=someb m
   subst m
   exact AWP.drT [(2,.bool y),(5,.call Tryz.func27 [] (Ziq l.1 (0:Int) b0 c2)),(6,.call Tryz.func46 [] (Zhy k b0 c3 c4))] 9 [] [] []
  | true=>
   have c5:=someb (ifT a9 rfl)
   subst c5
   exact AWP.drT [(2,.bool y)] 9 [] [] []
 refine AWP.cif hF (fun c6 hF=>?_) (fun c6 hF=>?_)
 ·refine AWP.seq (AWP.rg0 [] [(4,(.ptr 1 0)),(5,(vb false))] (AWP.ret ?_))
  have hr:=someb hF
  subst hr
  exact(FnQ.f0 0 (.inr rfl))
 ·refine AWP.skip (AWP.seq (AWP.seq (AWP.rg0 [] [(3,(.ptr 0 0)),(4,(.ptr 1 0)),(6,(.ptr 2 0)),(7,(slc 10 Za l.1)),(9,(i64 (0:Int)))] ?_)))
  obtain⟨b1,c7,hF⟩:=bindb hF
  refine AWP.mid (fun e st H=>(e=.normal∧∃ z,∃ t,b1=(z,t)∧st=[(4,(.ptr 1 0)),(6,(.ptr 2 0))]∧H=[.cells (Zc z),.cells (Ze Zo),.cells (Ze t)])) ?_ ?_
  ·clear hF
   refine AWP.kp [3,4,6,7,9] 3 ?_
   refine AWP.bround (fun n st H=>∃ u,∃ c,∃ v,∃ a,Zce n u c v a=some b1∧st=[(3,(.ptr 0 0)),(4,(.ptr 1 0)),(6,(.ptr 2 0)),(7,(slc 10 Za v)),(9,(i64 a))]∧H=[.cells (Zc u),.cells (Ze Zo),.cells (Ze c)]) fuel ⟨k,Zo,l.1,(0:Int),c7,by kernel_rfl,by kernel_rfl⟩ ?_
   rintro a4 st H ⟨u,c,v,a,hF,rfl,rfl⟩
   cases a4 with
   | zero=>exact noneb hF
   | succ a4=>
    rw [Zce] at hF
    refine AWP.seq (AWP.seq (AWP.rg0 [] [(3,(.ptr 0 0)),(4,(.ptr 1 0)),(6,(.ptr 2 0)),(7,(slc 10 Za v)),(9,(i64 a)),(34,(vb (decide (a<(5:Int)))))] ?_))
    refine AWP.cif hF (fun c8 hF=>?_) (fun c8 hF=>?_)
    ·refine AWP.skip (AWP.seq (AWP.block ?_))
     obtain⟨b2,c9,hF⟩:=bindb hF
     refine AWP.mid (fun e st H=>(e=.normal∧∃ a0,∃ a1,∃ w,b2=(a0,a1,w)∧st=[(3,(.ptr 0 0)),(4,(.ptr 1 0)),(6,(.ptr 2 0)),(7,(slc 10 Za w)),(9,(i64 a))]∧H=[.cells (Zc a0),.cells (Ze Zo),.cells (Ze a1)])) ?_ ?_
     ·clear hF
      refine AWP.kp [3,4,6,7,9] 3 ?_
      refine AWP.bround (fun n st H=>∃ d,∃ b,Zdr c a n d b=some b2∧st=[(3,(.ptr 0 0)),(4,(.ptr 1 0)),(6,(.ptr 2 0)),(7,(slc 10 Za b)),(9,(i64 a))]∧H=[.cells (Zc d),.cells (Ze Zo),.cells (Ze c)]) fuel ⟨u,v,c9,by kernel_rfl,by kernel_rfl⟩ ?_
      rintro a5 st H ⟨d,b,hF,rfl,rfl⟩
      cases a5 with
      | zero=>exact noneb hF
      | succ a5=>
       rw [Zdr] at hF
       refine AWP.seq (AWP.seq (AWP.rg0 [(1,.len Za b)] [(3,(.ptr 0 0)),(4,(.ptr 1 0)),(6,(.ptr 2 0)),(7,(slc 10 Za b)),(9,(i64 a)),(39,(vb (decide ((List.length b:Int) > (0:Int)))))] ?_))
       refine AWP.cif hF (fun d0 hF=>?_) (fun d0 hF=>?_)
       ·refine AWP.skip (AWP.block (AWP.seq ?_))
        obtain⟨f,d1,hF⟩:=bindb hF
        obtain⟨b3,hF⟩:=chkb hF
        refine AWP.rg [(2,.idx Za d1),(3,.ixd b3),(4,.ldA Zh (Arr5.get f) 0 2 0 b3)] [(3,(.ptr 0 0)),(4,(.ptr 1 0)),(6,(.ptr 2 0)),(7,(slc 10 Za b)),(9,(i64 a)),(10,(.ptr 3 0))] [.cells (Zc d),.cells (Ze Zo),.cells (Ze c),.cells (Zh (Arr5.get f a))] (AWP.seq (AWP.rg0 [] [(3,(.ptr 0 0)),(4,(.ptr 1 0)),(6,(.ptr 2 0)),(7,(slc 10 Za b)),(9,(i64 a)),(10,(.ptr 3 0)),(11,(i64 (1:Int)))] (AWP.seq ?_)))
        obtain⟨g,d2,hF⟩:=bindb hF
        refine AWP.mid (fun e st H=>e=.normal∧st=[(3,(.ptr 0 0)),(4,(.ptr 1 0)),(6,(.ptr 2 0)),(7,(slc 10 Za b)),(9,(i64 a)),(10,(.ptr 3 0)),(11,(i64 g))]∧H=[.cells (Zc d),.cells (Ze Zo),.cells (Ze c),.cells (Zh (Arr5.get f a))]) ?_ ?_
        ·clear hF
         refine AWP.kp [3,4,6,7,9,10,11] 4 ?_
         refine AWP.bround (fun n st H=>∃ p,Zcd a b f n p=some g∧st=[(3,(.ptr 0 0)),(4,(.ptr 1 0)),(6,(.ptr 2 0)),(7,(slc 10 Za b)),(9,(i64 a)),(10,(.ptr 3 0)),(11,(i64 p))]∧H=[.cells (Zc d),.cells (Ze Zo),.cells (Ze c),.cells (Zh (Arr5.get f a))]) fuel ⟨(1:Int),d2,by kernel_rfl,by kernel_rfl⟩ ?_
         rintro a6 st H ⟨p,hF,rfl,rfl⟩
         cases a6 with
         | zero=>exact noneb hF
         | succ a6=>
          rw [Zcd] at hF
          refine AWP.seq (AWP.seq ?_)
          obtain⟨d3,a2,hF⟩:=bindb hF
          replace a2:=someb a2
          obtain⟨d4,b4,hF⟩:=bindb hF
          refine AWP.to [(3,(.ptr 0 0)),(4,(.ptr 1 0)),(6,(.ptr 2 0)),(7,(slc 10 Za b)),(9,(i64 a)),(10,(.ptr 3 0)),(11,(i64 p)),(58,(vb d4))] [.cells (Zc d),.cells (Ze Zo),.cells (Ze c),.cells (Zh (Arr5.get f a))] ?_ ?_
          ·cases d3 with
           | false=>
            have d5:=someb (ifF b4 rfl)
            subst d5
            exact AWP.drT [(2,.len Za b),(4,.bool a2)] 14 [] [] []
           | true=>
            have o:=ifT b4 rfl
            obtain⟨d6,d7,o⟩:=bindb o
            obtain⟨b5,o⟩:=chkb o
            replace o:=someb o
            subst o
            exact AWP.drT [(2,.len Za b),(4,.bool a2),(8,.idx Za d7),(9,.ixd b5),(10,.ldA Zh (Arr5.get d6) 0 2 0 b5)] 14 [] [] []
          refine AWP.cif hF (fun d8 hF=>?_) (fun d8 hF=>?_)
          ·refine AWP.skip (AWP.block (AWP.rg0 [] [(3,(.ptr 0 0)),(4,(.ptr 1 0)),(6,(.ptr 2 0)),(7,(slc 10 Za b)),(9,(i64 a)),(10,(.ptr 3 0)),(11,(i64 (ZI (p + (1:Int)))))] (LeQ.start (LeQ.pk [3,4,6,7,9,10,11] 4 ?_))))
           exact⟨a6,Nat.lt_succ_self _,(ZI (p + (1:Int))),hF,by kernel_rfl,by kernel_rfl⟩
          ·refine AWP.exit (LeQ.start (LeQ.pk [3,4,6,7,9,10,11] 4 ?_))
           have hr:=someb hF
           subst hr
           exact⟨rfl,by kernel_rfl,by kernel_rfl⟩
        ·rintro _ _ _ ⟨rfl,rfl,rfl⟩
         refine AWP.seq ?_
         obtain⟨d9,hF⟩:=chkb hF
         obtain⟨i,e0,hF⟩:=bindb hF
         refine AWP.rg [(2,.slice Za b d9),(5,.call Tryz.func27 [] (Ziq (List.drop (Int.toNat (0:Int)) (List.take (Int.toNat g) b)) (ZI (a + (1:Int))) i e0))] [(3,(.ptr 0 0)),(4,(.ptr 1 0)),(6,(.ptr 2 0)),(7,(slc 10 Za b)),(9,(i64 a)),(10,(.ptr 3 0)),(11,(i64 g)),(12,(.ptr 4 0))] [.cells (Zc d),.cells (Ze Zo),.cells (Ze c),.cells (Zh (Arr5.get f a)),.cells (Zc i)] (AWP.seq (AWP.seq ?_))
         obtain⟨b6,e1,hF⟩:=bindb hF
         obtain⟨j,e2,hF⟩:=bindb hF
         refine AWP.dr [(2,.call Tryz.func48 [] (Zgz (Arr5.get f a) b6 e1)),(3,.call Tryz.func47 [] (Zf6 i b6 j e2))] 9 [] [7,8] [] [(3,(.ptr 0 0)),(4,(.ptr 1 0)),(6,(.ptr 2 0)),(7,(slc 10 Za b)),(9,(i64 a)),(10,(.ptr 3 0)),(11,(i64 g)),(12,(.ptr 4 0)),(13,(.ptr 5 0))] [.cells (Zc d),.cells (Ze Zo),.cells (Ze c),.cells (Zh (Arr5.get f a)),.cells (Zc i),.cells (Zc j.1)] (AWP.seq ?_)
         obtain⟨b7,e3,hF⟩:=bindb hF
         refine AWP.rg0 [(2,.call Tryz.func46 [] (Zhy d j.1 b7 e3))] [(3,(.ptr 0 0)),(4,(.ptr 1 0)),(6,(.ptr 2 0)),(7,(slc 10 Za b)),(9,(i64 a)),(10,(.ptr 3 0)),(11,(i64 g)),(12,(.ptr 4 0)),(13,(.ptr 5 0)),(77,(vb (decide (b7 ≥ (0:Int)))))] ?_
         refine AWP.cif hF (fun e4 hF=>?_) (fun e4 hF=>?_)
         ·refine AWP.seq ?_
          obtain⟨a7,e5,hF⟩:=bindb hF
          obtain⟨e6,hF⟩:=chkb hF
          refine AWP.dr [(2,.call Tryz.func49 [] (Zjs d j.1 a7 e5)),(5,.slice Za b e6)] 7 [] [6] [] [(3,(.ptr 0 0)),(4,(.ptr 1 0)),(6,(.ptr 2 0)),(7,(slc 10 Za (List.drop (Int.toNat g) (List.take (Int.toNat (List.length b:Int)) b)))),(9,(i64 a))] [.cells (Zc a7),.cells (Ze Zo),.cells (Ze c),.cells (Zh (Arr5.get f a)),.cells (Zc i),.cells (Zc j.1)] (AWP.exit (LeQ.start (LeQ.pk [3,4,6,7,9] 3 ?_)))
          exact⟨a5,Nat.lt_succ_self _,a7,(List.drop (Int.toNat g) (List.take (Int.toNat (List.length b:Int)) b)),hF,by kernel_rfl,by kernel_rfl⟩
         ·refine AWP.skip (AWP.seq ?_)
          obtain⟨b8,e7,hF⟩:=bindb hF
          obtain⟨q,e8,hF⟩:=bindb hF
          refine AWP.dr [(3,.call Tryz.func48 [] (Zgz (Arr5.get f a) b8 e7)),(5,.call Tryz.func50 [] (Zqh d i (IntKind.wrap .u64 (b8 - (1:Int))) q e8))] 6 [] [] [] [(3,(.ptr 0 0)),(4,(.ptr 1 0)),(6,(.ptr 2 0)),(7,(slc 10 Za b)),(9,(i64 a)),(10,(.ptr 3 0)),(11,(i64 g)),(12,(.ptr 4 0)),(15,(u64 q))] [.cells (Zc d),.cells (Ze Zo),.cells (Ze c),.cells (Zh (Arr5.get f a)),.cells (Zc i),.cells (Zc j.1)] (AWP.seq ?_)
          obtain⟨x,e9,hF⟩:=bindb hF
          refine AWP.rg [(2,.call Tryz.func47 [] (Zf6 i q x e9))] [(3,(.ptr 0 0)),(4,(.ptr 1 0)),(6,(.ptr 2 0)),(7,(slc 10 Za b)),(9,(i64 a)),(10,(.ptr 3 0)),(11,(i64 g)),(15,(u64 q)),(16,(.ptr 6 0))] [.cells (Zc d),.cells (Ze Zo),.cells (Ze c),.cells (Zh (Arr5.get f a)),.cells (Zc i),.cells (Zc j.1),.cells (Zc x.1)] (AWP.seq ?_)
          obtain⟨a3,f1,hF⟩:=bindb hF
          obtain⟨f2,hF⟩:=chkb hF
          refine AWP.dr [(2,.call Tryz.func49 [] (Zjs d x.1 a3 f1)),(5,.slice Za b f2)] 7 [] [6] [] [(3,(.ptr 0 0)),(4,(.ptr 1 0)),(6,(.ptr 2 0)),(7,(slc 10 Za (List.drop (Int.toNat (0:Int)) (List.take (Int.toNat g) b)))),(9,(i64 a)),(10,(.ptr 3 0)),(15,(u64 q))] [.cells (Zc a3),.cells (Ze Zo),.cells (Ze c),.cells (Zh (Arr5.get f a)),.cells (Zc i),.cells (Zc j.1),.cells (Zc x.1)] (AWP.seq ?_)
          obtain⟨a8,f3,hF⟩:=bindb hF
          refine AWP.rg [(7,.call Tryz.func51 [] (Zx0 c a (IntKind.wrap .u32 ((Arr5.get f a).Lo + (IntKind.wrap .u32 q))) a8 f3))] [(3,(.ptr 0 0)),(4,(.ptr 1 0)),(6,(.ptr 2 0)),(7,(slc 10 Za (List.drop (Int.toNat (0:Int)) (List.take (Int.toNat g) b)))),(9,(i64 a))] [.cells (Zc a3),.cells (Ze Zo),.cells (Ze a8),.cells (Zh (Arr5.get f a)),.cells (Zc i),.cells (Zc j.1),.cells (Zc x.1)] (AWP.exit (LeQ.start (LeQ.pk [3,4,6,7,9] 3 ?_)))
          exact⟨rfl,a3,a8,(List.drop (Int.toNat (0:Int)) (List.take (Int.toNat g) b)),(someb hF).symm,by kernel_rfl,by kernel_rfl⟩
       ·refine AWP.exit (LeQ.start (LeQ.pk [3,4,6,7,9] 3 ?_))
        exact⟨rfl,d,c,b,(someb hF).symm,by kernel_rfl,by kernel_rfl⟩
     ·rintro _ _ _ ⟨rfl,a0,a1,w,rfl,rfl,rfl⟩
      refine AWP.rg0 [] [(3,(.ptr 0 0)),(4,(.ptr 1 0)),(6,(.ptr 2 0)),(7,(slc 10 Za w)),(9,(i64 (ZI (a + (1:Int)))))] (LeQ.start (LeQ.pk [3,4,6,7,9] 3 ?_))
      exact⟨a4,Nat.lt_succ_self _,a0,a1,w,(ZI (a + (1:Int))),hF,by kernel_rfl,by kernel_rfl⟩
    ·refine AWP.exit (LeQ.start (LeQ.pk [4,6] 3 ?_))
     exact⟨rfl,u,c,(someb hF).symm,by kernel_rfl,by kernel_rfl⟩
  ·rintro _ _ _ ⟨rfl,z,t,rfl,rfl,rfl⟩
   refine AWP.seq (AWP.rg [] [(4,(.ptr 1 0)),(5,(vb true))] [.cells (Zc z),.cells (Ze t),.cells (Ze t)] (AWP.ret ?_))
   have hr:=someb hF
   subst hr
   exact(FnQ.f0 0 (.inr rfl))
def Zkh (r:Int):PV→List Blk→Prop:=fun p K=>p=(i64 r)∧K=[]
abbrev Zo9 (r:Int):Exit→St→List Blk→Prop:=FnQ Tryz.prog Tryz.f66.results 0 (Zkh r)
theorem Zki (d:Zf) (f:Zf) (r:Int) (hF:Zey d f=some r):ACall Tryz.prog glob 66 [(Zq d),(Zq f)] [] (Zkh r):=by
 refine ACall.body Tryz.func66 rfl (by kernel_rfl) ?_
 unfold Zey at hF
 refine AWP.seq (AWP.rg [] [(2,(.ptr 0 0)),(3,(.ptr 1 0))] [.cells (Zc d),.cells (Zc f)] (AWP.seq ?_))
 obtain⟨b,j,hF⟩:=bindb hF
 obtain⟨c,k,hF⟩:=bindb hF
 refine AWP.to [(5,(.ptr 2 0)),(6,(.ptr 3 0))] [.cells (Zc d),.cells (Zc f),.cells (Zaa b),.cells (Zaa c)] ?_ ?_
 ·refine AWP.of_draw (by kernel_rfl) ?_
  refine ADraw.either 5 4 (by kernel_rfl) ?_ ?_
  ·exact ADraw.drT [(1,.call Tryz.func59 [] (Zcj d b j)),(3,.call Tryz.func59 [] (Zcj f c k))] 7 [] [4,5,6] []
  ·exact ADraw.drT [(1,.call Tryz.func59 [] (Zcj d b j)),(3,.call Tryz.func59 [] (Zcj f c k))] 7 [0,1,2,3,5,4,6] [5,4,6] [(2,3)]
 refine AWP.seq (AWP.seq (AWP.rg0 [] [(5,(.ptr 2 0)),(6,(.ptr 3 0)),(7,(i64 (3:Int)))] ?_))
 obtain⟨g,q,hF⟩:=bindb hF
 refine AWP.mid (fun e st H=>(e=.normal∧g=(.inl ())∧st=[]∧H=[.cells (Zc d),.cells (Zc f),.cells (Zaa b),.cells (Zaa c)])∨(e=.ret∧∃ r,g=(.inr r)∧Zo9 r e st H)) ?_ ?_
 ·clear hF
  refine AWP.kp [5,6,7] 4 ?_
  refine AWP.bround (fun n st H=>∃ a,Zbm b c n a=some g∧st=[(5,(.ptr 2 0)),(6,(.ptr 3 0)),(7,(i64 a))]∧H=[.cells (Zc d),.cells (Zc f),.cells (Zaa b),.cells (Zaa c)]) fuel ⟨(3:Int),q,by kernel_rfl,by kernel_rfl⟩ ?_
  rintro i st H ⟨a,hF,rfl,rfl⟩
  cases i with
  | zero=>exact noneb hF
  | succ i=>
   rw [Zbm] at hF
   refine AWP.seq (AWP.seq (AWP.rg0 [] [(5,(.ptr 2 0)),(6,(.ptr 3 0)),(7,(i64 a)),(13,(vb (decide (a ≥ (0:Int)))))] ?_))
   refine AWP.cif hF (fun s hF=>?_) (fun s hF=>?_)
   ·refine AWP.skip (AWP.seq (AWP.block (AWP.seq (AWP.seq ?_))))
    obtain⟨l,hF⟩:=chkb hF
    obtain⟨m,hF⟩:=chkb hF
    refine AWP.dr [(1,.ixd l),(2,.ldA Zd (Arr4.get b) 0 1 0 l),(4,.ixd m),(5,.ldA Zd (Arr4.get c) 0 1 0 m)] 7 [] [] [] [(5,(.ptr 2 0)),(6,(.ptr 3 0)),(7,(i64 a)),(22,(vb (decide ((Arr4.get b a)<(Arr4.get c a)))))] [.cells (Zc d),.cells (Zc f),.cells (Zaa b),.cells (Zaa c)] ?_
    refine AWP.cif hF (fun t hF=>?_) (fun t hF=>?_)
    ·refine AWP.seq (AWP.rg0 [] [(4,(i64 (-1:Int)))] (AWP.ret ?_))
     exact LeQ.of (.inr ⟨rfl,(-1:Int),(someb hF).symm,(FnQ.f0 0 (.inr rfl))⟩)
    ·refine AWP.skip (AWP.seq ?_)
     obtain⟨o,hF⟩:=chkb hF
     obtain⟨p,hF⟩:=chkb hF
     refine AWP.dr [(1,.ixd o),(2,.ldA Zd (Arr4.get b) 0 1 0 o),(4,.ixd p),(5,.ldA Zd (Arr4.get c) 0 1 0 p)] 7 [] [] [] [(5,(.ptr 2 0)),(6,(.ptr 3 0)),(7,(i64 a)),(29,(vb (decide ((Arr4.get b a) > (Arr4.get c a)))))] [.cells (Zc d),.cells (Zc f),.cells (Zaa b),.cells (Zaa c)] ?_
     refine AWP.cif hF (fun u hF=>?_) (fun u hF=>?_)
     ·refine AWP.seq (AWP.rg0 [] [(4,(i64 (1:Int)))] (AWP.ret ?_))
      exact LeQ.of (.inr ⟨rfl,(1:Int),(someb hF).symm,(FnQ.f0 0 (.inr rfl))⟩)
     ·refine AWP.skip (AWP.rg0 [] [(5,(.ptr 2 0)),(6,(.ptr 3 0)),(7,(i64 (ZI (a - (1:Int)))))] (LeQ.start (LeQ.pk [5,6,7] 4 ?_)))
      exact⟨i,Nat.lt_succ_self _,(ZI (a - (1:Int))),hF,by kernel_rfl,by kernel_rfl⟩
   ·refine AWP.exit (LeQ.start (LeQ.pk [] 4 ?_))
    exact(.inl ⟨rfl,(someb hF).symm,by kernel_rfl,by kernel_rfl⟩)
 ·rintro _ _ _ (⟨rfl,rfl,rfl,rfl⟩ | ⟨rfl,v,rfl,hq⟩)
  ·refine AWP.seq (AWP.rg0 [] [(4,(i64 (0:Int)))] (AWP.ret ?_))
   have hr:=someb hF
   subst hr
   exact(FnQ.f0 0 (.inr rfl))
  ·have hr:=someb hF
   subst hr
   exact hq
def Zsx (r:Zj):PV→List Blk→Prop:=fun p K=>p=(Zas r)∧K=[]
theorem Zmf (a:Zj) (b:Int) (c:Int) (r:Zj) (hF:Zef a b c=some r):ACall Tryz.prog glob 68 [(Zas a),(i64 b),(u32 c)] [] (Zsx r):=by
 refine ACall.body Tryz.func68 rfl (by kernel_rfl) ?_
 unfold Zef at hF
 refine AWP.seq (AWP.rg [] [(1,(i64 b)),(2,(u32 c)),(3,(.ptr 0 0)),(6,(.ptr 1 0))] [.cells (Ze a),.cells (Ze Zo)] (AWP.seq (AWP.seq ?_)))
 obtain⟨b1,f,hF⟩:=bindb hF
 replace f:=someb f
 obtain⟨m,g,hF⟩:=bindb hF
 replace g:=someb g
 obtain⟨n,j,hF⟩:=bindb hF
 refine AWP.to [(1,(i64 b)),(2,(u32 c)),(3,(.ptr 0 0)),(6,(.ptr 1 0)),(19,(vb n))] [.cells (Ze a),.cells (Ze Zo)] ?_ ?_
 ·cases b1 with
  | false=>
   cases m with
   | false=>
    have i:=ifF j rfl
    obtain⟨o,p,i⟩:=bindb i
    replace i:=someb i
    subst i
    exact AWP.rgT [(2,.bool f),(6,.bool g),(9,.call Tryz.func31 [] (Zfl b o p))]
   | true=>
    have q:=someb (ifT j rfl)
    subst q
    exact AWP.rgT [(2,.bool f),(6,.bool g)]
  | true=>
   subst g
   have s:=someb (ifT j rfl)
   subst s
   exact AWP.rgT [(2,.bool f)]
 refine AWP.cif hF (fun t hF=>?_) (fun t hF=>?_)
 ·refine AWP.seq (AWP.rg [] [(6,(.ptr 1 0))] [.cells (Ze a),.cells (Ze a)] (AWP.ret ?_))
  have hr:=someb hF
  subst hr
  exact(FnQ.f0 0 (.inr rfl))
 ·refine AWP.skip (AWP.seq ?_)
  obtain⟨d,u,hF⟩:=bindb hF
  refine AWP.rg [(1,.call Tryz.func61 [] (Zlj a d u))] [(1,(i64 b)),(2,(u32 c)),(6,(.ptr 1 0)),(7,(.ptr 2 0))] [.cells (Ze a),.cells (Ze Zo),.cells (Z5 d)] (AWP.seq ?_)
  obtain⟨k,hF⟩:=chkb hF
  refine AWP.rg [(2,.ixd k),(3,.stA (fun v=>Z5 (Arr5.set d v c)) 0 1 0 k)] [(6,(.ptr 1 0)),(7,(.ptr 2 0))] [.cells (Ze a),.cells (Ze Zo),.cells (Z5 (Arr5.set d b c))] (AWP.seq ?_)
  obtain⟨l,w,hF⟩:=bindb hF
  refine AWP.rg [(1,.call Tryz.func32 [] (Zkv (Arr5.set d b c) l w))] [(6,(.ptr 1 0))] [.cells (Ze a),.cells (Ze l),.cells (Z5 (Arr5.set d b c))] (AWP.ret ?_)
  have hr:=someb hF
  subst hr
  exact(FnQ.f0 0 (.inr rfl))
def Zqi (r:Zf):PV→List Blk→Prop:=fun p K=>p=(Zq r)∧K=[]
theorem Zqj (a:ZL) (b:Zj) (r:Zf) (hF:Zea a b=some r):ACall Tryz.prog glob 67 [(slc 10 Za a),(Zas b)] [] (Zqi r):=by
 refine ACall.body Tryz.func67 rfl (by kernel_rfl) ?_
 unfold Zea at hF
 refine AWP.seq (AWP.rg [] [(0,(slc 10 Za a)),(3,(.ptr 0 0)),(4,(.ptr 1 0))] [.cells (Ze b),.cells (Zc Zk)] (AWP.seq (AWP.rg [] [(0,(slc 10 Za a)),(3,(.ptr 0 0)),(4,(.ptr 1 0)),(5,(.ptr 2 0))] [.cells (Ze b),.cells (Zc Zk),.cells (Zc Zk)] (AWP.seq (AWP.seq (AWP.rg0 [] [(0,(slc 10 Za a)),(3,(.ptr 0 0)),(4,(.ptr 1 0)),(5,(.ptr 2 0)),(6,(i64 (0:Int)))] ?_))))))
 obtain⟨d,k,hF⟩:=bindb hF
 refine AWP.mid (fun e st H=>e=.normal∧st=[(4,(.ptr 1 0)),(5,(.ptr 2 0))]∧H=[.cells (Ze b),.cells (Zc Zk),.cells (Zc d)]) ?_ ?_
 ·clear hF
  refine AWP.kp [0,3,4,5,6] 3 ?_
  refine AWP.bround (fun n st H=>∃ f,∃ c,Zcp a b n f c=some d∧st=[(0,(slc 10 Za a)),(3,(.ptr 0 0)),(4,(.ptr 1 0)),(5,(.ptr 2 0)),(6,(i64 c))]∧H=[.cells (Ze b),.cells (Zc Zk),.cells (Zc f)]) fuel ⟨Zk,(0:Int),k,by kernel_rfl,by kernel_rfl⟩ ?_
  rintro g st H ⟨f,c,hF,rfl,rfl⟩
  cases g with
  | zero=>exact noneb hF
  | succ g=>
   rw [Zcp] at hF
   refine AWP.seq (AWP.seq (AWP.rg0 [(2,.len Za a)] [(0,(slc 10 Za a)),(3,(.ptr 0 0)),(4,(.ptr 1 0)),(5,(.ptr 2 0)),(6,(i64 c)),(10,(vb (decide (c<(List.length a:Int)))))] ?_))
   refine AWP.cif hF (fun l hF=>?_) (fun l hF=>?_)
   ·refine AWP.skip (AWP.seq (AWP.block ?_))
    obtain⟨m,o,hF⟩:=bindb hF
    obtain⟨j,p,hF⟩:=bindb hF
    obtain⟨i,q,hF⟩:=bindb hF
    refine AWP.dr [(3,.idx Za o),(6,.call Tryz.func35 [] (Zlo m b j p)),(7,.call Tryz.func34 [] (Zik f j i q))] 8 [] [] [] [(0,(slc 10 Za a)),(3,(.ptr 0 0)),(4,(.ptr 1 0)),(5,(.ptr 2 0)),(6,(i64 c))] [.cells (Ze b),.cells (Zc Zk),.cells (Zc i)] (AWP.rg0 [] [(0,(slc 10 Za a)),(3,(.ptr 0 0)),(4,(.ptr 1 0)),(5,(.ptr 2 0)),(6,(i64 (ZI (c + (1:Int)))))] (LeQ.start (LeQ.pk [0,3,4,5,6] 3 ?_)))
    exact⟨g,Nat.lt_succ_self _,i,(ZI (c + (1:Int))),hF,by kernel_rfl,by kernel_rfl⟩
   ·refine AWP.exit (LeQ.start (LeQ.pk [4,5] 3 ?_))
    have hr:=someb hF
    subst hr
    exact⟨rfl,by kernel_rfl,by kernel_rfl⟩
 ·rintro _ _ _ ⟨rfl,rfl,rfl⟩
  refine AWP.seq (AWP.rg [] [(4,(.ptr 1 0))] [.cells (Ze b),.cells (Zc d),.cells (Zc d)] (AWP.ret ?_))
  have hr:=someb hF
  subst hr
  exact(FnQ.f0 0 (.inr rfl))
def Zqk (r:(Zj × Bool)):PV→List Blk→Prop:=fun p K=>p=(.tup [(Zas r.1),(vb r.2)])∧K=[]
theorem Zql (k:ZL) (c:Zf) (r:(Zj × Bool)) (hF:Zf5 k c=some r):ACall Tryz.prog glob 38 [(slc 10 Za k),(Zq c)] [] (Zqk r):=by
 refine ACall.body Tryz.func38 rfl (by kernel_rfl) ?_
 unfold Zf5 at hF
 refine AWP.seq (AWP.rg [] [(0,(slc 10 Za k)),(3,(.ptr 0 0)),(4,(.ptr 1 0))] [.cells (Zc c),.cells (Ze Zo)] (AWP.seq ?_))
 obtain⟨a,y,hF⟩:=bindb hF
 refine AWP.rg0 [(1,.call Tryz.func33 [] (Zi9 k a y))] [(3,(.ptr 0 0)),(4,(.ptr 1 0)),(6,(slc 10 Za a.1)),(7,(i64 a.2))] (AWP.seq ?_)
 obtain⟨g,z,hF⟩:=bindb hF
 refine AWP.rg [(1,.call Tryz.func36 [] (Znw a.1 g z))] [(3,(.ptr 0 0)),(4,(.ptr 1 0)),(6,(slc 10 Za a.1)),(7,(i64 a.2)),(8,(.ptr 2 0))] [.cells (Zc c),.cells (Ze Zo),.cells (Zc g.1)] (AWP.seq (AWP.seq ?_))
 obtain⟨a0,l,hF⟩:=bindb hF
 replace l:=someb l
 obtain⟨a1,u,hF⟩:=bindb hF
 refine AWP.to [(3,(.ptr 0 0)),(4,(.ptr 1 0)),(6,(slc 10 Za a.1)),(32,(vb a1))] [.cells (Zc c),.cells (Ze Zo),.cells (Zc g.1)] ?_ ?_
 ·cases a0 with
  | false=>
   have j:=ifF u rfl
   obtain⟨a2,a3,j⟩:=bindb j
   replace j:=someb j
   subst j
   exact AWP.rgT [(2,.bool l),(5,.call Tryz.func66 [] (Zki c g.1 a2 a3))]
  | true=>
   have a4:=someb (ifT u rfl)
   subst a4
   exact AWP.rgT [(2,.bool l)]
 refine AWP.cif hF (fun a5 hF=>?_) (fun a5 hF=>?_)
 ·refine AWP.seq (AWP.rg [] [(4,(.ptr 1 0)),(5,(vb false))] [.cells (Zc c),.cells (Ze (Zj.mk (0:Int) (0:Int) (0:Int) (0:Int) (0:Int))),.cells (Zc g.1)] (AWP.ret ?_))
  have hr:=someb hF
  subst hr
  exact(FnQ.f0 0 (.inr rfl))
 ·refine AWP.skip (AWP.seq (AWP.rg [] [(3,(.ptr 0 0)),(4,(.ptr 1 0)),(6,(slc 10 Za a.1)),(10,(.ptr 3 0))] [.cells (Zc c),.cells (Ze Zo),.cells (Zc g.1),.cells (Ze Zo)] (AWP.seq (AWP.seq (AWP.rg0 [] [(3,(.ptr 0 0)),(4,(.ptr 1 0)),(6,(slc 10 Za a.1)),(10,(.ptr 3 0)),(11,(i64 (0:Int)))] ?_)))))
  obtain⟨m,a6,hF⟩:=bindb hF
  refine AWP.mid (fun e st H=>e=.normal∧st=[(4,(.ptr 1 0)),(10,(.ptr 3 0))]∧H=[.cells (Zc c),.cells (Ze Zo),.cells (Zc g.1),.cells (Ze m)]) ?_ ?_
  ·clear hF
   refine AWP.kp [3,4,6,10,11] 4 ?_
   refine AWP.bround (fun n st H=>∃ i,∃ b,Zcq c a n i b=some m∧st=[(3,(.ptr 0 0)),(4,(.ptr 1 0)),(6,(slc 10 Za a.1)),(10,(.ptr 3 0)),(11,(i64 b))]∧H=[.cells (Zc c),.cells (Ze Zo),.cells (Zc g.1),.cells (Ze i)]) fuel ⟨Zo,(0:Int),a6,by kernel_rfl,by kernel_rfl⟩ ?_
   rintro p st H ⟨i,b,hF,rfl,rfl⟩
   cases p with
   | zero=>exact noneb hF
   | succ p=>
    rw [Zcq] at hF
    refine AWP.seq (AWP.seq (AWP.rg0 [] [(3,(.ptr 0 0)),(4,(.ptr 1 0)),(6,(slc 10 Za a.1)),(10,(.ptr 3 0)),(11,(i64 b)),(35,(vb (decide (b<(5:Int)))))] ?_))
    refine AWP.cif hF (fun a7 hF=>?_) (fun a7 hF=>?_)
    ·refine AWP.skip (AWP.seq (AWP.block (AWP.seq ?_)))
     obtain⟨q,a8,hF⟩:=bindb hF
     refine AWP.rg0 [(1,.call Tryz.func31 [] (Zfl b q a8))] [(3,(.ptr 0 0)),(4,(.ptr 1 0)),(6,(slc 10 Za a.1)),(10,(.ptr 3 0)),(11,(i64 b)),(12,(u64 (0:Int))),(13,(u64 (IntKind.wrap .u64 q)))] (AWP.seq ?_)
     obtain⟨s,a9,hF⟩:=bindb hF
     refine AWP.mid (fun e st H=>e=.normal∧st=[(3,(.ptr 0 0)),(4,(.ptr 1 0)),(6,(slc 10 Za a.1)),(10,(.ptr 3 0)),(11,(i64 b)),(12,(u64 s))]∧H=[.cells (Zc c),.cells (Ze Zo),.cells (Zc g.1),.cells (Ze i)]) ?_ ?_
     ·clear hF
      refine AWP.kp [3,4,6,10,11,12,13] 4 ?_
      refine AWP.bround (fun n st H=>∃ d,∃ f,Zb2 c a i b n d f=some s∧st=[(3,(.ptr 0 0)),(4,(.ptr 1 0)),(6,(slc 10 Za a.1)),(10,(.ptr 3 0)),(11,(i64 b)),(12,(u64 d)),(13,(u64 f))]∧H=[.cells (Zc c),.cells (Ze Zo),.cells (Zc g.1),.cells (Ze i)]) fuel ⟨(0:Int),(IntKind.wrap .u64 q),a9,by kernel_rfl,by kernel_rfl⟩ ?_
      rintro o st H ⟨d,f,hF,rfl,rfl⟩
      cases o with
      | zero=>exact noneb hF
      | succ o=>
       rw [Zb2] at hF
       refine AWP.seq (AWP.seq (AWP.rg0 [] [(3,(.ptr 0 0)),(4,(.ptr 1 0)),(6,(slc 10 Za a.1)),(10,(.ptr 3 0)),(11,(i64 b)),(12,(u64 d)),(13,(u64 f)),(43,(vb (decide (d<f))))] ?_))
       refine AWP.cif hF (fun b0 hF=>?_) (fun b0 hF=>?_)
       ·refine AWP.skip (AWP.block (AWP.seq (AWP.rg0 [] [(3,(.ptr 0 0)),(4,(.ptr 1 0)),(6,(slc 10 Za a.1)),(10,(.ptr 3 0)),(11,(i64 b)),(12,(u64 d)),(13,(u64 f)),(14,(u64 (IntKind.wrap .u64 (Int.tdiv (IntKind.wrap .u64 ((IntKind.wrap .u64 (d + f)) + (1:Int))) (2:Int)))))] (AWP.seq ?_))))
        obtain⟨v,b1,hF⟩:=bindb hF
        obtain⟨w,b2,hF⟩:=bindb hF
        obtain⟨x,b3,hF⟩:=bindb hF
        refine AWP.dr [(5,.call Tryz.func68 [] (Zmf i b (IntKind.wrap .u32 (IntKind.wrap .u64 (Int.tdiv (IntKind.wrap .u64 ((IntKind.wrap .u64 (d + f)) + (1:Int))) (2:Int)))) v b1)),(6,.call Tryz.func67 [] (Zqj a.1 v w b2)),(8,.call Tryz.func66 [] (Zki w c x b3))] 10 [] [] [] [(3,(.ptr 0 0)),(4,(.ptr 1 0)),(6,(slc 10 Za a.1)),(10,(.ptr 3 0)),(11,(i64 b)),(12,(u64 d)),(13,(u64 f)),(14,(u64 (IntKind.wrap .u64 (Int.tdiv (IntKind.wrap .u64 ((IntKind.wrap .u64 (d + f)) + (1:Int))) (2:Int))))),(58,(vb (decide (x≤(0:Int)))))] [.cells (Zc c),.cells (Ze Zo),.cells (Zc g.1),.cells (Ze i)] ?_
        refine AWP.cif hF (fun b4 hF=>?_) (fun b4 hF=>?_)
        ·refine AWP.rg0 [] [(3,(.ptr 0 0)),(4,(.ptr 1 0)),(6,(slc 10 Za a.1)),(10,(.ptr 3 0)),(11,(i64 b)),(12,(u64 (IntKind.wrap .u64 (Int.tdiv (IntKind.wrap .u64 ((IntKind.wrap .u64 (d + f)) + (1:Int))) (2:Int))))),(13,(u64 f))] (LeQ.start (LeQ.pk [3,4,6,10,11,12,13] 4 ?_))
         exact⟨o,Nat.lt_succ_self _,(IntKind.wrap .u64 (Int.tdiv (IntKind.wrap .u64 ((IntKind.wrap .u64 (d + f)) + (1:Int))) (2:Int))),f,hF,by kernel_rfl,by kernel_rfl⟩
        ·refine AWP.rg0 [] [(3,(.ptr 0 0)),(4,(.ptr 1 0)),(6,(slc 10 Za a.1)),(10,(.ptr 3 0)),(11,(i64 b)),(12,(u64 d)),(13,(u64 (IntKind.wrap .u64 ((IntKind.wrap .u64 (Int.tdiv (IntKind.wrap .u64 ((IntKind.wrap .u64 (d + f)) + (1:Int))) (2:Int))) - (1:Int)))))] (LeQ.start (LeQ.pk [3,4,6,10,11,12,13] 4 ?_))
         exact⟨o,Nat.lt_succ_self _,d,(IntKind.wrap .u64 ((IntKind.wrap .u64 (Int.tdiv (IntKind.wrap .u64 ((IntKind.wrap .u64 (d + f)) + (1:Int))) (2:Int))) - (1:Int))),hF,by kernel_rfl,by kernel_rfl⟩
       ·refine AWP.exit (LeQ.start (LeQ.pk [3,4,6,10,11,12] 4 ?_))
        have hr:=someb hF
        subst hr
        exact⟨rfl,by kernel_rfl,by kernel_rfl⟩
     ·rintro _ _ _ ⟨rfl,rfl,rfl⟩
      obtain⟨t,b5,hF⟩:=bindb hF
      refine AWP.rg [(4,.call Tryz.func68 [] (Zmf i b (IntKind.wrap .u32 s) t b5))] [(3,(.ptr 0 0)),(4,(.ptr 1 0)),(6,(slc 10 Za a.1)),(10,(.ptr 3 0)),(11,(i64 b))] [.cells (Zc c),.cells (Ze Zo),.cells (Zc g.1),.cells (Ze t)] (AWP.rg0 [] [(3,(.ptr 0 0)),(4,(.ptr 1 0)),(6,(slc 10 Za a.1)),(10,(.ptr 3 0)),(11,(i64 (ZI (b + (1:Int)))))] (LeQ.start (LeQ.pk [3,4,6,10,11] 4 ?_)))
      exact⟨p,Nat.lt_succ_self _,t,(ZI (b + (1:Int))),hF,by kernel_rfl,by kernel_rfl⟩
    ·refine AWP.exit (LeQ.start (LeQ.pk [4,10] 4 ?_))
     have hr:=someb hF
     subst hr
     exact⟨rfl,by kernel_rfl,by kernel_rfl⟩
  ·rintro _ _ _ ⟨rfl,rfl,rfl⟩
   refine AWP.seq (AWP.rg [] [(4,(.ptr 1 0)),(5,(vb true))] [.cells (Zc c),.cells (Ze m),.cells (Zc g.1),.cells (Ze m)] (AWP.ret ?_))
   have hr:=someb hF
   subst hr
   exact(FnQ.f0 0 (.inr rfl))
def Zqm (r:Bool):PV→List Blk→Prop:=fun p K=>p=(vb r)∧K=[]
theorem Zdl (a:ZL) (c:Zj) (d:Zf) (r:Bool) (hF:Zdj a c d=some r):ACall Tryz.prog glob 15 [(slc 10 Za a),(Zas c),(Zq d)] [] (Zqm r):=by
 refine ACall.body Tryz.func15 rfl (by kernel_rfl) ?_
 unfold Zdj at hF
 refine AWP.seq (AWP.rg [] [(0,(slc 10 Za a)),(4,(.ptr 0 0)),(5,(.ptr 1 0))] [.cells (Ze c),.cells (Zc d)] (AWP.seq ?_))
 obtain⟨b,s,hF⟩:=bindb hF
 refine AWP.rg [(1,.call Tryz.func10 [] (Zui a b s))] [(0,(slc 10 Za a)),(4,(.ptr 0 0)),(5,(.ptr 1 0)),(7,(.ptr 2 0)),(8,(i64 b.2))] [.cells (Ze c),.cells (Zc d),.cells (Zc b.1)] (AWP.seq ?_)
 obtain⟨f,t,hF⟩:=bindb hF
 refine AWP.rg [(1,.call Tryz.func36 [] (Znw a f t))] [(0,(slc 10 Za a)),(4,(.ptr 0 0)),(5,(.ptr 1 0)),(7,(.ptr 2 0)),(8,(i64 b.2)),(9,(.ptr 3 0)),(10,(i64 f.2))] [.cells (Ze c),.cells (Zc d),.cells (Zc b.1),.cells (Zc f.1)] (AWP.seq ?_)
 obtain⟨g,u,hF⟩:=bindb hF
 refine AWP.rg [(2,.call Tryz.func37 [] (Zr0 a c g u))] [(0,(slc 10 Za a)),(4,(.ptr 0 0)),(5,(.ptr 1 0)),(7,(.ptr 2 0)),(8,(i64 b.2)),(9,(.ptr 3 0)),(10,(i64 f.2)),(11,(.ptr 4 0)),(12,(i64 g.2))] [.cells (Ze c),.cells (Zc d),.cells (Zc b.1),.cells (Zc f.1),.cells (Zc g.1)] (AWP.seq ?_)
 obtain⟨i,v,hF⟩:=bindb hF
 refine AWP.rg [(2,.call Tryz.func14 [] (Zmd a c i v))] [(0,(slc 10 Za a)),(5,(.ptr 1 0)),(7,(.ptr 2 0)),(8,(i64 b.2)),(9,(.ptr 3 0)),(10,(i64 f.2)),(11,(.ptr 4 0)),(12,(i64 g.2)),(13,(.ptr 5 0)),(14,(i64 i.2))] [.cells (Ze c),.cells (Zc d),.cells (Zc b.1),.cells (Zc f.1),.cells (Zc g.1),.cells (Zc i.1)] (AWP.seq ?_)
 obtain⟨o,w,hF⟩:=bindb hF
 refine AWP.rg [(2,.call Tryz.func23 [] (Zo8 a d o w))] [(0,(slc 10 Za a)),(5,(.ptr 1 0)),(7,(.ptr 2 0)),(8,(i64 b.2)),(9,(.ptr 3 0)),(10,(i64 f.2)),(11,(.ptr 4 0)),(12,(i64 g.2)),(13,(.ptr 5 0)),(14,(i64 i.2)),(15,(.ptr 6 0)),(16,(vb o.2))] [.cells (Ze c),.cells (Zc d),.cells (Zc b.1),.cells (Zc f.1),.cells (Zc g.1),.cells (Zc i.1),.cells (Ze o.1)] (AWP.seq ?_)
 obtain⟨p,x,hF⟩:=bindb hF
 refine AWP.rg [(2,.call Tryz.func38 [] (Zql a d p x))] [(7,(.ptr 2 0)),(8,(i64 b.2)),(9,(.ptr 3 0)),(10,(i64 f.2)),(11,(.ptr 4 0)),(12,(i64 g.2)),(13,(.ptr 5 0)),(14,(i64 i.2)),(15,(.ptr 6 0)),(16,(vb o.2)),(17,(.ptr 7 0)),(18,(vb p.2))] [.cells (Ze c),.cells (Zc d),.cells (Zc b.1),.cells (Zc f.1),.cells (Zc g.1),.cells (Zc i.1),.cells (Ze o.1),.cells (Ze p.1)] (AWP.seq ?_)
 obtain⟨y,j,hF⟩:=bindb hF
 replace j:=someb j
 obtain⟨z,k,hF⟩:=bindb hF
 replace k:=someb k
 obtain⟨a0,l,hF⟩:=bindb hF
 replace l:=someb l
 obtain⟨a1,m,hF⟩:=bindb hF
 replace m:=someb m
 obtain⟨q,n,hF⟩:=bindb hF
 replace n:=someb n
 refine AWP.to [(6,(vb (q && (o.2 == p.2))))] [.cells (Ze c),.cells (Zc d),.cells (Zc b.1),.cells (Zc f.1),.cells (Zc g.1),.cells (Zc i.1),.cells (Ze o.1),.cells (Ze p.1)] ?_ ?_
 ·cases y with
  | false=>
   subst k
   subst l
   subst m
   subst n
   exact AWP.rgT [(3,.bool j)]
  | true=>
   cases z with
   | false=>
    subst l
    subst m
    subst n
    exact AWP.rgT [(3,.bool j),(8,.bool k)]
   | true=>
    cases a0 with
    | false=>
     subst m
     subst n
     exact AWP.rgT [(3,.bool j),(8,.bool k),(13,.bool l)]
    | true=>
     cases a1 with
     | false=>
      subst n
      exact AWP.rgT [(3,.bool j),(8,.bool k),(13,.bool l),(18,.bool m)]
     | true=>
      cases q with
      | false=>
       exact AWP.rgT [(3,.bool j),(8,.bool k),(13,.bool l),(18,.bool m),(23,.bool n)]
      | true=>
       exact AWP.rgT [(3,.bool j),(8,.bool k),(13,.bool l),(18,.bool m),(23,.bool n)]
 refine AWP.ret ?_
 have hr:=someb hF
 subst hr
 exact(FnQ.f0 0 (.inr rfl))
def Zpa (r:(ZL × Zg)):PV→List Blk→Prop:=fun p K=>p=(slc 10 Za r.1)∧K=[.cells (Zi r.2)]
theorem Zpb (b:Zg) (a:Int) (r:(ZL × Zg)) (hF:Zfq b a=some r):ACall Tryz.prog glob 6 [(.ptr 0 0),(i64 a)] [.cells (Zi b)] (Zpa r):=by
 refine ACall.body Tryz.func6 rfl (by kernel_rfl) ?_
 unfold Zfq at hF
 refine AWP.seq (AWP.rg0 [] [(0,(.ptr 0 0)),(1,(i64 a))] (AWP.seq ?_))
 obtain⟨c,f,hF⟩:=bindb hF
 obtain⟨d,g,hF⟩:=bindb hF
 refine AWP.rg [(2,.call Tryz.func12 [] (Zjq b a false c f)),(3,.call Tryz.func20 [] (Zmb c.1 d g))] [(5,(slc 10 Za d.1))] [.cells (Zi c.2)] (AWP.seq (AWP.rg0 [] [(4,(slc 10 Za d.1))] (AWP.ret ?_)))
 have hr:=someb hF
 subst hr
 exact(FnQ.f0 1 (.inr rfl))
def Zn0 (r:Bool):PV→List Blk→Prop:=fun p K=>p=(vb r)∧K=[]
theorem Zhz (a:ZL) (r:Bool) (hF:Zgl a=some r):ACall Tryz.prog glob 19 [(slc 10 Za a)] [] (Zn0 r):=by
 refine ACall.body Tryz.func19 rfl (by kernel_rfl) ?_
 unfold Zgl at hF
 refine AWP.seq (AWP.rg0 [] [(0,(slc 10 Za a))] (AWP.seq (AWP.rg0 [(1,.len Za a)] [(2,(vb (decide ((List.length a:Int) > (6:Int)))))] (AWP.ret ?_))))
 have hr:=someb hF
 subst hr
 exact(FnQ.f0 0 (.inr rfl))
def Zh0 (r:Bool):PV→List Blk→Prop:=fun p K=>p=(vb r)∧K=[]
abbrev Zky (r:Bool):Exit→St→List Blk→Prop:=FnQ Tryz.prog Tryz.f4.results 0 (Zh0 r)
theorem Zkz (v:(List Int)) (a:ZL) (c:Zj) (b:Zf) (r:Bool) (hF:Zer v a c b=some r):ACall Tryz.prog glob 4 [(slc 1 Zz v),(slc 10 Za a),(Zas c),(Zq b)] [] (Zh0 r):=by
 refine ACall.body Tryz.func4 rfl (by kernel_rfl) ?_
 unfold Zer at hF
 refine AWP.seq (AWP.rg [] [(0,(slc 1 Zz v)),(1,(slc 10 Za a)),(6,(.ptr 0 0)),(7,(.ptr 1 0))] [.cells (Ze c),.cells (Zc b)] (AWP.seq ?_))
 obtain⟨z,b9,hF⟩:=bindb hF
 refine AWP.rg [(1,.call Tryz.func5 [] (Zu8 v z b9))] [(1,(slc 10 Za a)),(6,(.ptr 0 0)),(7,(.ptr 1 0)),(9,(.ptr 2 0))] [.cells (Ze c),.cells (Zc b),.cells (Zi z)] (AWP.seq (AWP.seq (AWP.rg0 [] [(1,(slc 10 Za a)),(6,(.ptr 0 0)),(7,(.ptr 1 0)),(9,(.ptr 2 0)),(10,(i64 (0:Int)))] ?_)))
 obtain⟨a0,c0,hF⟩:=bindb hF
 refine AWP.mid (fun e st H=>(e=.normal∧∃ w,a0=(.inl w)∧st=[(1,(slc 10 Za a)),(6,(.ptr 0 0)),(7,(.ptr 1 0))]∧H=[.cells (Ze c),.cells (Zc b),.cells (Zi w)])∨(e=.ret∧∃ r,a0=(.inr r)∧Zky r e st H)) ?_ ?_
 ·clear hF
  refine AWP.kp [1,6,7,9,10] 3 ?_
  refine AWP.bround (fun n st H=>∃ o,∃ g,Zbc b n o g=some a0∧st=[(1,(slc 10 Za a)),(6,(.ptr 0 0)),(7,(.ptr 1 0)),(9,(.ptr 2 0)),(10,(i64 g))]∧H=[.cells (Ze c),.cells (Zc b),.cells (Zi o)]) fuel ⟨z,(0:Int),c0,by kernel_rfl,by kernel_rfl⟩ ?_
  rintro a1 st H ⟨o,g,hF,rfl,rfl⟩
  cases a1 with
  | zero=>exact noneb hF
  | succ a1=>
   rw [Zbc] at hF
   refine AWP.seq (AWP.seq (AWP.rg0 [] [(1,(slc 10 Za a)),(6,(.ptr 0 0)),(7,(.ptr 1 0)),(9,(.ptr 2 0)),(10,(i64 g)),(18,(vb (decide (g<(3:Int)))))] ?_))
   refine AWP.cif hF (fun c1 hF=>?_) (fun c1 hF=>?_)
   ·refine AWP.skip (AWP.seq (AWP.block (AWP.seq ?_)))
    obtain⟨d,c2,hF⟩:=bindb hF
    refine AWP.rg [(1,.call Tryz.func12 [] (Zjq o (4:Int) true d c2))] [(1,(slc 10 Za a)),(6,(.ptr 0 0)),(7,(.ptr 1 0)),(9,(.ptr 2 0)),(10,(i64 g)),(11,(slc 10 Za d.1))] [.cells (Ze c),.cells (Zc b),.cells (Zi d.2)] (AWP.seq ?_)
    obtain⟨f,c3,hF⟩:=bindb hF
    refine AWP.rg [(2,.call Tryz.func13 [] (Zns d.2 d.1 f c3))] [(1,(slc 10 Za a)),(6,(.ptr 0 0)),(7,(.ptr 1 0)),(9,(.ptr 2 0)),(10,(i64 g)),(11,(slc 10 Za d.1)),(12,(.ptr 3 0))] [.cells (Ze c),.cells (Zc b),.cells (Zi f.2),.cells (Ze f.1)] (AWP.seq ?_)
    obtain⟨l,c4,hF⟩:=bindb hF
    refine AWP.rg [(2,.call Tryz.func14 [] (Zmd d.1 f.1 l c4))] [(1,(slc 10 Za a)),(6,(.ptr 0 0)),(7,(.ptr 1 0)),(9,(.ptr 2 0)),(10,(i64 g)),(11,(slc 10 Za d.1)),(12,(.ptr 3 0)),(13,(.ptr 4 0))] [.cells (Ze c),.cells (Zc b),.cells (Zi f.2),.cells (Ze f.1),.cells (Zc l.1)] (AWP.seq ?_)
    obtain⟨a2,a3,hF⟩:=bindb hF
    obtain⟨c5,p,hF⟩:=bindb hF
    replace p:=someb p
    obtain⟨e1,a8,hF⟩:=bindb hF
    obtain⟨c6,q,hF⟩:=bindb hF
    replace q:=someb q
    obtain⟨a4,a5,hF⟩:=bindb hF
    refine AWP.to [(1,(slc 10 Za a)),(6,(.ptr 0 0)),(7,(.ptr 1 0)),(9,(.ptr 2 0)),(10,(i64 g)),(55,(vb a4.1))] [.cells (Ze c),.cells (Zc b),.cells (Zi a4.2),.cells (Ze f.1),.cells (Zc l.1)] ?_ ?_
    ·cases c5 with
     | false=>
      have i:=ifF a8 rfl
      obtain⟨m,a9,i⟩:=bindb i
      obtain⟨s,b0,i⟩:=bindb i
      obtain⟨x,b1,i⟩:=bindb i
      obtain⟨b2,b3,i⟩:=bindb i
      replace i:=someb i
      subst i
      cases c6 with
      | false=>
       have k:=ifF a5 rfl
       obtain⟨b4,c7,k⟩:=bindb k
       obtain⟨c8,c9,k⟩:=bindb k
       replace k:=someb k
       subst k
       exact AWP.drT [(3,.call Tryz.func15 [] (Zdl d.1 f.1 l.1 a2 a3)),(5,.bool p),(8,.call Tryz.func16 [] (Zg9 f.2 m a9)),(10,.call Tryz.func18 [] (Z6 m.2 (1048576:Int) s b0)),(12,.call Tryz.func17 [] (Zim (IntKind.wrap .u64 s.1) x b1)),(13,.call Tryz.func15 [] (Zdl d.1 m.1 x b2 b3)),(16,.bool q),(18,.call Tryz.func6 [] (Zpb s.2 (3:Int) b4 c7)),(21,.call Tryz.func15 [] (Zdl b4.1 f.1 b c8 c9))] 24 [] [8,10,12,13,16,18] []
      | true=>
       have d0:=someb (ifT a5 rfl)
       subst d0
       exact AWP.drT [(3,.call Tryz.func15 [] (Zdl d.1 f.1 l.1 a2 a3)),(5,.bool p),(8,.call Tryz.func16 [] (Zg9 f.2 m a9)),(10,.call Tryz.func18 [] (Z6 m.2 (1048576:Int) s b0)),(12,.call Tryz.func17 [] (Zim (IntKind.wrap .u64 s.1) x b1)),(13,.call Tryz.func15 [] (Zdl d.1 m.1 x b2 b3)),(16,.bool q)] 24 [] [8,10] []
     | true=>
      have d1:=someb (ifT a8 rfl)
      subst d1
      subst q
      have d2:=someb (ifT a5 rfl)
      subst d2
      exact AWP.drT [(3,.call Tryz.func15 [] (Zdl d.1 f.1 l.1 a2 a3)),(5,.bool p)] 24 [] [] []
    refine AWP.cif hF (fun d3 hF=>?_) (fun d3 hF=>?_)
    ·refine AWP.seq (AWP.rg0 [] [(8,(vb false))] (AWP.ret ?_))
     exact LeQ.of (.inr ⟨rfl,false,(someb hF).symm,(FnQ.f0 0 (.inr rfl))⟩)
    ·refine AWP.skip (AWP.rg0 [] [(1,(slc 10 Za a)),(6,(.ptr 0 0)),(7,(.ptr 1 0)),(9,(.ptr 2 0)),(10,(i64 (ZI (g + (1:Int)))))] (LeQ.start (LeQ.pk [1,6,7,9,10] 3 ?_)))
     exact⟨a1,Nat.lt_succ_self _,a4.2,(ZI (g + (1:Int))),hF,by kernel_rfl,by kernel_rfl⟩
   ·refine AWP.exit (LeQ.start (LeQ.pk [1,6,7] 3 ?_))
    exact(.inl ⟨rfl,o,(someb hF).symm,by kernel_rfl,by kernel_rfl⟩)
 ·rintro _ _ _ (⟨rfl,w,rfl,rfl,rfl⟩ | ⟨rfl,e2,rfl,hq⟩)
  ·refine AWP.seq ?_
   obtain⟨a6,a7,hF⟩:=bindb hF
   obtain⟨d4,t,hF⟩:=bindb hF
   replace t:=someb t
   obtain⟨d5,b5,hF⟩:=bindb hF
   refine AWP.to [(8,(vb d5))] [.cells (Ze c),.cells (Zc b),.cells (Zi w)] ?_ ?_
   ·cases d4 with
    | false=>
     have j:=ifF b5 rfl
     obtain⟨b6,b7,j⟩:=bindb j
     obtain⟨d6,y,j⟩:=bindb j
     replace y:=someb y
     obtain⟨e3,b8,j⟩:=bindb j
     replace j:=someb j
     subst j
     cases d6 with
     | false=>
      have d7:=someb (ifF b8 rfl)
      subst d7
      exact AWP.rgT [(1,.call Tryz.func19 [] (Zhz a a6 a7)),(2,.bool t),(6,.call Tryz.func15 [] (Zdl a c b b6 b7)),(7,.bool y)]
     | true=>
      have u:=ifT b8 rfl
      obtain⟨d8,d9,u⟩:=bindb u
      replace u:=someb u
      subst u
      exact AWP.rgT [(1,.call Tryz.func19 [] (Zhz a a6 a7)),(2,.bool t),(6,.call Tryz.func15 [] (Zdl a c b b6 b7)),(7,.bool y),(8,.call Tryz.func9 [] (Zsl d8 d9))]
    | true=>
     have e0:=someb (ifT b5 rfl)
     subst e0
     exact AWP.rgT [(1,.call Tryz.func19 [] (Zhz a a6 a7)),(2,.bool t)]
   refine AWP.ret ?_
   have hr:=someb hF
   subst hr
   exact(FnQ.f0 0 (.inr rfl))
  ·have hr:=someb hF
   subst hr
   exact hq
end Go.AM
set_option maxRecDepth 100000
namespace Go.AM
open Go
def Ok {α:Type} (x:Option α) (p:α→Prop):Prop:=∃ r,x=some r∧p r
theorem Ok.bind {α γ:Type} {x:Option α} {p:α→Prop} {f:α→Option γ} {q:γ→Prop} (h:Ok x p) (k:∀ v,p v→Ok (f v) q):Ok (x.bind f) q:=by
 obtain⟨v,rfl,hv⟩:=h
 exact k v hv
theorem Ok.ret {α:Type} {r:α} {p:α→Prop} (h:p r):Ok (some r) p:=⟨r,rfl,h⟩
theorem Ok.chk {α:Type} {c:Prop} [Decidable c] {x:Option α} {p:α→Prop} (hc:c) (h:Ok x p):Ok (if c then x else none) p:=by rw [if_pos hc]; exact h
theorem Ok.ite {α:Type} {c:Prop} [Decidable c] {x y:Option α} {p:α→Prop} (h1:c→Ok x p) (h2:¬ c→Ok y p):Ok (if c then x else y) p:=by
 split
 ·exact h1 (by assumption)
 ·exact h2 (by assumption)
theorem Ok.lift {α γ:Type} {b:α} {f:α→Option γ} {q:γ→Prop} (h:Ok (f b) q):Ok ((Option.some b).bind f) q:=h
theorem Ok.mono {α:Type} {x:Option α} {p q:α→Prop} (h:Ok x p) (k:∀ v,p v→q v):Ok x q:=by
 obtain⟨v,h1,h2⟩:=h
 exact⟨v,h1,k v h2⟩
theorem Ok.get {α:Type} {x:Option α} {p:α→Prop} (h:Ok x p) {r:α} (e:x=some r):p r:=by
 obtain⟨v,h1,h2⟩:=h
 rw [h1] at e; cases e; exact h2
theorem Ok.eq {α:Type} {x:Option α} {r:α} (h:Ok x (·=r)):x=some r:=by
 obtain⟨v,h1,rfl⟩:=h; exact h1
theorem Ok.idx {α:Type} {l:List α} {i:Int} {p:α→Prop} (h0:0≤i) (h1:i<l.length) (h:∀ x∈l,p x):Ok (idx l i) p:=by
 have hi:i.toNat<l.length:=by omega
 exact⟨l[i.toNat],by simp [AM.idx,h0,hi],h _ (List.getElem_mem hi)⟩
theorem Zal {α:Type} {l:List α} {i:Nat} (h:i<l.length):AM.idx l (i:Int)=some l[i]:=by simp [AM.idx,h]
theorem wrap_u (k:IntKind) (b:Nat) (hs:k.signed=false) (hb:k.bits=b) (x:Int):k.wrap x=x % (2 ^ b:Int):=by
 subst hb; simp [IntKind.wrap,hs]
theorem wi64 {x:Int} (h0:-9223372036854775808≤x) (h1:x<9223372036854775808):IntKind.wrap .i64 x=x:=by
 simp only [IntKind.wrap,IntKind.bits,IntKind.signed]
 simp
 omega
theorem wu64 {x:Int} (h0:0≤x) (h1:x<18446744073709551616):IntKind.wrap .u64 x=x:=by
 simp only [IntKind.wrap,IntKind.bits,IntKind.signed]
 simp
 omega
theorem wu32 {x:Int} (h0:0≤x) (h1:x<4294967296):IntKind.wrap .u32 x=x:=by
 simp only [IntKind.wrap,IntKind.bits,IntKind.signed]
 simp
 omega
theorem Zgs (x:Int):0≤IntKind.wrap .u32 x∧IntKind.wrap .u32 x<4294967296:=by
 simp only [IntKind.wrap,IntKind.bits,IntKind.signed]
 simp
 omega
theorem Zr1 (x:Int):0≤IntKind.wrap .u16 x∧IntKind.wrap .u16 x<65536:=by
 simp only [IntKind.wrap,IntKind.bits,IntKind.signed]
 simp
 omega
theorem Zx1 (x:Int):0≤IntKind.wrap .u64 x∧IntKind.wrap .u64 x<18446744073709551616:=by
 simp only [IntKind.wrap,IntKind.bits,IntKind.signed]
 simp
 omega
theorem Zzk {k:Nat} (h:k<64):bShl .u64 1 (k:Int)=(2 ^ k:Nat):=by
 have h2:(2:Nat) ^ k<2 ^ 64:=Nat.pow_lt_pow_right (by omega) h
 unfold bShl
 have e:((1:Int) * 2 ^ min (k:Int).toNat (IntKind.bits .u64))=((2 ^ k:Nat):Int):=by
  rw [show IntKind.bits .u64=64 from rfl,Int.toNat_natCast,Nat.min_eq_left (by omega)]; simp
 have h3:((2 ^ k:Nat):Int)<18446744073709551616:=Int.ofNat_lt.2 h2
 rw [e]
 exact wu64 (Int.natCast_nonneg _) h3
structure TOk (t:Zg):Prop where
 h0:0≤t.f_i
 h1:t.f_i≤t.f_l.length
 h2:(t.f_l.length:Int)<9223372036854775808
theorem New_ok {l:List Int} (h:(l.length:Int)<9223372036854775808):Ok (Zi7 l) TOk:=Ok.ret ⟨Int.le_refl 0,by simp,h⟩
theorem Mod_ok {x n:Int} (h1:1≤n) (h2:n<9223372036854775808):Ok (Zg2 x n) fun v=>0≤v∧v<n:=by
 unfold Zg2
 have hn:IntKind.wrap .u64 n=n:=wu64 (by omega) (by omega)
 rw [hn]
 have hx:=Zx1 x
 have h3:0≤Int.tmod (IntKind.wrap .u64 x) n:=Int.tmod_nonneg _ hx.1
 have h4:Int.tmod (IntKind.wrap .u64 x) n<n:=Int.tmod_lt_of_pos _ (by omega)
 refine Ok.chk (by omega) (Ok.ret ?_)
 rw [wi64 (by omega) (by omega)]
 exact⟨h3,h4⟩
theorem Z0n {t:Zg} (ht:TOk t) (n:Int) (h2:n<9223372036854775808):Ok (Zu t n) fun r=>(0≤r.1∧(r.1<n∨r.1=0))∧TOk r.2:=by
 unfold Zu
 refine Ok.lift (Ok.ite (fun hc=>Ok.ret ⟨⟨by simp,.inr rfl⟩,ht⟩) fun hc=>?_)
 simp only [Bool.or_eq_true,decide_eq_true_eq] at hc
 have hc1:¬ n≤1:=fun h=>hc (.inl h)
 have hc2:¬ t.f_i ≥ t.f_l.length:=fun h=>hc (.inr h)
 have h0:=ht.h0
 have h1:=ht.h2
 have e1:IntKind.wrap .i64 (t.f_i + 1)=t.f_i + 1:=wi64 (by omega) (by omega)
 rw [e1]
 have e2:IntKind.wrap .i64 (t.f_i + 1 - 1)=t.f_i:=by rw [Int.add_sub_cancel]; exact wi64 (by omega) (by omega)
 rw [e2]
 refine Ok.bind (Ok.idx (p:=fun _=>True) h0 (by omega) fun _ _=>trivial) fun x _=>?_
 refine Ok.bind (Mod_ok (by omega) h2) fun v hv=>Ok.ret ⟨⟨hv.1,.inl hv.2⟩,?_⟩
 exact⟨by show 0≤t.f_i + 1; omega,by show t.f_i + 1≤t.f_l.length; omega,h1⟩
theorem Zds {t:Zg} (ht:TOk t) (n:Int) (h1:1≤n) (h2:n<9223372036854775808):Ok (Zu t n) fun r=>(0≤r.1∧r.1<n)∧TOk r.2:=
 (Z0n ht n h2).mono fun r ⟨⟨h3,h4⟩,h5⟩=>⟨⟨h3,by omega⟩,h5⟩
def full:Arr5 Zb:=⟨⟨0,4294967295⟩,⟨0,4294967295⟩,⟨0,255⟩,⟨0,65535⟩,⟨0,65535⟩⟩
theorem Z0o:Zh5=some full:=by kernel_rfl
structure ROk (top:Int) (r:Zb):Prop where
 h0:0≤r.Lo
 h1:r.Lo≤r.Hi
 h2:r.Hi≤top
structure RIn (r:Zb):Prop where
 h0:0≤r.Lo
 h1:r.Lo<4294967296
 h2:0≤r.Hi
 h3:r.Hi<4294967296
theorem ROk.rin {top:Int} {r:Zb} (h:ROk top r) (ht:top<4294967296):RIn r:=⟨h.h0,by have:=h.h1; have:=h.h2; omega,by have:=h.h0; have:=h.h1; omega,by have:=h.h2; omega⟩
structure BOk (b:Arr5 Zb):Prop where
 h0:ROk 4294967295 b.x0
 h1:ROk 4294967295 b.x1
 h2:ROk 255 b.x2
 h3:ROk 65535 b.x3
 h4:ROk 65535 b.x4
structure BIn (b:Arr5 Zb):Prop where
 h0:RIn b.x0
 h1:RIn b.x1
 h2:RIn b.x2
 h3:RIn b.x3
 h4:RIn b.x4
theorem BOk.bin {b:Arr5 Zb} (h:BOk b):BIn b:=⟨h.h0.rin (by omega),h.h1.rin (by omega),h.h2.rin (by omega),h.h3.rin (by omega),h.h4.rin (by omega)⟩
theorem Zw8:BOk full:=⟨⟨by decide,by decide,by decide⟩,⟨by decide,by decide,by decide⟩,⟨by decide,by decide,by decide⟩,⟨by decide,by decide,by decide⟩,⟨by decide,by decide,by decide⟩⟩
def topOf (i:Int):Int:=if i=0 then 4294967295 else if i=1 then 4294967295 else if i=2 then 255 else 65535
theorem Top_eq (f:Int) (h0:0≤f) (h1:f<5):Zdm f=some (topOf f):=by
 have hk:f=0∨f=1∨f=2∨f=3∨f=4:=by omega
 rcases hk with rfl | rfl | rfl | rfl | rfl <;> rfl
theorem fuel6:fuel=1180591620717411303418 + 6:=by kernel_rfl
theorem Zlq {t:Zg} (ht:TOk t) {top:Int} (h0:0≤top) (h1:top<4294967296):Ok (Zb9 t top) fun r=>(0≤r.1∧r.1≤top)∧TOk r.2:=by
 unfold Zb9
 refine Ok.bind (Zds ht 17 (by omega) (by omega)) fun r ⟨⟨h2,h3⟩,h4⟩=>?_
 have hw:=Zgs (Int.tdiv top 2)
 have hw2:=Zgs (top - 1)
 refine Ok.bind (Ok.idx (p:=fun x=>0≤x) h2 (by simpa using h3) fun x hx=>?_) fun x hx=>Ok.ret ⟨⟨?_,?_⟩,h4⟩
 ·simp only [List.mem_cons,List.not_mem_nil,or_false] at hx
  omega
 ·show 0≤iMin x top
  unfold iMin; split <;> omega
 ·show iMin x top≤top
  unfold iMin; split <;> omega
theorem Zvi {t:Zg} (ht:TOk t) {top:Int} (h0:0≤top) (h1:top<4294967296):Ok (Zdz t top) fun r=>ROk top r.1∧TOk r.2:=by
 unfold Zdz
 refine Ok.bind (Zlq ht h0 h1) fun r ⟨⟨h2,h3⟩,h4⟩=>Ok.bind (Zlq h4 h0 h1) fun s ⟨⟨h5,h6⟩,h7⟩=>Ok.ret ⟨⟨?_,?_,?_⟩,h7⟩
 ·show 0≤iMin r.1 s.1
  unfold iMin; split <;> omega
 ·show iMin r.1 s.1≤iMax r.1 s.1
  unfold iMin iMax; split <;> split <;> omega
 ·show iMax r.1 s.1≤top
  unfold iMax; split <;> omega
def subnets:List Zbd:=[⟨167772160,24⟩,⟨167772416,24⟩,⟨167772672,25⟩,⟨167772800,26⟩,⟨2886729728,16⟩,⟨3232237321,32⟩]
theorem Ztt {x:Int}:Ok (Zfc x) fun p=>p∈subnets:=by
 unfold Zfc
 refine Ok.bind (Mod_ok (by omega) (by omega)) fun r ⟨h0,h1⟩=>?_
 exact Ok.bind (Ok.idx (p:=fun p=>p∈subnets) h0 (by simpa using h1) fun x hx=>hx) fun x hx=>Ok.ret hx
theorem Of_ok {p:Zbd} (hp:p∈subnets):Ok (Zho p) fun r=>ROk 4294967295 r.1:=by
 simp only [subnets,List.mem_cons,List.not_mem_nil,or_false] at hp
 rcases hp with rfl | rfl | rfl | rfl | rfl | rfl
 ·exact⟨(⟨167772160,167772415⟩,true),by kernel_rfl,by decide,by decide,by decide⟩
 ·exact⟨(⟨167772416,167772671⟩,true),by kernel_rfl,by decide,by decide,by decide⟩
 ·exact⟨(⟨167772672,167772799⟩,true),by kernel_rfl,by decide,by decide,by decide⟩
 ·exact⟨(⟨167772800,167772863⟩,true),by kernel_rfl,by decide,by decide,by decide⟩
 ·exact⟨(⟨2886729728,2886795263⟩,true),by kernel_rfl,by decide,by decide,by decide⟩
 ·exact⟨(⟨3232237321,3232237321⟩,true),by kernel_rfl,by decide,by decide,by decide⟩
theorem Zmg {t:Zg} (ht:TOk t):Ok (Zb8 t) fun r=>(0≤r.1∧r.1≤4294967295)∧TOk r.2:=by
 unfold Zb8
 refine Ok.bind (Zds ht 5 (by omega) (by omega)) fun r ⟨⟨h2,h3⟩,h4⟩=>Ok.ite (fun _=>?_) fun _=>?_
 ·refine Ok.bind (Zds h4 6 (by omega) (by omega)) fun r ⟨⟨h2,h3⟩,h4⟩=>?_
  refine Ok.bind (Ok.idx (p:=fun x=>0≤x∧x≤4294967295) h2 (by simpa using h3) fun x hx=>?_) fun x hx=>Ok.ret ⟨hx,h4⟩
  simp only [List.mem_cons,List.not_mem_nil,or_false] at hx
  omega
 ·refine Ok.bind (Zds h4 6 (by omega) (by omega)) fun r ⟨⟨h2,h3⟩,h4⟩=>Ok.bind Ztt fun p hp=>Ok.bind (Of_ok hp) fun q hq=>?_
  refine Ok.bind (Zds h4 5 (by omega) (by omega)) fun r ⟨⟨h2,h3⟩,h4⟩=>?_
  refine Ok.bind (Ok.idx (p:=fun x=>0≤x∧x≤4294967295) h2 (by simpa using h3) fun x hx=>?_) fun x hx=>Ok.ret ⟨hx,h4⟩
  have g0:=hq.h0
  have g1:=hq.h1
  have g2:=hq.h2
  have w1:=Zgs (q.1.Lo + 5)
  have w2:=Zgs (q.1.Hi + 1)
  have w3:=Zgs (q.1.Lo - 1)
  simp only [List.mem_cons,List.not_mem_nil,or_false] at hx
  omega
theorem Zn1 {t:Zg} (ht:TOk t):Ok (Zc0 t) fun r=>ROk 4294967295 r.1∧TOk r.2:=by
 unfold Zc0
 refine Ok.bind (Zds ht 4 (by omega) (by omega)) fun r ⟨⟨h2,h3⟩,h4⟩=>Ok.ite (fun _=>?_) fun _=>Ok.ite (fun _=>?_) fun _=>Ok.ite (fun _=>?_) fun _=>?_
 ·exact Ok.bind (Zds h4 6 (by omega) (by omega)) fun r ⟨⟨h2,h3⟩,h4⟩=>Ok.bind Ztt fun p hp=>Ok.bind (Of_ok hp) fun q hq=>Ok.ret ⟨hq,h4⟩
 ·refine Ok.bind (Zmg h4) fun a ⟨⟨a1,a2⟩,a3⟩=>Ok.bind (Zmg a3) fun b ⟨⟨b1,b2⟩,b3⟩=>Ok.ret ⟨⟨?_,?_,?_⟩,b3⟩
  ·show 0≤iMin a.1 b.1
   unfold iMin; split <;> omega
  ·show iMin a.1 b.1≤iMax a.1 b.1
   unfold iMin iMax; split <;> split <;> omega
  ·show iMax a.1 b.1≤4294967295
   unfold iMax; split <;> omega
 ·exact Ok.bind (Zmg h4) fun a ⟨⟨a1,a2⟩,a3⟩=>Ok.ret ⟨⟨a1,Int.le_refl _,a2⟩,a3⟩
 ·exact Ok.ret ⟨⟨Int.le_refl _,(by decide:(0:Int)≤4294967295),Int.le_refl _⟩,h4⟩
theorem Ztu:∀(n:Nat) (t:Zg) (b:Arr5 Zb) (i:Int),TOk t→BOk b→i≤n→0≤i→i<100→Ok (Zca (n + 1) t b i) fun r=>TOk r.1∧BOk r.2
 | 0,t,b,i,ht,hb,hi,h0,h9=>by
  rw [Zca]
  exact Ok.ite (fun hc=>absurd (of_decide_eq_true hc) (by omega)) fun _=>Ok.ret ⟨ht,hb⟩
 | n + 1,t,b,i,ht,hb,hi,h0,h9=>by
  rw [Zca]
  refine Ok.ite (fun hc=>?_) fun _=>Ok.ret ⟨ht,hb⟩
  have hc:=of_decide_eq_true hc
  refine Ok.bind (p:=fun r=>TOk r.1∧BOk r.2) ?_ fun r ⟨h1,h2⟩=>?_
  ·refine Ok.bind (Zds ht 5 (by omega) (by omega)) fun r ⟨_,h4⟩=>Ok.ite (fun _=>?_) fun _=>Ok.ite (fun _=>?_) fun _=>Ok.ite (fun _=>?_) fun _=>Ok.ite (fun _=>?_) fun _=>?_
   ·exact Ok.bind (Zn1 h4) fun q ⟨g1,g2⟩=>Ok.ret ⟨g2,⟨g1,hb.h1,hb.h2,hb.h3,hb.h4⟩⟩
   ·exact Ok.bind (Zn1 h4) fun q ⟨g1,g2⟩=>Ok.ret ⟨g2,⟨hb.h0,g1,hb.h2,hb.h3,hb.h4⟩⟩
   ·refine Ok.bind (Zds h4 6 (by omega) (by omega)) fun r ⟨⟨h2,h3⟩,h4⟩=>?_
    refine Ok.bind (Ok.idx (p:=fun x=>0≤x∧x≤255) h2 (by simpa using h3) fun x hx=>?_) fun x hx=>Ok.ret ⟨h4,⟨hb.h0,hb.h1,⟨hx.1,Int.le_refl _,hx.2⟩,hb.h3,hb.h4⟩⟩
    simp only [List.mem_cons,List.not_mem_nil,or_false] at hx
    omega
   ·exact Ok.bind (Zvi h4 (by omega) (by omega)) fun q ⟨g1,g2⟩=>Ok.ret ⟨g2,⟨hb.h0,hb.h1,hb.h2,g1,hb.h4⟩⟩
   ·exact Ok.bind (Zvi h4 (by omega) (by omega)) fun q ⟨g1,g2⟩=>Ok.ret ⟨g2,⟨hb.h0,hb.h1,hb.h2,hb.h3,g1⟩⟩
  ·obtain⟨r1,r2⟩:=r
   show Ok (Zca (n + 1) r1 r2 (IntKind.wrap .i64 (i - 1))) _
   rw [wi64 (by omega) (by omega)]
   exact Ztu n r1 r2 (i - 1) h1 h2 (by omega) (by omega) (by omega)
theorem Box_ok {t:Zg} (ht:TOk t):Ok (Zfp t) fun r=>BOk r.1∧TOk r.2:=by
 unfold Zfp
 rw [Z0o]
 refine Ok.lift (Ok.bind (Zds ht 3 (by omega) (by omega)) fun r ⟨⟨h2,h3⟩,h4⟩=>?_)
 have e:IntKind.wrap .i64 (1 + r.1)=1 + r.1:=wi64 (by omega) (by omega)
 rw [e]
 refine Ok.bind (Ztu 1180591620717411303423 r.2 full (1 + r.1) h4 Zw8 (by omega) (by omega) (by omega)) fun q ⟨g1,g2⟩=>?_
 obtain⟨q1,q2⟩:=q
 exact Ok.ret ⟨g2,g1⟩
theorem five {k:Int} (h0:0≤k) (h1:k<5):k=0∨k=1∨k=2∨k=3∨k=4:=by omega
theorem wnext {k:Int} (h0:0≤k) (h1:k<1000000):IntKind.wrap .i64 (k + (1:Int))=k + 1:=wi64 (by omega) (by omega)
def sideBad (top:Int) (r:Zb):Bool:=decide (r.Lo > r.Hi) || decide (r.Hi > top)
theorem Zvj {k:Int} (h0:0≤k) (h1:k<5):Arr5.get Zd6 k=topOf k:=by
 rcases five h0 h1 with rfl | rfl | rfl | rfl | rfl <;> rfl
theorem vstep (b:Arr5 Zb) (n:Nat) {k:Int} (h0:0≤k) (h1:k<5):Zat b (n + 1) k=if sideBad (topOf k) (b.get k)=true then some (.inr false) else Zat b n (k + 1):=by
 rw [Zat,if_pos (decide_eq_true h1),if_pos ⟨h0,h1⟩,if_pos ⟨h0,h1⟩,Zvj h0 h1,wnext h0 (by omega)]
 unfold sideBad
 cases decide ((b.get k).Lo > (b.get k).Hi) <;> simp
theorem rvstep (b:Arr5 Zb) (n:Nat) {k:Int} (h0:0≤k) (h1:k<5):Zab b (n + 1) k=if sideBad (topOf k) (b.get k)=true then some (.inr false) else Zab b n (k + 1):=by
 rw [Zab,if_pos (decide_eq_true h1),if_pos ⟨h0,h1⟩,if_pos ⟨h0,h1⟩,if_pos ⟨h0,h1⟩,Top_eq k h0 h1,wnext h0 (by omega)]
 unfold sideBad
 cases decide ((b.get k).Lo > (b.get k).Hi) <;> simp
def vB (b:Arr5 Zb):Bool:=
 if sideBad 4294967295 b.x0=true then false else if sideBad 4294967295 b.x1=true then false else if sideBad 255 b.x2=true then false else if sideBad 65535 b.x3=true then false else if sideBad 65535 b.x4=true then false else true
theorem Zzl (b:Arr5 Zb):Zih b=some (vB b):=by
 unfold Zih
 rw [fuel6]
 generalize (1180591620717411303418:Nat)=m
 have s0:Zat b (m + 6) 0=if sideBad 4294967295 b.x0=true then some (.inr false) else Zat b (m + 5) 1:=vstep b (m + 5) (by omega) (by omega)
 have s1:Zat b (m + 5) 1=if sideBad 4294967295 b.x1=true then some (.inr false) else Zat b (m + 4) 2:=vstep b (m + 4) (by omega) (by omega)
 have s2:Zat b (m + 4) 2=if sideBad 255 b.x2=true then some (.inr false) else Zat b (m + 3) 3:=vstep b (m + 3) (by omega) (by omega)
 have s3:Zat b (m + 3) 3=if sideBad 65535 b.x3=true then some (.inr false) else Zat b (m + 2) 4:=vstep b (m + 2) (by omega) (by omega)
 have s4:Zat b (m + 2) 4=if sideBad 65535 b.x4=true then some (.inr false) else Zat b (m + 1) 5:=vstep b (m + 1) (by omega) (by omega)
 have s5:Zat b (m + 1) 5=some (.inl ()):=by rw [Zat]; rfl
 rw [s0,s1,s2,s3,s4,s5]
 unfold vB
 repeat' split
 all_goals first | rfl | (simp_all; done) | skip
theorem Ztv (b:Arr5 Zb):Zfd b=some (vB b):=by
 unfold Zfd
 rw [fuel6]
 generalize (1180591620717411303418:Nat)=m
 have s0:Zab b (m + 6) 0=if sideBad 4294967295 b.x0=true then some (.inr false) else Zab b (m + 5) 1:=rvstep b (m + 5) (by omega) (by omega)
 have s1:Zab b (m + 5) 1=if sideBad 4294967295 b.x1=true then some (.inr false) else Zab b (m + 4) 2:=rvstep b (m + 4) (by omega) (by omega)
 have s2:Zab b (m + 4) 2=if sideBad 255 b.x2=true then some (.inr false) else Zab b (m + 3) 3:=rvstep b (m + 3) (by omega) (by omega)
 have s3:Zab b (m + 3) 3=if sideBad 65535 b.x3=true then some (.inr false) else Zab b (m + 2) 4:=rvstep b (m + 2) (by omega) (by omega)
 have s4:Zab b (m + 2) 4=if sideBad 65535 b.x4=true then some (.inr false) else Zab b (m + 1) 5:=rvstep b (m + 1) (by omega) (by omega)
 have s5:Zab b (m + 1) 5=some (.inl ()):=by rw [Zab]; rfl
 rw [s0,s1,s2,s3,s4,s5]
 unfold vB
 repeat' split
 all_goals first | rfl | (simp_all; done) | skip
theorem vB_ok {b:Arr5 Zb} (hb:BIn b) (h:vB b=true):BOk b:=by
 unfold vB sideBad at h
 simp only [Bool.or_eq_true,decide_eq_true_eq] at h
 split at h; · cases h
 split at h; · cases h
 split at h; · cases h
 split at h; · cases h
 split at h; · cases h
 exact⟨⟨hb.h0.h0,by omega,by omega⟩,⟨hb.h1.h0,by omega,by omega⟩,⟨hb.h2.h0,by omega,by omega⟩,⟨hb.h3.h0,by omega,by omega⟩,⟨hb.h4.h0,by omega,by omega⟩⟩
theorem ok_vB {b:Arr5 Zb} (h:BOk b):vB b=true:=by
 obtain⟨⟨_,a1,a2⟩,⟨_,b1,b2⟩,⟨_,c1,c2⟩,⟨_,d1,d2⟩,⟨_,e1,e2⟩⟩:=h
 unfold vB sideBad
 simp only [Bool.or_eq_true,decide_eq_true_eq]
 rw [if_neg (by omega),if_neg (by omega),if_neg (by omega),if_neg (by omega),if_neg (by omega)]
theorem BIn.get {b:Arr5 Zb} (h:BIn b) (k:Int):RIn (b.get k):=by
 unfold Arr5.get
 split
 ·exact h.h0
 split
 ·exact h.h1
 split
 ·exact h.h2
 split
 ·exact h.h3
 ·exact h.h4
theorem BIn.set {b:Arr5 Zb} (h:BIn b) {r:Zb} (hr:RIn r) (k:Int):BIn (b.set k r):=by
 unfold Arr5.set
 split
 ·exact⟨hr,h.h1,h.h2,h.h3,h.h4⟩
 split
 ·exact⟨h.h0,hr,h.h2,h.h3,h.h4⟩
 split
 ·exact⟨h.h0,h.h1,hr,h.h3,h.h4⟩
 split
 ·exact⟨h.h0,h.h1,h.h2,hr,h.h4⟩
 ·exact⟨h.h0,h.h1,h.h2,h.h3,hr⟩
theorem BIn.setHi {b:Arr5 Zb} (h:BIn b) {v:Int} (h0:0≤v) (h1:v<4294967296) (k:Int):BIn (b.set k { (b.get k) with Hi:=v }):=by
 have hg:=h.get k
 generalize b.get k=r at hg ⊢
 exact BIn.set h (r:=⟨r.Lo,v⟩) (RIn.mk hg.h0 hg.h1 h0 h1) k
theorem BIn.setLo {b:Arr5 Zb} (h:BIn b) {v:Int} (h0:0≤v) (h1:v<4294967296) (k:Int):BIn (b.set k { (b.get k) with Lo:=v }):=by
 have hg:=h.get k
 generalize b.get k=r at hg ⊢
 exact BIn.set h (r:=⟨v,r.Hi⟩) (RIn.mk h0 h1 hg.h2 hg.h3) k
theorem Zwj {t:Zg} (ht:TOk t) {b:Arr5 Zb} (hb:BIn b):Ok (Zd4 t b) fun r=>BIn r.1∧TOk r.2:=by
 unfold Zd4
 refine Ok.bind (Zds ht 5 (by omega) (by omega)) fun r1 ⟨⟨h2,h3⟩,h4⟩=>?_
 refine Ok.bind (p:=fun o=>TOk o.1∧BIn o.2) ?_ fun o ⟨g1,g2⟩=>Ok.ret ⟨g2,g1⟩
 refine Ok.bind (Zds h4 3 (by omega) (by omega)) fun r20 ⟨_,h6⟩=>?_
 have hk:0≤r1.1∧r1.1<5:=⟨h2,h3⟩
 have hg:=hb.get r1.1
 refine Ok.ite (fun _=>?_) fun _=>Ok.ite (fun _=>?_) fun _=>?_
 ·refine Ok.chk hk (Ok.chk hk (Ok.chk hk (Ok.chk hk (Ok.ret ⟨h6,?_⟩))))
  exact(hb.setLo hg.h2 hg.h3 _).setHi hg.h0 hg.h1 _
 ·exact Ok.chk hk (Ok.ret ⟨h6,hb.setHi (by decide) (by decide) _⟩)
 ·exact Ok.chk hk (Ok.ret ⟨h6,hb.set ⟨by decide,by decide,by decide,by decide⟩ _⟩)
def GB (wild:Bool) (b:Arr5 Zb):Prop:=BIn b∧(wild=false→BOk b)
theorem Zpk (wild:Bool):∀(n:Nat) (t:Zg) (l:List (Arr5 Zb)) (i:Int),TOk t→(∀ x∈l,GB wild x)→i≤n→0≤i→i<100→(l.length:Int) + i<1000 →
  Ok (Zbu wild (n + 1) t l i) fun r=>TOk r.1∧(∀ x∈r.2,GB wild x)∧(r.2.length:Int)=l.length + i
 | 0,t,l,i,ht,hl,hi,h0,h9,hlen=>by
  rw [Zbu]
  exact Ok.ite (fun hc=>absurd (of_decide_eq_true hc) (by omega)) fun _=>Ok.ret ⟨ht,hl,by show (l.length:Int)=_; omega⟩
 | n + 1,t,l,i,ht,hl,hi,h0,h9,hlen=>by
  rw [Zbu]
  refine Ok.ite (fun hc=>?_) fun hc=>Ok.ret ⟨ht,hl,by simp at hc; show (l.length:Int)=_; omega⟩
  have hc:=of_decide_eq_true hc
  refine Ok.bind (p:=fun r=>TOk r.1∧(∀ x∈r.2,GB wild x)∧r.2.length=l.length + 1) ?_ fun r ⟨h1,h2,h3⟩=>?_
  ·refine Ok.bind (Box_ok ht) fun q ⟨g1,g2⟩=>?_
   refine Ok.bind (p:=fun o=>TOk o.1∧GB wild o.2) ?_ fun o ⟨k1,k2⟩=>?_
   ·refine Ok.lift ?_
    refine Ok.bind (p:=fun v=>TOk v.2∧(v.1=true→wild=true)) ?_ fun v ⟨k1,k2⟩=>?_
    ·refine Ok.ite (fun hw=>?_) fun _=>Ok.ret ⟨g2,fun h=>by cases h⟩
     exact Ok.bind (Zds g2 8 (by omega) (by omega)) fun r190 ⟨_,h6⟩=>Ok.ret ⟨h6,fun _=>hw⟩
    ·refine Ok.ite (fun hv=>?_) fun _=>Ok.ret ⟨k1,g1.bin,fun _=>g1⟩
     refine Ok.bind (Zwj k1 g1.bin) fun r196 ⟨m1,m2⟩=>Ok.ret ⟨m2,m1,fun hw=>?_⟩
     rw [k2 hv] at hw; cases hw
   ·obtain⟨o1,o2⟩:=o
    refine Ok.chk (by simp only [List.length_singleton]; unfold lim; omega) (Ok.ret ⟨k1,fun x hx=>?_,by simp⟩)
    rcases List.mem_append.1 hx with hx | hx
    ·exact hl x hx
    ·simp only [List.mem_singleton] at hx; subst hx; exact k2
  ·obtain⟨r1,r2⟩:=r
   simp only at h1 h2 h3
   show Ok (Zbu wild (n + 1) r1 r2 (IntKind.wrap .i64 (i - 1))) _
   rw [wi64 (by omega) (by omega)]
   refine(Zpk wild n r1 r2 (i - 1) h1 h2 (by omega) (by omega) (by omega) (by omega)).mono fun v ⟨e1,e2,e3⟩=>⟨e1,e2,?_⟩
   omega
theorem Zvk (wild:Bool) {t:Zg} (ht:TOk t) {n:Int} (h0:0≤n) (h1:n<90):Ok (Zd0 t n wild) fun r=>(∀ x∈r.1,GB wild x)∧(r.1.length:Int)≤n∧TOk r.2:=by
 unfold Zd0
 rw [wi64 (x:=n + 1) (by omega) (by omega)]
 refine Ok.bind (Zds ht (n + 1) (by omega) (by omega)) fun r ⟨⟨h2,h3⟩,h4⟩=>?_
 refine Ok.bind (Zpk wild 1180591620717411303423 r.2 [] r.1 h4 (by simp) (by omega) h2 (by omega) (by simp; omega)) fun q ⟨g1,g2,g3⟩=>?_
 obtain⟨q1,q2⟩:=q
 refine Ok.ret ⟨g2,?_,g1⟩
 simp at g3
 show (q2.length:Int)≤n
 omega
theorem Zms (m:Nat) (h:m≤1000000000000):∃ n,fuel=n + m + 1:=⟨fuel - m - 1,by unfold fuel; omega⟩
theorem Zn2 {r:Zb} (h:Zfy r):RIn r:=⟨h.1.1,h.1.2,h.2.1.1,h.2.1.2⟩
theorem Z1g {b:Arr5 Zb} (h:Zi5 b):BIn b:=⟨Zn2 h.1,Zn2 h.2.1,Zn2 h.2.2.1,Zn2 h.2.2.2.1,Zn2 h.2.2.2.2.1⟩
theorem Z0p {t:List Int} (h:Zpz t):(t.length:Int)<9223372036854775808:=by have:=h.1; omega
end Go.AM
set_option maxRecDepth 100000
namespace Go.AM
open Go
theorem Z0q {σ ρ:Type} {L:Nat→σ→Int→Option ρ} {I:σ→Prop} {q:ρ→Prop}
  (step:∀ n s (k:Int),0≤k→k<5→I s→(∀ s',I s'→Ok (L n s' (k + 1)) q)→Ok (L (n + 1) s k) q) (stop:∀ n s,I s→Ok (L (n + 1) s 5) q) (s:σ) (hs:I s):Ok (L fuel s 0) q:=by
 rw [fuel6]
 refine step _ _ 0 (by omega) (by omega) hs fun s hs=>?_
 refine step _ _ 1 (by omega) (by omega) hs fun s hs=>?_
 refine step _ _ 2 (by omega) (by omega) hs fun s hs=>?_
 refine step _ _ 3 (by omega) (by omega) hs fun s hs=>?_
 refine step _ _ 4 (by omega) (by omega) hs fun s hs=>?_
 exact stop _ _ hs
theorem wsucc {i:Nat} (h:i<1000000000001):IntKind.wrap .i64 ((i:Int) + (1:Int))=((i + 1:Nat):Int):=by
 rw [wi64 (by omega) (by omega)]; omega
def findI {α ρ:Type} (g:Nat→α→Option ρ):Nat→List α→Option ρ
 | _,[]=>none
 | i,x :: xs=>match g i x with
  | some r=>some r
  | none=>findI g (i + 1) xs
def orS {ρ:Type}:Option ρ→Unit ⊕ ρ
 | some r=>.inr r
 | none=>.inl ()
theorem Zlr {α ρ:Type} {L:Nat→Int→Option (Unit ⊕ ρ)} (l:List α) (g:Nat→α→Option ρ) (hl:l.length≤1000000000000)
  (step:∀ n (i:Nat) (h:i<l.length),L (n + 1) (i:Int)=match g i l[i] with
   | some r=>some (.inr r)
   | none=>L n ((i + 1:Nat):Int))
  (stop:∀ n,L (n + 1) (l.length:Int)=some (.inl ())):L fuel 0=some (orS (findI g 0 l)):=by
 have key:∀(m n i:Nat),i + m=l.length→L (n + m + 1) (i:Int)=some (orS (findI g i (l.drop i))):=by
  intro m
  induction m with
  | zero=>
   intro n i h
   have hi:i=l.length:=by omega
   subst hi
   rw [List.drop_length]
   exact stop _
  | succ m ih=>
   intro n i h
   have hi:i<l.length:=by omega
   rw [show n + (m + 1) + 1=(n + m + 1) + 1 by omega,step _ i hi,List.drop_eq_getElem_cons hi]
   simp only [findI]
   cases hg:g i l[i] with
   | some r=>rfl
   | none=>exact ih n (i + 1) (by omega)
 obtain⟨f,hf⟩:=Zms l.length hl
 rw [hf]
 exact key l.length f 0 (by omega)
def foldI {α σ:Type} (f:σ→Nat→α→σ):σ→Nat→List α→σ
 | s,_,[]=>s
 | s,i,x :: xs=>foldI f (f s i x) (i + 1) xs
theorem Zfu {α σ ρ:Type} {L:Nat→σ→Int→Option ρ} (l:List α) (f:σ→Nat→α→σ) (fin:σ→ρ) (I:Nat→σ→Prop) (hl:l.length≤1000000000000)
  (step:∀ n s (i:Nat) (h:i<l.length),I i s→L (n + 1) s (i:Int)=L n (f s i l[i]) ((i + 1:Nat):Int)∧I (i + 1) (f s i l[i]))
  (stop:∀ n s,I l.length s→L (n + 1) s (l.length:Int)=some (fin s)) (s:σ) (hs:I 0 s):L fuel s 0=some (fin (foldI f s 0 l))∧I l.length (foldI f s 0 l):=by
 have key:∀(m n i:Nat) (s:σ),I i s→i + m=l.length→L (n + m + 1) s (i:Int)=some (fin (foldI f s i (l.drop i)))∧I l.length (foldI f s i (l.drop i)):=by
  intro m
  induction m with
  | zero=>
   intro n i s hs h
   have hi:i=l.length:=by omega
   subst hi
   rw [List.drop_length]
   exact⟨stop _ _ hs,hs⟩
  | succ m ih=>
   intro n i s hs h
   have hi:i<l.length:=by omega
   obtain⟨h1,h2⟩:=step (n + m + 1) s i hi hs
   rw [show n + (m + 1) + 1=(n + m + 1) + 1 by omega,h1,List.drop_eq_getElem_cons hi]
   simp only [foldI]
   exact ih n (i + 1) _ h2 (by omega)
 obtain⟨g,hg⟩:=Zms l.length hl
 rw [hg]
 exact key l.length g 0 s hs (by omega)
theorem Zw9 {α σ ρ:Type} {L:Nat→σ→Int→Option ρ} (l:List α) (I:Nat→σ→Prop) {q:ρ→Prop} (hl:l.length≤1000000000000)
  (step:∀ n s (i:Nat),i<l.length→I i s→(∀ s',I (i + 1) s'→Ok (L n s' ((i + 1:Nat):Int)) q)→Ok (L (n + 1) s (i:Int)) q)
  (stop:∀ n s,I l.length s→Ok (L (n + 1) s (l.length:Int)) q) (s:σ) (hs:I 0 s):Ok (L fuel s 0) q:=by
 have key:∀(m n i:Nat) (s:σ),I i s→i + m=l.length→Ok (L (n + m + 1) s (i:Int)) q:=by
  intro m
  induction m with
  | zero=>
   intro n i s hs h
   have hi:i=l.length:=by omega
   subst hi
   exact stop _ _ hs
  | succ m ih=>
   intro n i s hs h
   rw [show n + (m + 1) + 1=(n + m + 1) + 1 by omega]
   exact step _ s i (by omega) hs fun s' hs'=>ih n (i + 1) s' hs' (by omega)
 obtain⟨g,hg⟩:=Zms l.length hl
 rw [hg]
 exact key l.length g 0 s hs (by omega)
theorem Zzm {σ ρ:Type} {L:Nat→σ→Int→Option ρ} (m:Nat) (I:Nat→σ→Prop) {q:ρ→Prop} (hm:m≤1000000000000)
  (step:∀ n s (i:Nat),i<m→I i s→(∀ s',I (i + 1) s'→Ok (L n s' ((i + 1:Nat):Int)) q)→Ok (L (n + 1) s (i:Int)) q)
  (stop:∀ n s,I m s→Ok (L (n + 1) s (m:Int)) q) (s:σ) (hs:I 0 s):Ok (L fuel s 0) q:=
 Zw9 (List.replicate m ()) I (by simpa using hm) (fun n s i h=>step n s i (by simpa using h)) (fun n s h=>by simp only [List.length_replicate] at h ⊢; exact stop n s h) s hs
theorem Zj9 {α β:Type} (g:α→β):∀(l:List α) (acc:List β) (i:Nat),foldI (fun s _ x=>s++[g x]) acc i l=acc++l.map g
 | [],acc,i=>by simp [foldI]
 | x :: xs,acc,i=>by simp only [foldI]; rw [Zj9 g xs]; simp
theorem Zr2 {α β:Type} (g:α→List β):∀(l:List α) (acc:List β) (i:Nat),foldI (fun s _ x=>s++g x) acc i l=acc++l.flatMap g
 | [],acc,i=>by simp [foldI]
 | x :: xs,acc,i=>by simp only [foldI]; rw [Zr2 g xs]; simp
end Go.AM
set_option maxRecDepth 100000
namespace Go.AM
open Go
instance decRg:DecidableEq Zb:=fun a b=>
 if h:a.Lo=b.Lo∧a.Hi=b.Hi then .isTrue (by cases a; cases b; obtain⟨h1,h2⟩:=h; simp only at h1 h2; rw [h1,h2]) else .isFalse fun e=>h (by rw [e]; exact⟨rfl,rfl⟩)
def inR (v:Int) (r:Zb):Bool:=decide (r.Lo≤v) && decide (v≤r.Hi)
def mB:List Zb→List Int→Bool
 | [],[]=>true
 | r :: b,v :: p=>inR v r && mB b p
 | _,_=>false
def mS (l:List (List Zb)) (p:List Int):Bool:=l.any (mB · p)
def atv (l:List (List Zb)) (v:Int):List (List Zb):=l.flatMap fun b=>match b with
 | r :: b'=>if inR v r then [b'] else []
 | []=>[]
def vP:List Int→List Int→Prop
 | [],[]=>True
 | t :: ts,v :: p=>0≤v∧v≤t∧vP ts p
 | _,_=>False
def vR:List Int→List Zb→Prop
 | [],[]=>True
 | t :: ts,r :: b=>0≤r.Lo∧r.Lo≤r.Hi∧r.Hi≤t∧vR ts b
 | _,_=>False
theorem Zhc (l:List (List Zb)) (v:Int) (p:List Int):mS l (v :: p)=mS (atv l v) p:=by
 induction l with
 | nil=>rfl
 | cons b l ih=>
  have e:mS (b :: l) (v :: p)=(mB b (v :: p) || mS l (v :: p)):=rfl
  rw [e,ih]
  cases b with
  | nil=>rfl
  | cons r b=>
   have e2:atv ((r :: b) :: l) v=(if inR v r then [b] else [])++atv l v:=rfl
   rw [e2]
   unfold mS
   rw [List.any_append]
   simp only [mB]
   cases inR v r <;> simp
theorem mS_app (a b:List (List Zb)) (p:List Int):mS (a++b) p=(mS a p || mS b p):=by unfold mS; rw [List.any_append]
theorem mS_nil (p:List Int):mS [] p=false:=rfl
theorem Z0r (a b:List (List Zb)) (v:Int):atv (a++b) v=atv a v++atv b v:=by unfold atv; rw [List.flatMap_append]
abbrev Cell:=Zb × List (List Zb)
def gp (y x:Cell):Prop:=y.1.Hi<x.1.Lo∧(y.1.Hi + 1=x.1.Lo→y.2 ≠ x.2)
def lk (c:List Cell) (v:Int):List (List Zb):=c.flatMap fun x=>if inR v x.1 then x.2 else []
def flt (c:List Cell):List (List Zb):=c.flatMap fun x=>x.2.map (x.1 :: ·)
structure Ord (t:Int) (c:List Cell):Prop where
 pw:c.Pairwise gp
 ok:∀ x∈c,0≤x.1.Lo∧x.1.Lo≤x.1.Hi∧x.1.Hi≤t∧x.2 ≠ []
def CF:List Int→List (List Zb)→Prop
 | [],l=>l=[]∨l=[[]]
 | t :: ts,l=>∃ c,l=flt c∧Ord t c∧∀ x∈c,CF ts x.2
theorem lk_app (a b:List Cell) (v:Int):lk (a++b) v=lk a v++lk b v:=by unfold lk; rw [List.flatMap_append]
theorem Zgf (x:Cell) (b:List Cell) (v:Int):lk (x :: b) v=(if inR v x.1 then x.2 else [])++lk b v:=rfl
theorem Zeg (a b:List Cell):flt (a++b)=flt a++flt b:=by unfold flt; rw [List.flatMap_append]
theorem Zdx (x:Cell) (b:List Cell):flt (x :: b)=x.2.map (x.1 :: ·)++flt b:=rfl
theorem Zxa (r:Zb) (v:Int):∀(l:List (List Zb)),atv (l.map (r :: ·)) v=if inR v r then l else []
 | []=>by simp [atv]
 | b :: l=>by
  have e:atv ((b :: l).map (r :: ·)) v=(if inR v r then [b] else [])++atv (l.map (r :: ·)) v:=rfl
  rw [e,Zxa r v l]
  split <;> rfl
theorem Ziv (c:List Cell) (v:Int):atv (flt c) v=lk c v:=by
 induction c with
 | nil=>rfl
 | cons x c ih=>rw [Zdx,Zgf,Z0r,Zxa,ih]
theorem Zd2 {v:Int} {r:Zb}:inR v r=true ↔ r.Lo≤v∧v≤r.Hi:=by unfold inR; simp
theorem Zn3 {c:List Cell} {v:Int} (h:∀ x∈c,¬ (x.1.Lo≤v∧v≤x.1.Hi)):lk c v=[]:=by
 induction c with
 | nil=>rfl
 | cons x c ih=>
  rw [Zgf,ih fun y hy=>h y (List.mem_cons_of_mem _ hy),if_neg (by rw [Zd2]; exact h x (List.mem_cons_self ..))]; rfl
theorem Ord.tail {t:Int} {x:Cell} {c:List Cell} (h:Ord t (x :: c)):Ord t c:=⟨(List.pairwise_cons.1 h.pw).2,fun y hy=>h.ok y (List.mem_cons_of_mem _ hy)⟩
theorem lk_mem {t:Int}:∀ {c:List Cell},Ord t c→∀ {x:Cell},x∈c→∀ {v:Int},x.1.Lo≤v→v≤x.1.Hi→lk c v=x.2
 | [],_,_,h,_,_,_=>(by cases h)
 | y :: c,ho,x,hx,v,h1,h2=>by
  have hp:=List.pairwise_cons.1 ho.pw
  rw [Zgf]
  rcases List.mem_cons.1 hx with rfl | hx
  ·rw [if_pos (Zd2.2 ⟨h1,h2⟩),Zn3,List.append_nil]
   intro z hz
   have:=(hp.1 z hz).1
   omega
  ·have:=(hp.1 x hx).1
   rw [if_neg (by rw [Zd2]; omega),lk_mem ho.tail hx h1 h2]; rfl
theorem Zkn {c:List Cell} {v:Int} (h:lk c v ≠ []):∃ x∈c,x.1.Lo≤v∧v≤x.1.Hi:=by
 apply Classical.byContradiction
 intro hn
 exact h (Zn3 fun x hx hv=>hn ⟨x,hx,hv⟩)
theorem Ord.inj {t:Int}:∀ {c c':List Cell},Ord t c→Ord t c'→(∀ v,lk c v=lk c' v)→c=c'
 | [],[],_,_,_=>rfl
 | [],y :: c',_,h',h=>by
  have hy:=h'.ok y (List.mem_cons_self ..)
  have:=h y.1.Lo
  rw [lk_mem h' (List.mem_cons_self ..) (Int.le_refl _) hy.2.1] at this
  exact absurd this.symm hy.2.2.2
 | x :: c,[],h,_,he=>by
  have hy:=h.ok x (List.mem_cons_self ..)
  have:=he x.1.Lo
  rw [lk_mem h (List.mem_cons_self ..) (Int.le_refl _) hy.2.1] at this
  exact absurd this hy.2.2.2
 | x :: c,y :: c',h,h',he=>by
  have hx:=h.ok x (List.mem_cons_self ..)
  have hy:=h'.ok y (List.mem_cons_self ..)
  have px:=List.pairwise_cons.1 h.pw
  have py:=List.pairwise_cons.1 h'.pw
  have low:∀ {x:Cell} {c c':List Cell} {y:Cell},Ord t (x :: c)→Ord t (y :: c')→(∀ v,lk (x :: c) v=lk (y :: c') v)→y.1.Lo≤x.1.Lo:=by
   intro x c c' y h h' he
   have hx:=h.ok x (List.mem_cons_self ..)
   have py:=List.pairwise_cons.1 h'.pw
   have h1:=he x.1.Lo
   rw [lk_mem h (List.mem_cons_self ..) (Int.le_refl _) hx.2.1] at h1
   obtain⟨z,hz,h2,h3⟩:=Zkn (c:=y :: c') (v:=x.1.Lo) (by rw [← h1]; exact hx.2.2.2)
   rcases List.mem_cons.1 hz with rfl | hz
   ·exact h2
   ·have:=(py.1 z hz).1
    have:=(h'.ok y (List.mem_cons_self ..)).2.1
    omega
  have e1:x.1.Lo=y.1.Lo:=Int.le_antisymm (low h' h fun v=>(he v).symm) (low h h' he)
  have e2:x.2=y.2:=by
   have h1:=he x.1.Lo
   rw [lk_mem h (List.mem_cons_self ..) (Int.le_refl _) hx.2.1,lk_mem h' (List.mem_cons_self ..) (by omega) (by omega)] at h1
   exact h1
  have hi:∀ {x:Cell} {c c':List Cell} {y:Cell},Ord t (x :: c)→Ord t (y :: c')→(∀ v,lk (x :: c) v=lk (y :: c') v)→x.1.Lo=y.1.Lo→x.2=y.2→¬ x.1.Hi<y.1.Hi:=by
   intro x c c' y h h' he e1 e2 hlt
   have hx:=h.ok x (List.mem_cons_self ..)
   have px:=List.pairwise_cons.1 h.pw
   have h1:=he (x.1.Hi + 1)
   rw [lk_mem h' (v:=x.1.Hi + 1) (List.mem_cons_self ..) (by omega) (by omega)] at h1
   obtain⟨z,hz,h2,h3⟩:=Zkn (c:=x :: c) (v:=x.1.Hi + 1) (by rw [h1,← e2]; exact hx.2.2.2)
   rcases List.mem_cons.1 hz with rfl | hzc
   ·omega
   ·have hg:=px.1 z hzc
    rw [lk_mem h hz h2 h3,← e2] at h1
    exact hg.2 (by have:=hg.1; omega) h1.symm
  have e3:x.1.Hi=y.1.Hi:=by
   have a1:=hi h h' he e1 e2
   have a2:=hi h' h (fun v=>(he v).symm) e1.symm e2.symm
   omega
  have exy:x=y:=by
   obtain⟨⟨a,b⟩,r⟩:=x
   obtain⟨⟨a',b'⟩,r'⟩:=y
   simp only at e1 e2 e3
   subst e1 e2 e3
   rfl
  subst exy
  congr 1
  refine Ord.inj h.tail h'.tail fun v=>?_
  have h1:=he v
  rw [Zgf,Zgf] at h1
  exact List.append_cancel_left h1
theorem CF_nil:∀ ts,CF ts []
 | []=>.inl rfl
 | _ :: _=>⟨[],rfl,⟨List.Pairwise.nil,fun _ h=>(by cases h)⟩,fun _ h=>(by cases h)⟩
theorem CF_lk {ts:List Int} {t:Int} {c:List Cell} (h:Ord t c) (hc:∀ x∈c,CF ts x.2) (v:Int):CF ts (lk c v):=by
 by_cases hv:lk c v=[]
 ·rw [hv]; exact CF_nil ts
 ·obtain⟨x,hx,h1,h2⟩:=Zkn hv
  rw [lk_mem h hx h1 h2]
  exact hc x hx
theorem lk_out {t:Int} {c:List Cell} (h:Ord t c) {v:Int} (hv:v<0∨t<v):lk c v=[]:=
 Zn3 fun x hx=>by have:=h.ok x hx; omega
theorem CF_inj:∀(ts:List Int) {l l':List (List Zb)},CF ts l→CF ts l'→(∀ p,vP ts p→mS l p=mS l' p)→l=l'
 | [],l,l',h,h',he=>by
  have:=he [] trivial
  rcases h with rfl | rfl <;> rcases h' with rfl | rfl
  ·rfl
  ·simp [mS,mB] at this
  ·simp [mS,mB] at this
  ·rfl
 | t :: ts,l,l',h,h',he=>by
  obtain⟨c,rfl,ho,hc⟩:=h
  obtain⟨c',rfl,ho',hc'⟩:=h'
  rw [Ord.inj ho ho' fun v=>?_]
  by_cases hv:0≤v∧v≤t
  ·refine CF_inj ts (CF_lk ho hc v) (CF_lk ho' hc' v) fun p hp=>?_
   have:=he (v :: p) ⟨hv.1,hv.2,hp⟩
   rw [Zhc,Zhc,Ziv,Ziv] at this
   exact this
  ·rw [lk_out ho (by omega),lk_out ho' (by omega)]
def joinC (c:List Cell) (lo hi:Int) (rest:List (List Zb)):List Cell:=
 if rest=[] then c else match c.getLast? with
  | some y=>if y.1.Hi + 1=lo∧y.2=rest then c.dropLast++[(⟨y.1.Lo,hi⟩,rest)] else c++[(⟨lo,hi⟩,rest)]
  | none=>c++[(⟨lo,hi⟩,rest)]
structure Upto (g:Int→List (List Zb)) (p:Int) (c:List Cell):Prop where
 ord:Ord (p - 1) c
 at_:∀ v,lk c v=if 0≤v∧v<p then g v else []
theorem Ord.mono {t t':Int} (h:t≤t') {c:List Cell} (ho:Ord t c):Ord t' c:=⟨ho.pw,fun x hx=>by have:=ho.ok x hx; exact⟨this.1,this.2.1,by omega,this.2.2.2⟩⟩
theorem Upto.nil (g:Int→List (List Zb)):Upto g 0 []:=⟨⟨List.Pairwise.nil,fun _ h=>(by cases h)⟩,fun v=>by rw [if_neg (by omega)]; rfl⟩
theorem Upto.inj {g:Int→List (List Zb)} {p:Int} {c c':List Cell} (h:Upto g p c) (h':Upto g p c'):c=c':=Ord.inj h.ord h'.ord fun v=>by rw [h.at_,h'.at_]
theorem lk_one (lo hi:Int) (rest:List (List Zb)) (v:Int):lk [(⟨lo,hi⟩,rest)] v=if lo≤v∧v≤hi then rest else []:=by
 rw [Zgf]
 show _++[]=_
 rw [List.append_nil]
 by_cases h:lo≤v∧v≤hi
 ·rw [if_pos h,if_pos (Zd2.2 h)]
 ·rw [if_neg h,if_neg (by rw [Zd2]; exact h)]
theorem Upto.step {g:Int→List (List Zb)} {p q:Int} {c:List Cell} (h:Upto g p c) (hp:0≤p) (hq:p<q) (hg:∀ v,p≤v→v<q→g v=g p):Upto g q (joinC c p (q - 1) (g p)):=by
 unfold joinC
 by_cases hr:g p=[]
 ·rw [if_pos hr]
  refine⟨h.ord.mono (by omega),fun v=>?_⟩
  rw [h.at_]
  by_cases h1:0≤v∧v<p
  ·rw [if_pos h1,if_pos ⟨h1.1,by omega⟩]
  ·rw [if_neg h1]
   split
   ·rw [hg v (by omega) (by omega),hr]
   ·rfl
 ·rw [if_neg hr]
  have snoc:∀(d:List Cell) (lo:Int),d.Pairwise gp→(∀ x∈d,0≤x.1.Lo∧x.1.Lo≤x.1.Hi∧x.1.Hi≤p - 1∧x.2 ≠ [])→(∀ y∈d,gp y (⟨lo,q - 1⟩,g p))→0≤lo→lo≤p →
    Ord (q - 1) (d++[(⟨lo,q - 1⟩,g p)]):=by
   intro d lo h1 h2 h3 h4 h5
   refine⟨List.pairwise_append.2 ⟨h1,List.pairwise_singleton ..,fun y hy x hx=>by rw [List.mem_singleton] at hx; subst hx; exact h3 y hy⟩,fun x hx=>?_⟩
   rcases List.mem_append.1 hx with hx | hx
   ·have:=h2 x hx
    exact⟨this.1,this.2.1,by omega,this.2.2.2⟩
   ·rw [List.mem_singleton] at hx
    subst hx
    exact⟨h4,by show lo≤q - 1; omega,by show q - 1≤q - 1; omega,hr⟩
  have look:∀ v,lk c v++(if p≤v∧v≤q - 1 then g p else [])=if 0≤v∧v<q then g v else []:=by
   intro v
   rw [h.at_]
   by_cases h1:0≤v∧v<p
   ·rw [if_pos h1,if_neg (show ¬ (p≤v∧v≤q - 1) by omega),if_pos (show 0≤v∧v<q by omega),List.append_nil]
   ·rw [if_neg h1,List.nil_append]
    by_cases h2:p≤v∧v≤q - 1
    ·rw [if_pos h2,if_pos (by omega),hg v h2.1 (by omega)]
    ·rw [if_neg h2,if_neg (by omega)]
  cases hl:c.getLast? with
  | none=>
   rw [List.getLast?_eq_none_iff] at hl
   subst hl
   refine⟨snoc [] p List.Pairwise.nil (fun _ h=>(by cases h)) (fun _ h=>(by cases h)) hp (Int.le_refl _),fun v=>?_⟩
   rw [lk_app,lk_one]
   exact look v
  | some y=>
   obtain⟨d,rfl⟩:=List.getLast?_eq_some_iff.1 hl
   have hyo:=h.ord.ok y (List.mem_append_right _ (List.mem_singleton.2 rfl))
   have hpw:=List.pairwise_append.1 h.ord.pw
   have hbe:∀ x∈d,gp x y:=fun x hx=>hpw.2.2 x hx y (List.mem_singleton.2 rfl)
   simp only
   by_cases hj:y.1.Hi + 1=p∧y.2=g p
   ·rw [if_pos hj,List.dropLast_concat]
    refine⟨snoc d y.1.Lo hpw.1 (fun x hx=>h.ord.ok x (List.mem_append_left _ hx)) (fun x hx=>⟨(hbe x hx).1,by rw [← hj.2]; exact(hbe x hx).2⟩) hyo.1 (by omega),fun v=>?_⟩
    rw [lk_app,lk_one,← look v,lk_app,List.append_assoc]
    congr 1
    obtain⟨⟨ylo,yhi⟩,yr⟩:=y
    rw [lk_one]
    simp only at hj hyo ⊢
    obtain⟨h1,rfl⟩:=hj
    by_cases h2:ylo≤v∧v≤yhi
    ·rw [if_pos h2,if_neg (show ¬ (p≤v∧v≤q - 1) by omega),if_pos (show ylo≤v∧v≤q - 1 by omega),List.append_nil]
    ·rw [if_neg h2,List.nil_append]
     by_cases h3:p≤v∧v≤q - 1
     ·rw [if_pos h3,if_pos (show ylo≤v∧v≤q - 1 by omega)]
     ·rw [if_neg h3,if_neg (show ¬ (ylo≤v∧v≤q - 1) by omega)]
   ·rw [if_neg hj]
    refine⟨snoc (d++[y]) p h.ord.pw h.ord.ok (fun x hx=>⟨?_,fun e1 e2=>?_⟩) hp (Int.le_refl _),fun v=>?_⟩
    ·have:=h.ord.ok x hx
     show x.1.Hi<p
     omega
    ·simp only at e1 e2
     rcases List.mem_append.1 hx with hx | hx
     ·have:=(hbe x hx).1
      omega
     ·rw [List.mem_singleton] at hx
      subst hx
      exact hj ⟨e1,e2⟩
    ·rw [lk_app,lk_one]
     exact look v
theorem Upto.exists_ (g:Int→List (List Zb)):∀ n:Nat,∃ c,Upto g n c
 | 0=>⟨[],Upto.nil g⟩
 | n + 1=>by
  obtain⟨c,h⟩:=Upto.exists_ g n
  refine⟨_,h.step (q:=((n + 1:Nat):Int)) (by omega) (by omega) fun v h1 h2=>?_⟩
  rw [show v=(n:Int) by omega]
structure Is (op:Bool→Bool→Bool) (ts:List Int) (a b l:List (List Zb)):Prop where
 cf:CF ts l
 mem:∀ p,vP ts p→mS l p=op (mS a p) (mS b p)
theorem Is.inj {op:Bool→Bool→Bool} {ts:List Int} {a b l l':List (List Zb)} (h:Is op ts a b l) (h':Is op ts a b l'):l=l':=
 CF_inj ts h.cf h'.cf fun p hp=>by rw [h.mem p hp,h'.mem p hp]
theorem Is.exists_ (op:Bool→Bool→Bool):∀(ts:List Int),(∀ t∈ts,0≤t)→∀ a b,∃ l,Is op ts a b l
 | [],_,a,b=>by
  by_cases h:op (mS a []) (mS b [])=true
  ·exact⟨[[]],.inr rfl,fun p hp=>by cases p with | nil=>rw [h]; rfl | cons _ _=>exact hp.elim⟩
  ·exact⟨[],.inl rfl,fun p hp=>by cases p with | nil=>rw [Bool.not_eq_true] at h; rw [h]; rfl | cons _ _=>exact hp.elim⟩
 | t :: ts,ht,a,b=>by
  have ih:=fun v=>Is.exists_ op ts (fun x hx=>ht x (List.mem_cons_of_mem _ hx)) (atv a v) (atv b v)
  have h0:=ht t (List.mem_cons_self ..)
  obtain⟨c,hc⟩:=Upto.exists_ (fun v=>(ih v).choose) (t + 1).toNat
  have hg:=fun v=>(ih v).choose_spec
  refine⟨flt c,⟨c,rfl,hc.ord.mono (by omega),fun x hx=>?_⟩,fun p hp=>?_⟩
  ·have hx2:=hc.ord.ok x hx
   have:=hc.at_ x.1.Lo
   rw [lk_mem hc.ord hx (Int.le_refl _) hx2.2.1,if_pos (by omega)] at this
   rw [this]
   exact(hg _).cf
  ·cases p with
   | nil=>exact hp.elim
   | cons v p=>
    rw [Zhc,Ziv,hc.at_,if_pos (by have:=hp.1; have:=hp.2.1; omega),(hg v).mem p hp.2.2,Zhc,Zhc]
theorem Is.at_ {op:Bool→Bool→Bool} {t:Int} {ts:List Int} {a b:List (List Zb)} {c:List Cell} (ho:Ord t c) (hc:∀ x∈c,CF ts x.2) (h:Is op (t :: ts) a b (flt c)) {v:Int} (h0:0≤v) (h1:v≤t) :
  Is op ts (atv a v) (atv b v) (lk c v):=
 ⟨CF_lk ho hc v,fun p hp=>by have:=h.mem (v :: p) ⟨h0,h1,hp⟩; rw [Zhc,Zhc,Zhc,Ziv] at this; exact this⟩
end Go.AM
set_option maxRecDepth 100000
namespace Go.AM
open Go
def runC (g:Int→List (List Zb)):List Cell→List Int→List Cell
 | c,p :: q :: ps=>runC g (joinC c p (q - 1) (g p)) (q :: ps)
 | c,[_]=>c
 | c,[]=>c
theorem Zgg (r:Zb) (rest:List (List Zb)):(flt [(r,rest)]).length=rest.length:=by
 simp [flt]
theorem Zyp (c:List Cell) (lo hi:Int) (rest:List (List Zb)):(flt c).length≤(flt (joinC c lo hi rest)).length∧(flt (joinC c lo hi rest)).length≤(flt c).length + rest.length:=by
 unfold joinC
 split
 ·omega
 ·split
  ·rename_i y hl
   obtain⟨d,rfl⟩:=List.getLast?_eq_some_iff.1 hl
   split
   ·rename_i hj
    rw [List.dropLast_concat,Zeg,Zeg,List.length_append,List.length_append,Zgg]
    obtain⟨yr,yrest⟩:=y
    rw [Zgg]
    have:=congrArg List.length hj.2
    simp only at this ⊢
    omega
   ·rw [Zeg (d++[y]),List.length_append,Zgg]; omega
  ·rw [Zeg,List.length_append,Zgg]; omega
theorem Zls (g:Int→List (List Zb)):∀(ps:List Int) (c:List Cell),(flt c).length≤(flt (runC g c ps)).length
 | [],_=>Nat.le_refl _
 | [_],_=>Nat.le_refl _
 | p :: q :: ps,c=>Nat.le_trans (Zyp c p (q - 1) (g p)).1 (Zls g (q :: ps) _)
def Steps (g:Int→List (List Zb)):List Int→Prop
 | p :: q :: ps=>p<q∧(∀ v,p≤v→v<q→g v=g p)∧Steps g (q :: ps)
 | [_]=>True
 | []=>False
theorem Upto.run {g:Int→List (List Zb)}:∀ {ps:List Int} {p:Int} {c:List Cell},0≤p→Steps g (p :: ps)→Upto g p c→∃ q,(p :: ps).getLast? = some q∧Upto g q (runC g c (p :: ps))
 | [],p,c,_,_,h=>⟨p,rfl,h⟩
 | q :: ps,p,c,h0,hs,h=>by
  obtain⟨h1,h2,h3⟩:=hs
  obtain⟨z,hz,hu⟩:=Upto.run (ps:=ps) (p:=q) (by omega) h3 (h.step h0 h1 h2)
  exact⟨z,by rw [List.getLast?_cons_cons]; exact hz,hu⟩
theorem Z0s {g:Int→List (List Zb)} {t:Int} {c:List Cell} {ps:List Int} (hs:Steps g (0 :: ps)) (hl:(0 :: ps).getLast? = some (t + 1)) (ho:Ord t c) (hg:∀ v,0≤v→v≤t→lk c v=g v):runC g [] (0 :: ps)=c:=by
 obtain⟨q,h1,h2⟩:=Upto.run (Int.le_refl 0) hs (Upto.nil g)
 rw [hl,Option.some.injEq] at h1
 subst h1
 refine Ord.inj (h2.ord.mono (t':=t) (by omega)) ho fun v=>?_
 rw [h2.at_]
 by_cases hv:0≤v∧v<t + 1
 ·rw [if_pos hv,hg v hv.1 (by omega)]
 ·rw [if_neg hv,lk_out ho (by omega)]
def Cut (ps:List Int) (l:List (List Zb)):Prop:=∀ b∈l,∀ r b',b=r :: b'→r.Lo∈ps∧r.Hi + 1∈ps
theorem Zzn {l:List (List Zb)} {p q:Int} (h:∀ b∈l,∀ r b',b=r :: b'→¬ (p<r.Lo∧r.Lo<q)∧¬ (p<r.Hi + 1∧r.Hi + 1<q)) {v:Int} (h1:p≤v) (h2:v<q):atv l v=atv l p:=by
 unfold atv
 induction l with
 | nil=>rfl
 | cons b l ih=>
  rw [List.flatMap_cons,List.flatMap_cons,ih fun x hx=>h x (List.mem_cons_of_mem _ hx)]
  congr 1
  cases b with
  | nil=>rfl
  | cons r b=>
   have hb:=h (r :: b) (List.mem_cons_self ..) r b rfl
   have:inR v r=inR p r:=by
    rw [Bool.eq_iff_iff,Zd2,Zd2]
    omega
   simp only [this]
theorem Zuj:∀ {ps:List Int},ps.Pairwise (·<·)→∀ {i:Nat} (h:i + 1<ps.length),∀ x∈ps,¬ (ps[i]<x∧x<ps[i + 1]):=by
 intro ps hp i h x hx hc
 obtain⟨j,hj,rfl⟩:=List.getElem_of_mem hx
 have hm:=List.pairwise_iff_getElem.1 hp
 rcases Nat.lt_trichotomy j i with h1 | h1 | h1
 ·have:=hm j i hj (by omega) h1; omega
 ·subst h1; omega
 ·rcases Nat.lt_or_eq_of_le (show i + 1≤j by omega) with h2 | h2
  ·have:=hm (i + 1) j (by omega) hj h2; omega
  ·subst h2; omega
theorem Zvl {g:Int→List (List Zb)}:∀ {ps:List Int},ps ≠ []→ps.Pairwise (·<·)→(∀ i (h:i + 1<ps.length),∀ v,ps[i]≤v→v<ps[i + 1]→g v=g ps[i])→Steps g ps
 | [],h,_,_=>h rfl
 | [_],_,_,_=>trivial
 | p :: q :: ps,_,hp,hg=>by
  refine⟨(List.pairwise_cons.1 hp).1 q (List.mem_cons_self ..),fun v h1 h2=>hg 0 (by simp) v h1 h2,Zvl (List.cons_ne_nil _ _) (List.pairwise_cons.1 hp).2 fun i h v h1 h2=>?_⟩
  have:=hg (i + 1) (by simp at h ⊢; omega) v
  simpa using this h1 h2
structure Nx (t:Int) (ts:List Int) (last:Option Cell) (c:List Cell):Prop where
 ord:Ord t c
 cf:∀ x∈c,CF ts x.2
 gap:∀ y∈last,∀ x∈c,gp y x
theorem Nx.nil (t:Int) (ts:List Int) (last:Option Cell):Nx t ts last []:=⟨⟨List.Pairwise.nil,fun _ h=>(by cases h)⟩,fun _ h=>(by cases h),fun _ _ _ h=>(by cases h)⟩
theorem CF_iff {t:Int} {ts:List Int} {l:List (List Zb)}:CF (t :: ts) l ↔ ∃ c,l=flt c∧Nx t ts none c:=
 ⟨fun⟨c,h1,h2,h3⟩=>⟨c,h1,h2,h3,fun _ h=>(by cases h)⟩,fun⟨c,h1,h2⟩=>⟨c,h1,h2.ord,h2.cf⟩⟩
theorem Nx.run {t:Int} {ts:List Int} {last:Option Cell} {r:Zb} {run:List (List Zb)} {l:List (List Zb)} (hrun:run ≠ []) (hl:∀ b,l.head? = some b→∃ r' b',b=r' :: b'∧r' ≠ r) :
  (∃ c,run.map (r :: ·)++l=flt c∧Nx t ts last c) ↔ (0≤r.Lo∧r.Lo≤r.Hi∧r.Hi≤t)∧CF ts run∧(∀ y∈last,gp y (r,run))∧∃ c,l=flt c∧Nx t ts (some (r,run)) c:=by
 constructor
 ·rintro⟨c,hc,hn⟩
  cases c with
  | nil=>
   have:run.map (r :: ·)=[]:=(List.append_eq_nil_iff.1 hc).1
   simp at this
   exact absurd this hrun
  | cons x c=>
   rw [Zdx] at hc
   have hx:=hn.ord.ok x (List.mem_cons_self ..)
   have hp:=List.pairwise_cons.1 hn.ord.pw
   have key:∀(u w:List (List Zb)) (l l':List (List Zb)),u ≠ []→w ≠ []→(∀ b,l.head? = some b→∃ r' b',b=r' :: b'∧r' ≠ r)→(∀ b,l'.head? = some b→∃ r' b',b=r' :: b'∧r' ≠ x.1) →
     u.map (r :: ·)++l=w.map (x.1 :: ·)++l'→r=x.1∧u=w∧l=l':=by
    intro u w l l' hu hw g1 g2 he
    have hr:r=x.1:=by
     cases u with
     | nil=>exact absurd rfl hu
     | cons b u=>cases w with
      | nil=>exact absurd rfl hw
      | cons d w=>
       simp only [List.map_cons,List.cons_append,List.cons.injEq] at he
       exact he.1.1
    refine⟨hr,?_⟩
    rw [← hr] at he g2
    clear hu hw
    induction u generalizing w with
    | nil=>cases w with
     | nil=>exact⟨rfl,by simpa using he⟩
     | cons d w=>
      simp only [List.map_nil,List.nil_append,List.map_cons,List.cons_append] at he
      obtain⟨r',b',e1,e2⟩:=g1 (r :: d) (by rw [he]; rfl)
      simp only [List.cons.injEq] at e1
      exact absurd e1.1.symm e2
    | cons b u ih=>cases w with
     | nil=>
      simp only [List.map_nil,List.nil_append,List.map_cons,List.cons_append] at he
      obtain⟨r',b',e1,e2⟩:=g2 (r :: b) (by rw [← he]; rfl)
      simp only [List.cons.injEq] at e1
      exact absurd e1.1.symm e2
     | cons d w=>
      simp only [List.map_cons,List.cons_append,List.cons.injEq,true_and] at he
      obtain⟨i1,i2⟩:=ih w he.2
      exact⟨by rw [he.1,i1],i2⟩
   have hnext:∀ b,(flt c).head? = some b→∃ r' b',b=r' :: b'∧r' ≠ x.1:=by
    intro b hb
    cases c with
    | nil=>simp [flt] at hb
    | cons z c=>
     have hz:=hn.ord.ok z (List.mem_cons_of_mem _ (List.mem_cons_self ..))
     rw [Zdx] at hb
     cases hz2:z.2 with
     | nil=>exact absurd hz2 hz.2.2.2
     | cons d w=>
      rw [hz2] at hb
      simp only [List.map_cons,List.cons_append,List.head?_cons,Option.some.injEq] at hb
      refine⟨z.1,d,hb.symm,fun e=>?_⟩
      have:=(hp.1 z (List.mem_cons_self ..)).1
      rw [e] at this
      omega
   obtain⟨e1,e2,e3⟩:=key run x.2 l (flt c) hrun hx.2.2.2 hl hnext hc
   subst e1 e2 e3
   exact⟨⟨hx.1,hx.2.1,hx.2.2.1⟩,hn.cf x (List.mem_cons_self ..),fun y hy=>hn.gap y hy x (List.mem_cons_self ..),c,rfl,hn.ord.tail,fun z hz=>hn.cf z (List.mem_cons_of_mem _ hz),fun y hy z hz=>by
    have:x=y:=by simpa using hy
    subst this
    exact hp.1 z hz⟩
 ·rintro⟨h1,h2,h3,c,rfl,hn⟩
  refine⟨(r,run) :: c,rfl,⟨List.pairwise_cons.2 ⟨fun z hz=>hn.gap _ rfl z hz,hn.ord.pw⟩,fun x hx=>?_⟩,fun x hx=>?_,fun y hy x hx=>?_⟩
  ·rcases List.mem_cons.1 hx with rfl | hx
   ·exact⟨h1.1,h1.2.1,h1.2.2,hrun⟩
   ·exact hn.ord.ok x hx
  ·rcases List.mem_cons.1 hx with rfl | hx
   ·exact h2
   ·exact hn.cf x hx
  ·rcases List.mem_cons.1 hx with rfl | hx
   ·exact h3 y hy
   ·have g1:=h3 y hy
    have g2:=hn.gap _ rfl x hx
    have g3:=g1.1
    have g4:=g2.1
    simp only at g3 g4
    exact⟨by omega,fun e=>by omega⟩
end Go.AM
set_option maxRecDepth 100000
namespace Go.AM
open Go
theorem Zx {d:Array Int} {n i:Nat} (hn:d.size=n) (h:i<n):idxn n d.toList (i:Int)=some d[i]!:=by
 have hi:i<d.size:=by omega
 unfold idxn
 rw [if_pos ⟨by omega,by omega⟩]
 simp [AM.idx,hi]
theorem Zzo (d:Array Int) (i:Nat) (x:Int):d.toList.set i x=(d.setIfInBounds i x).toList:=by simp
theorem Zeb {d:Array Int} {n i j:Nat} {x:Int} (hn:d.size=n) (h:j<n):∃ y,idxn n (d.toList.set i x) (j:Int)=some y:=by
 rw [Zzo]
 exact⟨_,Zx (by simpa using hn) h⟩
theorem Zeh (d:Array Int) (i j:Nat):(d.toList.set i d[j]!).set j d[i]! = (Sort.swp d i j).toList:=by
 unfold Sort.swp; simp
theorem swp_sz (d:Array Int) (i j:Nat):(Sort.swp d i j).size=d.size:=Sort.swp_size d i j
theorem Zez (x y:Int):Zac x y=some (Sort.ltInt x y):=by
 unfold Zac Zcw Sort.ltInt
 simp
abbrev sB:Nat:=1000000000
theorem wpred {j:Nat} (h:j + 1<1000000000000):IntKind.wrap .i64 (((j + 1:Nat):Int) - (1:Int))=(j:Int):=by
 rw [wi64 (by omega) (by omega)]; omega
theorem wsuc {j:Nat} (h:j + 1<1000000000000):IntKind.wrap .i64 ((j:Int) + (1:Int))=((j + 1:Nat):Int):=by
 rw [wi64 (by omega) (by omega)]; omega
theorem wadd {i j:Nat} (h:i + j<1000000000000):IntKind.wrap .i64 ((i:Int) + (j:Int))=((i + j:Nat):Int):=by
 rw [wi64 (by omega) (by omega)]; omega
theorem wsub {i j:Nat} (h:i<1000000000000) (hj:j≤i):IntKind.wrap .i64 ((i:Int) - (j:Int))=((i - j:Nat):Int):=by
 rw [wi64 (by omega) (by omega)]; omega
theorem Zpl {n a:Nat} (hB:n≤sB):∀(j m:Nat) (d:Array Int),d.size=n→j<n→j<m→Zaj n (a:Int) m d.toList (j:Int)=some (Sort.insInner Sort.ltInt a j d).toList
 | 0,m + 1,d,hd,hj,hm=>by
  rw [Zaj,decide_eq_false (by omega)]
  simp [Sort.insInner]
 | j + 1,m + 1,d,hd,hj,hm=>by
  have ih:=Zpl (a:=a) hB j m
  rw [Zaj,Sort.insInner]
  unfold sB at hB
  simp only [wpred (show j + 1<1000000000000 by omega),Zx hd hj,Zx hd (show j<n by omega),Option.bind_some,Zez,Int.toNat_natCast]
  by_cases h:j + 1 > a
  ·have h':((j + 1:Nat):Int) > (a:Int):=by omega
   simp only [decide_eq_true h,decide_eq_true h',if_true,Option.bind_some,Bool.true_and]
   cases hl:Sort.ltInt d[j + 1]! d[j]! with
   | false=>simp
   | true=>
    obtain⟨y,hy⟩:=Zeb (i:=j + 1) (x:=d[j]!) hd (show j<n by omega)
    simp only [if_true,hy,Option.bind_some,Zeh]
    exact ih _ (by rw [swp_sz,hd]) (by omega) (by omega)
  ·have h':¬ ((j + 1:Nat):Int) > (a:Int):=by omega
   rw [decide_eq_false h,decide_eq_false h']
   simp
theorem Zwk {n a b:Nat} (hB:n≤sB) (hb:b≤n):∀(k i m:Nat) (d:Array Int),d.size=n→b - i=k→k<m→i≤sB + 1→Zak n (a:Int) (b:Int) m d.toList (i:Int)=some (Sort.insOuter Sort.ltInt a b i d).toList:=by
 unfold sB at hB
 intro k
 induction k with
 | zero=>
  intro i m d hd hk hm hi
  cases m with
  | zero=>omega
  | succ m=>
  rw [Zak,Sort.insOuter,if_neg (by simp; omega),if_neg (by omega)]
 | succ k ih=>
  intro i m d hd hk hm hi
  cases m with
  | zero=>omega
  | succ m=>
  rw [Zak,Sort.insOuter,if_pos (by simp; omega),if_pos (by omega)]
  rw [Zpl (a:=a) (show n≤sB by unfold sB; omega) i fuel d hd (by omega) (by unfold fuel; omega)]
  simp only [Option.bind_some]
  unfold sB at hi
  rw [wsuc (by omega)]
  refine ih (i + 1) m _ ?_ (by omega) (by omega) (by unfold sB; omega)
  exact insInner_sz _ _ hd
where
 insInner_sz {n a:Nat}:∀(j:Nat) (d:Array Int),d.size=n→(Sort.insInner Sort.ltInt a j d).size=n
  | 0,d,hd=>hd
  | j + 1,d,hd=>by
   rw [Sort.insInner]
   split
   ·exact insInner_sz j _ (by rw [swp_sz,hd])
   ·exact hd
theorem Zqn {n a b:Nat} (hB:n≤sB) (hb:b≤n) (hab:a≤b) {d:Array Int} (hd:d.size=n):Zbo n d.toList (a:Int) (b:Int)=some (Sort.insertionSort Sort.ltInt d a b).toList:=by
 unfold Zbo Sort.insertionSort
 have h:(a:Int) + 1=((a + 1:Nat):Int):=by omega
 unfold sB at hB
 rw [wsuc (by omega),Zwk (show n≤sB by unfold sB; omega) hb (b - (a + 1)) (a + 1) fuel d hd rfl (by unfold fuel; omega) (by unfold sB; omega)]
 rfl
def sTail (a0:Nat) (a3 a4:Int) (n95:Nat) (v46:List Int) (v47 v109:Int):Option (List Int ⊕ List Int):=
    (idxn a0 v46 (IntKind.wrap .i64 (a4 + v47))).bind fun(x124:Int)=>
    (idxn a0 v46 (IntKind.wrap .i64 (a4 + v109))).bind fun(x126:Int)=>
    (Zac x124 x126).bind fun(r128:Bool)=>
    if (!r128)=true then
     some (.inr v46)
    else
     (idxn a0 v46 (IntKind.wrap .i64 (a4 + v109))).bind fun(x130:Int)=>
     (idxn a0 v46 (IntKind.wrap .i64 (a4 + v47))).bind fun(x132:Int)=>
     (idxn a0 v46 (IntKind.wrap .i64 (a4 + v47))).bind fun(_:Int)=>
     (idxn a0 (List.set v46 (Int.toNat (IntKind.wrap .i64 (a4 + v47))) x130) (IntKind.wrap .i64 (a4 + v109))).bind fun(_:Int)=>
     Zag a0 a3 a4 n95 (List.set (List.set v46 (Int.toNat (IntKind.wrap .i64 (a4 + v47))) x130) (Int.toNat (IntKind.wrap .i64 (a4 + v109))) x132) v109
def outS (l:List Int) (o:List Int ⊕ List Int):Prop:=o=.inl l∨o=.inr l
theorem Zzp {n hi first root c m:Nat} (hB:n≤sB) (hf:first + hi≤n) (hr:root<hi) (hc:c<hi) {d:Array Int} (hd:d.size=n) {r:Array Int}
  (ih:Sort.ltInt d[first + root]! d[first + c]! = true→Ok (Zag n (hi:Int) (first:Int) m (Sort.swp d (first + root) (first + c)).toList (c:Int)) (outS r.toList)) (hs:Sort.ltInt d[first + root]! d[first + c]! = false→r=d) :
  Ok (sTail n (hi:Int) (first:Int) m d.toList (root:Int) (c:Int)) (outS r.toList):=by
 unfold sB at hB
 unfold sTail
 rw [wadd (i:=first) (j:=root) (by omega),wadd (i:=first) (j:=c) (by omega)]
 simp only [Zx hd (show first + root<n by omega),Zx hd (show first + c<n by omega),Option.bind_some,Zez,Int.toNat_natCast]
 cases hl:Sort.ltInt d[first + root]! d[first + c]! with
 | false=>rw [hs hl]; exact⟨_,rfl,Or.inr rfl⟩
 | true=>
  obtain⟨y,hy⟩:=Zeb (i:=first + root) (x:=d[first + c]!) hd (show first + c<n by omega)
  simp only [Bool.not_true,Bool.false_eq_true,if_false,hy,Option.bind_some,Zeh]
  exact ih hl
theorem Zwl {n hi first:Nat} (hB:n≤sB) (hf:first + hi≤n):∀(k root m:Nat) (d:Array Int),d.size=n→hi - root≤k→k<m→root≤n →
  Ok (Zag n (hi:Int) (first:Int) m d.toList (root:Int)) (outS (Sort.siftDown Sort.ltInt hi first root d).toList):=by
 intro k
 induction k with
 | zero=>
  intro root m d hd hk hm hr
  cases m with
  | zero=>omega
  | succ m=>
  unfold sB at hB
  rw [Zag,Sort.siftDown,dif_pos (by omega),if_pos]
  ·exact⟨_,rfl,Or.inl rfl⟩
  ·rw [wi64 (x:=2 * (root:Int)) (by omega) (by omega),wi64 (by omega) (by omega)]; exact decide_eq_true (by omega)
 | succ k ih=>
  intro root m d hd hk hm hr
  cases m with
  | zero=>omega
  | succ m=>
  have hB':=hB
  unfold sB at hB
  have e1:IntKind.wrap .i64 (IntKind.wrap .i64 (2 * (root:Int)) + 1)=((2 * root + 1:Nat):Int):=by
   rw [wi64 (x:=2 * (root:Int)) (by omega) (by omega),wi64 (by omega) (by omega)]; omega
  rw [Zag,Sort.siftDown]
  rw [e1]
  by_cases h:2 * root + 1 ≥ hi
  ·rw [dif_pos h,if_pos (decide_eq_true (by omega))]
   exact⟨_,rfl,Or.inl rfl⟩
  ·rw [dif_neg h,if_neg (by simp; omega)]
   have hst:∀ c:Nat,c<hi→root<c→Ok (sTail n (hi:Int) (first:Int) m d.toList (root:Int) (c:Int)) (outS (if (!Sort.ltInt d[first + root]! d[first + c]!)=true then d else Sort.siftDown Sort.ltInt hi first c (Sort.swp d (first + root) (first + c))).toList):=fun c hc hrc=>by
    refine Zzp hB' hf (by omega) hc hd (fun hl=>?_) (fun hl=>?_)
    ·rw [hl]
     simp only [Bool.not_true,Bool.false_eq_true,if_false]
     exact ih c m _ (by rw [swp_sz,hd]) (by omega) (by omega) (by omega)
    ·rw [hl]; rfl
   have e2:IntKind.wrap .i64 (((2 * root + 1:Nat):Int) + 1)=((2 * root + 2:Nat):Int):=wsuc (by omega)
   have e3:IntKind.wrap .i64 (IntKind.wrap .i64 ((first:Int) + ((2 * root + 1:Nat):Int)) + 1)=((first + (2 * root + 1) + 1:Nat):Int):=by
    rw [wadd (by omega)]; exact wsuc (by omega)
   have e4:IntKind.wrap .i64 ((first:Int) + ((2 * root + 1:Nat):Int))=((first + (2 * root + 1):Nat):Int):=wadd (by omega)
   rw [e2,e3,e4]
   by_cases h2:2 * root + 1 + 1<hi
   ·have h2':((2 * root + 2:Nat):Int)<(hi:Int):=by omega
    simp only [decide_eq_true h2,decide_eq_true h2',Option.bind_some,if_true,Zx hd (show first + (2 * root + 1)<n by omega),Zx hd (show first + (2 * root + 1) + 1<n by omega),Zez,Bool.true_and]
    cases hl:Sort.ltInt d[first + (2 * root + 1)]! d[first + (2 * root + 1) + 1]! with
    | false=>
     simp only [Bool.false_eq_true,if_false,Option.bind_some]
     have q:=hst (2 * root + 1) (by omega) (by omega)
     simp only [sTail,Zez,Option.bind_some] at q
     exact q
    | true=>
     simp only [if_true,Option.bind_some,dif_pos (show 2 * root + 2<hi from h2)]
     have q:=hst (2 * root + 2) (by omega) (by omega)
     simp only [sTail,Zez,Option.bind_some] at q
     exact q
   ·have h2':¬ ((2 * root + 2:Nat):Int)<(hi:Int):=by omega
    simp only [decide_eq_false h2,decide_eq_false h2',Option.bind_some,Bool.false_eq_true,if_false,Bool.false_and]
    exact hst (2 * root + 1) (by omega) (by omega)
theorem Zsy {n hi first:Nat}:∀(k root:Nat) (d:Array Int),d.size=n→hi - root≤k→(Sort.siftDown Sort.ltInt hi first root d).size=n:=by
 intro k
 induction k with
 | zero=>intro root d hd hk; rw [Sort.siftDown,dif_pos (by omega)]; exact hd
 | succ k ih=>
  intro root d hd hk
  rw [Sort.siftDown]
  split
  ·exact hd
  ·split
   ·split
    ·exact hd
    ·split
     ·exact ih _ _ (by rw [swp_sz,hd]) (by omega)
     ·exact hd
   ·split
    ·exact hd
    ·exact ih _ _ (by rw [swp_sz,hd]) (by omega)
theorem Zr3 {n hi first root:Nat} (hB:n≤sB) (hf:first + hi≤n) (hr:root≤n) {d:Array Int} (hd:d.size=n):Zbn n d.toList (root:Int) (hi:Int) (first:Int)=some (Sort.siftDown Sort.ltInt hi first root d).toList:=by
 unfold Zbn
 obtain⟨o,e,ho⟩:=Zwl hB hf (hi - root) root fuel d hd (Nat.le_refl _) (by unfold fuel; unfold sB at hB; omega) hr
 rw [e]
 rcases ho with rfl | rfl <;> rfl
theorem Zn4 {n a b:Nat} (hB:n≤sB) (hab:a≤b) (hb:b≤n):∀(k m:Nat) (d:Array Int),d.size=n→k≤n + 1→k<m →
  Zaz n (a:Int) (b:Int) m d.toList ((k:Int) - 1)=some (Sort.heapBuild Sort.ltInt (b - a) a k d).toList
 | 0,m + 1,d,hd,hk,hm=>by
  rw [Zaz,if_neg (by simp)]; rfl
 | k + 1,m + 1,d,hd,hk,hm=>by
  have hB':=hB
  unfold sB at hB
  rw [Zaz,if_pos (decide_eq_true (by omega)),show ((k + 1:Nat):Int) - 1=(k:Int) by omega,wsub (by omega) hab,Zr3 hB' (by omega) (by omega) hd]
  simp only [Option.bind_some]
  rw [wi64 (by omega) (by omega),Sort.heapBuild]
  exact Zn4 hB' hab hb k m _ (Zsy _ _ _ hd (Nat.le_refl _)) (by omega) (by omega)
theorem Zr4 {n a b:Nat} (hB:n≤sB) (hb:b≤n):∀(k m:Nat) (d:Array Int),d.size=n→a + k≤b→k<m →
  Za0 n (a:Int) m d.toList ((k:Int) - 1)=some (Sort.heapPop Sort.ltInt a k d).toList
 | 0,m + 1,d,hd,hk,hm=>by
  rw [Za0,if_neg (by simp)]; rfl
 | k + 1,m + 1,d,hd,hk,hm=>by
  have hB':=hB
  unfold sB at hB
  rw [Za0,if_pos (decide_eq_true (by omega)),show ((k + 1:Nat):Int) - 1=(k:Int) by omega,wadd (by omega)]
  obtain⟨y,hy⟩:=Zeb (i:=a) (x:=d[a + k]!) hd (show a + k<n by omega)
  simp only [Zx hd (show a + k<n by omega),Zx hd (show a<n by omega),Option.bind_some,Int.toNat_natCast,hy,Zeh]
  have e:=Zr3 (root:=0) (hi:=k) (first:=a) hB' (by omega) (by omega) (show (Sort.swp d a (a + k)).size=n by rw [swp_sz,hd])
  rw [show ((0:Nat):Int)=0 from rfl] at e
  rw [e]
  simp only [Option.bind_some]
  rw [wi64 (by omega) (by omega),Sort.heapPop]
  exact Zr4 hB' hb k m _ (Zsy _ _ _ (by rw [swp_sz,hd]) (Nat.le_refl _)) (by omega) (by omega)
theorem Ztw {n hi first:Nat}:∀(k:Nat) (d:Array Int),d.size=n→(Sort.heapBuild Sort.ltInt hi first k d).size=n
 | 0,_,hd=>hd
 | k + 1,d,hd=>by rw [Sort.heapBuild]; exact Ztw k _ (Zsy _ _ _ hd (Nat.le_refl _))
theorem Zwm {n a b:Nat} (hB:n≤sB) (hab:a<b) (hb:b≤n) {d:Array Int} (hd:d.size=n):Zb5 n d.toList (a:Int) (b:Int)=some (Sort.heapSort Sort.ltInt d a b).toList:=by
 have hB':=hB
 unfold sB at hB
 unfold Zb5 Sort.heapSort
 have e:IntKind.wrap .i64 (Int.tdiv (IntKind.wrap .i64 (IntKind.wrap .i64 ((b:Int) - (a:Int)) - 1)) 2)=(((b - a - 1) / 2 + 1:Nat):Int) - 1:=by
  rw [wsub (by omega) (by omega),wi64 (x:=((b - a:Nat):Int) - 1) (by omega) (by omega)]
  rw [Int.tdiv_eq_ediv_of_nonneg (by omega),wi64 (by omega) (by omega)]
  omega
 rw [e,Zn4 hB' (by omega) hb _ _ _ hd (by omega) (by unfold fuel; omega)]
 simp only [Option.bind_some]
 rw [wsub (by omega) (by omega),wi64 (x:=((b - a:Nat):Int) - 1) (by omega) (by omega),Zr4 hB' hb (b - a) fuel _ (Ztw _ _ hd) (by omega) (by unfold fuel; omega)]
 rfl
end Go.AM

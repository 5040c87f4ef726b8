/- Parts of a proof, printed short. No condition. -/
import Derived.Test.YtjcpfgkompgmeaaGreatDoorProg
import Derived.Test.YtjcpfgkompgmeaaGreatDoorPlQ5
set_option maxRecDepth 100000
namespace Go.AM
open Go Go.Proofs
def Znb (r:Bool):PV→List Blk→Prop:=fun p K=>p=(vb r)∧K=[]
theorem Zjf (r:Bool) (hF:Zfl=some r):ACall Tryz.prog glob 9 [] [] (Znb r):=by
 have hr:=someb hF
 subst hr
 exact(T93_ok _ (List.mem_cons.2 (.inl rfl))).1
def Zpc (r:Zj):PV→List Blk→Prop:=fun p K=>p=(.ptr 0 0)∧K=[.cells (Zh r)]
theorem Zpd (a:(List Int)) (r:Zj) (hF:Zg4 a=some r):ACall Tryz.prog glob 5 [(slc 1 Ze a)] [] (Zpc r):=by
 refine ACall.body Tryz.func5 rfl (by kernel_rfl) ?_
 unfold Zg4 at hF
 refine AWP.seq (AWP.rg0 [] [(0,(slc 1 Ze a))] (AWP.seq (AWP.rg [] [(2,(.ptr 0 0))] [.cells (Zh (Zj.mk a (0:Int)))] (AWP.ret ?_))))
 have hr:=someb hF
 subst hr
 exact(FnQ.f0 1 (.inr rfl))
def Zpe (r:Int):PV→List Blk→Prop:=fun p K=>p=(i64 r)∧K=[]
theorem Zpf (a:Int) (b:Int) (r:Int) (hF:Zft a b=some r):ACall Tryz.prog glob 25 [(i64 a),(i64 b)] [] (Zpe r):=by
 refine ACall.body Tryz.func25 rfl (by kernel_rfl) ?_
 unfold Zft at hF
 refine AWP.seq (AWP.rg0 [] [(0,(i64 a)),(1,(i64 b))] (AWP.seq ?_))
 obtain⟨c,hF⟩:=chkb hF
 refine AWP.rg0 [(4,.rem c)] [(4,(i64 (ZI (Int.tmod (IntKind.wrap .u64 a) (IntKind.wrap .u64 b)))))] (AWP.ret ?_)
 have hr:=someb hF
 subst hr
 exact(FnQ.f0 0 (.inr rfl))
def Zk2 (r:(Int × Zj)):PV→List Blk→Prop:=fun p K=>p=(i64 r.1)∧K=[.cells (Zh r.2)]
theorem Zbz (a:Zj) (b:Int) (r:(Int × Zj)) (hF:Zal a b=some r):ACall Tryz.prog glob 10 [(.ptr 0 0),(i64 b)] [.cells (Zh a)] (Zk2 r):=by
 refine ACall.body Tryz.func10 rfl (by kernel_rfl) ?_
 unfold Zal at hF
 refine AWP.seq (AWP.rg0 [] [(0,(.ptr 0 0)),(1,(i64 b))] (AWP.seq (AWP.seq ?_)))
 obtain⟨d,c,hF⟩:=bindb hF
 replace c:=someb c
 refine AWP.to [(0,(.ptr 0 0)),(1,(i64 b)),(18,(vb (d || (decide (a.f_i ≥ (List.length a.f_l:Int))))))] [.cells (Zh a)] ?_ ?_
 ·cases d with
  | false=>
   exact AWP.drT [(2,.bool c),(11,.len Ze a.f_l)] 14 [] [] []
  | true=>
   exact AWP.drT [(2,.bool c)] 14 [] [] []
 refine AWP.cif hF (fun g hF=>?_) (fun g hF=>?_)
 ·refine AWP.seq (AWP.rg0 [] [(4,(i64 (0:Int)))] (AWP.ret ?_))
  have hr:=someb hF
  subst hr
  exact(FnQ.f0 1 (.inr rfl))
 ·refine AWP.skip (AWP.seq (AWP.rg [] [(0,(.ptr 0 0)),(1,(i64 b))] [.cells (Zh ({ a with f_i:=(ZI (a.f_i + (1:Int))) }:Zj))] (AWP.seq ?_)))
  obtain⟨i,j,hF⟩:=bindb hF
  obtain⟨f,k,hF⟩:=bindb hF
  refine AWP.dr [(9,.idx Ze j),(12,.call Tryz.func25 [] (Zpf i b f k))] 13 [] [] [] [(4,(i64 f))] [.cells (Zh ({ a with f_i:=(ZI (a.f_i + (1:Int))) }:Zj))] (AWP.ret ?_)
  have hr:=someb hF
  subst hr
  exact(FnQ.f0 1 (.inr rfl))
def Zi0 (r:(List (List Bool))):PV→List Blk→Prop:=fun p K=>p=(.own 0 (List.length r))∧K=[.tr 32 1 (List.length r) (cellsO Zm r)]
theorem Zi1 (a:Int) (d:(List (Arr2 Int))) (r:(List (List Bool))) (hF:Zcs a d=some r):ACall Tryz.prog glob 14 [(i64 a),(slc 2 Zai d)] [] (Zi0 r):=by
 refine ACall.body Tryz.func14 rfl (by kernel_rfl) ?_
 unfold Zcs at hF
 refine AWP.seq (AWP.rg0 [] [(0,(i64 a)),(1,(slc 2 Zai d))] (AWP.seq ?_))
 obtain⟨v,hF⟩:=chkb hF
 refine AWP.rg [(1,.post (.ownAs (List.length (List.replicate (Int.toNat a) ([.sc (.slice none 0 0)]:List PV))) (List.length (List.replicate (Int.toNat a) ([]:(List Bool)))) (by simp only [List.length_replicate]) (.mkN (fun(x_:List PV)=>x_) [.sc (.slice none 0 0)] v)) (.toTz 0 Zm ([]:(List Bool)) (Int.toNat a) (.own .nil)))] [(0,(i64 a)),(1,(slc 2 Zai d)),(5,(.own 0 (List.length (List.replicate (Int.toNat a) ([]:(List Bool))))))] [.tr 32 1 (List.length (List.replicate (Int.toNat a) ([]:(List Bool)))) (cellsO Zm (List.replicate (Int.toNat a) ([]:(List Bool))))] (AWP.seq (AWP.seq (AWP.rg0 [] [(0,(i64 a)),(1,(slc 2 Zai d)),(5,(.own 0 (List.length (List.replicate (Int.toNat a) ([]:(List Bool)))))),(6,(i64 (0:Int)))] ?_)))
 obtain⟨m,w,hF⟩:=bindb hF
 refine AWP.mid (fun e st H=>e=.normal∧st=[(1,(slc 2 Zai d)),(5,(.own 0 (List.length m)))]∧H=[.tr 32 1 (List.length m) (cellsO Zm m)]) ?_ ?_
 ·clear hF
  refine AWP.kp [0,1,5,6] 1 ?_ (hfar:=(farC (farT (fun z_=>(OVids.c (Zau (row:=Zo) (fun _=>rfl) _) OVids.n))) farN))
  refine AWP.bround (fun n st H=>∃ f,∃ i,Zao a n f i=some m∧st=[(0,(i64 a)),(1,(slc 2 Zai d)),(5,(.own 0 (List.length f))),(6,(i64 i))]∧H=[.tr 32 1 (List.length f) (cellsO Zm f)]) fuel ⟨(List.replicate (Int.toNat a) ([]:(List Bool))),(0:Int),w,by kernel_rfl,by kernel_rfl⟩ ?_
  rintro q st H ⟨f,i,hF,rfl,rfl⟩
  cases q with
  | zero=>exact noneb hF
  | succ q=>
   rw [Zao] at hF
   refine AWP.seq (AWP.seq (AWP.rg0 [] [(0,(i64 a)),(1,(slc 2 Zai d)),(5,(.own 0 (List.length f))),(6,(i64 i)),(12,(vb (decide (i<a))))] ?_))
   refine AWP.cif hF (fun x hF=>?_) (fun x hF=>?_)
   ·refine AWP.skip (AWP.seq (AWP.block ?_))
    obtain⟨y,hF⟩:=chkb hF
    obtain⟨a3,s,hF⟩:=bindb hF
    refine AWP.rg [(3,.mkN Zo false y),(4,.idxT s),(5,.stO Zm (fun _=>rfl) s 0 none)] [(0,(i64 a)),(1,(slc 2 Zai d)),(5,(.own 0 (List.length f))),(6,(i64 i))] [.tr 32 1 (List.length f) (List.set (cellsO Zm f) (Int.toNat i * 1 + 0) (.pv (.own 1 (List.length (List.replicate (Int.toNat a) false))))),bf 1 4 Zo (List.replicate (Int.toNat a) false) false] (AWP.rg0 [] [(0,(i64 a)),(1,(slc 2 Zai d)),(5,(.own 0 (List.length f))),(6,(i64 (ZI (i + (1:Int)))))] (LeQ.start ?_))
    refine LeQ.gst (.giveB 0 1 Zm (fun _=>rfl) s (off:=0) (by decide) Zo 1 (List.replicate (Int.toNat a) false) 4 (List.length (List.replicate (Int.toNat a) false)) rfl (List.replicate (Int.toNat a) false) rfl) [.tr 32 1 (List.length f) (cellsO Zm (List.set f (Int.toNat i) (List.replicate (Int.toNat a) false))),.dead] ?_
    rw [show ([(0,(i64 a)),(1,(slc 2 Zai d)),(5,(.own 0 (List.length f))),(6,(i64 (ZI (i + (1:Int)))))]:St)=[(0,(i64 a)),(1,(slc 2 Zai d)),(5,(.own 0 (List.length (List.set f (Int.toNat i) (List.replicate (Int.toNat a) false))))),(6,(i64 (ZI (i + (1:Int)))))] by simp only [List.length_set]]
    rw [show ([.tr 32 1 (List.length f) (cellsO Zm (List.set f (Int.toNat i) (List.replicate (Int.toNat a) false))),.dead]:List Blk)=[.tr 32 1 (List.length (List.set f (Int.toNat i) (List.replicate (Int.toNat a) false))) (cellsO Zm (List.set f (Int.toNat i) (List.replicate (Int.toNat a) false))),.dead] by simp only [List.length_set]]
    refine LeQ.pk [0,1,5,6] 1 ?_ (hfar:=(farC (farT (fun z_=>(OVids.c (Zau (row:=Zo) (fun _=>rfl) _) OVids.n))) farN))
    exact⟨q,Nat.lt_succ_self _,(List.set f (Int.toNat i) (List.replicate (Int.toNat a) false)),(ZI (i + (1:Int))),hF,by kernel_rfl,by kernel_rfl⟩
   ·refine AWP.exit (LeQ.start ?_)
    refine LeQ.pk [1,5] 1 ?_ (hfar:=(farC (farT (fun z_=>(OVids.c (Zau (row:=Zo) (fun _=>rfl) _) OVids.n))) farN))
    have hr:=someb hF
    subst hr
    exact⟨rfl,by kernel_rfl,by kernel_rfl⟩
 ·rintro _ _ _ ⟨rfl,rfl,rfl⟩
  refine AWP.seq (AWP.seq (AWP.rg0 [] [(1,(slc 2 Zai d)),(5,(.own 0 (List.length m))),(7,(i64 (0:Int)))] ?_))
  obtain⟨o,z,hF⟩:=bindb hF
  refine AWP.mid (fun e st H=>e=.normal∧st=[(5,(.own 0 (List.length o)))]∧H=[.tr 32 1 (List.length o) (cellsO Zm o)]) ?_ ?_
  ·clear hF
   refine AWP.kp [1,5,7] 1 ?_ (hfar:=(farC (farT (fun z_=>(OVids.c (Zau (row:=Zo) (fun _=>rfl) _) OVids.n))) farN))
   refine AWP.bround (fun n st H=>∃ b,∃ k,Zb7 d n b k=some o∧st=[(1,(slc 2 Zai d)),(5,(.own 0 (List.length b))),(7,(i64 k))]∧H=[.tr 32 1 (List.length b) (cellsO Zm b)]) fuel ⟨m,(0:Int),z,by kernel_rfl,by kernel_rfl⟩ ?_
   rintro t st H ⟨b,k,hF,rfl,rfl⟩
   cases t with
   | zero=>exact noneb hF
   | succ t=>
    rw [Zb7] at hF
    refine AWP.seq (AWP.seq (AWP.rg0 [(2,.len Zai d)] [(1,(slc 2 Zai d)),(5,(.own 0 (List.length b))),(7,(i64 k)),(23,(vb (decide (k<(List.length d:Int)))))] ?_))
    refine AWP.cif hF (fun a0 hF=>?_) (fun a0 hF=>?_)
    ·refine AWP.skip (AWP.seq (AWP.block ?_))
     obtain⟨l,a1,hF⟩:=bindb hF
     obtain⟨g,p,hF⟩:=bindb hF
     refine AWP.gst (.takeB 0 Zm (fun _=>rfl) p (off:=0) (by decide) Zo (fun _=>rfl) (fun _=>rfl) g 4 rfl) [.tr 32 1 (List.length b) (List.set (cellsO Zm b) (Int.toNat l.x0 * 1 + 0) (.pv (.own 1 (List.length g)))),bf 1 4 Zo g false] ?_
     obtain⟨j,a2,hF⟩:=bindb hF
     obtain⟨a4,u,hF⟩:=bindb hF
     refine AWP.dr [(3,.idx Zai a1),(6,.idxT p),(7,.ldH Zm (fun _=>rfl) p (.own 1 (List.length g))),(10,.idx Zai a2),(13,.idx Zo u),(14,.stE Zo u true)] 13 [] [] [] [(1,(slc 2 Zai d)),(5,(.own 0 (List.length b))),(7,(i64 k))] [.tr 32 1 (List.length b) (List.set (cellsO Zm b) (Int.toNat l.x0 * 1 + 0) (.pv (.own 1 (List.length g)))),bf 1 4 Zo (List.set g (Int.toNat j.x1) true) false] ?_
     rw [show ([.tr 32 1 (List.length b) (List.set (cellsO Zm b) (Int.toNat l.x0 * 1 + 0) (.pv (.own 1 (List.length g)))),bf 1 4 Zo (List.set g (Int.toNat j.x1) true) false]:List Blk)=[.tr 32 1 (List.length b) (List.set (cellsO Zm b) (Int.toNat l.x0 * 1 + 0) (.pv (.own 1 (List.length (List.set g (Int.toNat j.x1) true))))),bf 1 4 Zo (List.set g (Int.toNat j.x1) true) false] by simp only [List.length_set]]
     refine AWP.rg0 [] [(1,(slc 2 Zai d)),(5,(.own 0 (List.length b))),(7,(i64 (ZI (k + (1:Int)))))] (LeQ.start ?_)
     refine LeQ.gst (.giveB 0 1 Zm (fun _=>rfl) p (off:=0) (by decide) Zo 1 (List.set g (Int.toNat j.x1) true) 4 (List.length (List.set g (Int.toNat j.x1) true)) rfl (List.set g (Int.toNat j.x1) true) rfl) [.tr 32 1 (List.length b) (cellsO Zm (List.set b (Int.toNat l.x0) (List.set g (Int.toNat j.x1) true))),.dead] ?_
     rw [show ([(1,(slc 2 Zai d)),(5,(.own 0 (List.length b))),(7,(i64 (ZI (k + (1:Int)))))]:St)=[(1,(slc 2 Zai d)),(5,(.own 0 (List.length (List.set b (Int.toNat l.x0) (List.set g (Int.toNat j.x1) true))))),(7,(i64 (ZI (k + (1:Int)))))] by simp only [List.length_set]]
     rw [show ([.tr 32 1 (List.length b) (cellsO Zm (List.set b (Int.toNat l.x0) (List.set g (Int.toNat j.x1) true))),.dead]:List Blk)=[.tr 32 1 (List.length (List.set b (Int.toNat l.x0) (List.set g (Int.toNat j.x1) true))) (cellsO Zm (List.set b (Int.toNat l.x0) (List.set g (Int.toNat j.x1) true))),.dead] by simp only [List.length_set]]
     refine LeQ.pk [1,5,7] 1 ?_ (hfar:=(farC (farT (fun z_=>(OVids.c (Zau (row:=Zo) (fun _=>rfl) _) OVids.n))) farN))
     exact⟨t,Nat.lt_succ_self _,(List.set b (Int.toNat l.x0) (List.set g (Int.toNat j.x1) true)),(ZI (k + (1:Int))),hF,by kernel_rfl,by kernel_rfl⟩
    ·refine AWP.exit (LeQ.start ?_)
     refine LeQ.pk [5] 1 ?_ (hfar:=(farC (farT (fun z_=>(OVids.c (Zau (row:=Zo) (fun _=>rfl) _) OVids.n))) farN))
     have hr:=someb hF
     subst hr
     exact⟨rfl,by kernel_rfl,by kernel_rfl⟩
  ·rintro _ _ _ ⟨rfl,rfl,rfl⟩
   refine AWP.seq (AWP.rg0 [] [(4,(.own 0 (List.length o)))] ?_)
   refine AWP.kp [4] 1 ?_ (hfar:=(farC (farT (fun z_=>(OVids.c (Zau (row:=Zo) (fun _=>rfl) _) OVids.n))) farN))
   refine AWP.ret ?_
   have hr:=someb hF
   subst hr
   exact(FnQ.f3 1 (.inr rfl) (.inl (.refl _)) (retT (fun z_=>(OVids.c (Zau (row:=Zo) (fun _=>rfl) _) OVids.n)) retN))
def Zkl (r:((List (List Bool)) × (List Int) × Zj)):PV→List Blk→Prop:=fun p K=>p=(.tup [(slc 1 Zg r.1),(slc 1 Ze r.2.1)])∧K=[.cells (Zh r.2.2)]
theorem Zkm (b6:Zj) (r:((List (List Bool)) × (List Int) × Zj)) (hF:Zdo b6=some r):ACall Tryz.prog glob 6 [(.ptr 0 0)] [.cells (Zh b6)] (Zkl r):=by
 refine ACall.body Tryz.func6 rfl (by kernel_rfl) ?_
 unfold Zdo at hF
 refine AWP.seq (AWP.rg0 [] [(0,(.ptr 0 0))] (AWP.seq ?_))
 obtain⟨b,c7,hF⟩:=bindb hF
 refine AWP.rg [(1,.call Tryz.func10 [] (Zbz b6 (6:Int) b c7))] [(0,(.ptr 0 0)),(4,(i64 (ZI ((1:Int) + b.1))))] [.cells (Zh b.2)] (AWP.seq ?_)
 obtain⟨z,c8,hF⟩:=bindb hF
 refine AWP.rg [(1,.callC Tryz.func14 [] closedH.n (closedH.t (Zj7 (fun z_=>(OVids.c (Zau (row:=Zo) (fun _=>rfl) _) OVids.n))) closedH.n) (Zi1 (ZI ((1:Int) + b.1)) ([]:(List (Arr2 Int))) z c8))] [(0,(.ptr 0 0)),(4,(i64 (ZI ((1:Int) + b.1)))),(5,(.own 1 (List.length z)))] [.cells (Zh b.2),.tr 32 1 (List.length z) (cellsO Zm z)] (AWP.seq (AWP.seq (AWP.rg0 [] [(0,(.ptr 0 0)),(4,(i64 (ZI ((1:Int) + b.1)))),(5,(.own 1 (List.length z))),(6,(i64 (0:Int)))] ?_)))
 obtain⟨c1,c9,hF⟩:=bindb hF
 refine AWP.mid (fun e st H=>(e=.normal∧∃ a4,∃ a,c1=(a4,a)∧st=[(0,(.ptr 0 0)),(4,(i64 (ZI ((1:Int) + b.1)))),(5,(.own 1 (List.length a)))]∧H=[.cells (Zh a4),.tr 32 1 (List.length a) (cellsO Zm a)])) ?_ ?_
 ·clear hF
  refine AWP.kp [0,4,5,6] 2 ?_ (hfar:=(farC (by kernel_rfl) (farC (farT (fun z_=>(OVids.c (Zau (row:=Zo) (fun _=>rfl) _) OVids.n))) farN)))
  refine AWP.bround (fun n st H=>∃ a5,∃ q,∃ d,Zbc b n a5 q d=some c1∧st=[(0,(.ptr 0 0)),(4,(i64 (ZI ((1:Int) + b.1)))),(5,(.own 1 (List.length q))),(6,(i64 d))]∧H=[.cells (Zh a5),.tr 32 1 (List.length q) (cellsO Zm q)]) fuel ⟨b.2,z,(0:Int),c9,by kernel_rfl,by kernel_rfl⟩ ?_
  rintro b7 st H ⟨a5,q,d,hF,rfl,rfl⟩
  cases b7 with
  | zero=>exact noneb hF
  | succ b7=>
   rw [Zbc] at hF
   refine AWP.seq (AWP.seq (AWP.rg0 [] [(0,(.ptr 0 0)),(4,(i64 (ZI ((1:Int) + b.1)))),(5,(.own 1 (List.length q))),(6,(i64 d)),(17,(vb (decide (d<(ZI ((1:Int) + b.1))))))] ?_))
   refine AWP.cif hF (fun d0 hF=>?_) (fun d0 hF=>?_)
   ·refine AWP.skip (AWP.seq (AWP.block (AWP.seq (AWP.rg0 [] [(0,(.ptr 0 0)),(4,(i64 (ZI ((1:Int) + b.1)))),(5,(.own 1 (List.length q))),(6,(i64 d)),(7,(i64 (0:Int)))] ?_))))
    obtain⟨c2,d1,hF⟩:=bindb hF
    refine AWP.mid (fun e st H=>(e=.normal∧∃ b0,∃ w,c2=(b0,w)∧st=[(0,(.ptr 0 0)),(4,(i64 (ZI ((1:Int) + b.1)))),(5,(.own 1 (List.length w))),(6,(i64 d))]∧H=[.cells (Zh b0),.tr 32 1 (List.length w) (cellsO Zm w)])) ?_ ?_
    ·clear hF
     refine AWP.kp [0,4,5,6,7] 2 ?_ (hfar:=(farC (by kernel_rfl) (farC (farT (fun z_=>(OVids.c (Zau (row:=Zo) (fun _=>rfl) _) OVids.n))) farN)))
     refine AWP.bround (fun n st H=>∃ u,∃ f,∃ g,Zbb b d n u f g=some c2∧st=[(0,(.ptr 0 0)),(4,(i64 (ZI ((1:Int) + b.1)))),(5,(.own 1 (List.length f))),(6,(i64 d)),(7,(i64 g))]∧H=[.cells (Zh u),.tr 32 1 (List.length f) (cellsO Zm f)]) fuel ⟨a5,q,(0:Int),d1,by kernel_rfl,by kernel_rfl⟩ ?_
     rintro b8 st H ⟨u,f,g,hF,rfl,rfl⟩
     cases b8 with
     | zero=>exact noneb hF
     | succ b8=>
      rw [Zbb] at hF
      refine AWP.seq (AWP.seq (AWP.rg0 [] [(0,(.ptr 0 0)),(4,(i64 (ZI ((1:Int) + b.1)))),(5,(.own 1 (List.length f))),(6,(i64 d)),(7,(i64 g)),(22,(vb (decide (g<(ZI ((1:Int) + b.1))))))] ?_))
      refine AWP.cif hF (fun d2 hF=>?_) (fun d2 hF=>?_)
      ·refine AWP.skip (AWP.seq (AWP.block ?_))
       obtain⟨j,v,hF⟩:=bindb hF
       refine AWP.gst (.takeB 1 Zm (fun _=>rfl) v (off:=0) (by decide) Zo (fun _=>rfl) (fun _=>rfl) j 4 rfl) [.cells (Zh u),.tr 32 1 (List.length f) (List.set (cellsO Zm f) (Int.toNat d * 1 + 0) (.pv (.own 2 (List.length j)))),bf 1 4 Zo j false] ?_
       obtain⟨b1,b9,hF⟩:=bindb hF
       obtain⟨d3,a6,hF⟩:=bindb hF
       replace a6:=someb a6
       obtain⟨k,c3,hF⟩:=bindb hF
       obtain⟨f2,a0,hF⟩:=bindb hF
       refine AWP.to [(0,(.ptr 0 0)),(4,(i64 (ZI ((1:Int) + b.1)))),(5,(.own 1 (List.length f))),(6,(i64 d)),(7,(i64 g))] [.cells (Zh k.2),.tr 32 1 (List.length f) (List.set (cellsO Zm f) (Int.toNat d * 1 + 0) (.pv (.own 2 (List.length j)))),bf 1 4 Zo (List.set j (Int.toNat g) k.1) false] ?_ ?_
       ·cases d3 with
        | false=>
         have d4:=someb (ifF c3 rfl)
         subst d4
         exact AWP.drT [(2,.idxT v),(3,.ldH Zm (fun _=>rfl) v (.own 2 (List.length j))),(6,.call Tryz.func10 [] (Zbz u (4:Int) b1 b9)),(8,.bool a6),(18,.idx Zo a0),(19,.stE Zo a0 false)] 18 [] [6] []
        | true=>
         have x:=ifT c3 rfl
         obtain⟨d5,b2,x⟩:=bindb x
         replace b2:=someb b2
         obtain⟨f3,c4,x⟩:=bindb x
         replace x:=someb x
         subst x
         cases d5 with
         | false=>
          have a7:=ifF c4 rfl
          obtain⟨c5,d6,a7⟩:=bindb a7
          replace a7:=someb a7
          subst a7
          exact AWP.drT [(2,.idxT v),(3,.ldH Zm (fun _=>rfl) v (.own 2 (List.length j))),(6,.call Tryz.func10 [] (Zbz u (4:Int) b1 b9)),(8,.bool a6),(12,.bool b2),(14,.call Tryz.func10 [] (Zbz b1.2 (8:Int) c5 d6)),(18,.idx Zo a0),(19,.stE Zo a0 (c5.1 == (7:Int)))] 18 [] [6,8,12,14] []
         | true=>
          have d7:=someb (ifT c4 rfl)
          subst d7
          exact AWP.drT [(2,.idxT v),(3,.ldH Zm (fun _=>rfl) v (.own 2 (List.length j))),(6,.call Tryz.func10 [] (Zbz u (4:Int) b1 b9)),(8,.bool a6),(12,.bool b2),(18,.idx Zo a0),(19,.stE Zo a0 true)] 18 [] [6] []
       rw [show ([.cells (Zh k.2),.tr 32 1 (List.length f) (List.set (cellsO Zm f) (Int.toNat d * 1 + 0) (.pv (.own 2 (List.length j)))),bf 1 4 Zo (List.set j (Int.toNat g) k.1) false]:List Blk)=[.cells (Zh k.2),.tr 32 1 (List.length f) (List.set (cellsO Zm f) (Int.toNat d * 1 + 0) (.pv (.own 2 (List.length (List.set j (Int.toNat g) k.1))))),bf 1 4 Zo (List.set j (Int.toNat g) k.1) false] by simp only [List.length_set]]
       refine AWP.rg0 [] [(0,(.ptr 0 0)),(4,(i64 (ZI ((1:Int) + b.1)))),(5,(.own 1 (List.length f))),(6,(i64 d)),(7,(i64 (ZI (g + (1:Int)))))] (LeQ.start ?_)
       refine LeQ.gst (.giveB 1 2 Zm (fun _=>rfl) v (off:=0) (by decide) Zo 1 (List.set j (Int.toNat g) k.1) 4 (List.length (List.set j (Int.toNat g) k.1)) rfl (List.set j (Int.toNat g) k.1) rfl) [.cells (Zh k.2),.tr 32 1 (List.length f) (cellsO Zm (List.set f (Int.toNat d) (List.set j (Int.toNat g) k.1))),.dead] ?_
       rw [show ([(0,(.ptr 0 0)),(4,(i64 (ZI ((1:Int) + b.1)))),(5,(.own 1 (List.length f))),(6,(i64 d)),(7,(i64 (ZI (g + (1:Int)))))]:St)=[(0,(.ptr 0 0)),(4,(i64 (ZI ((1:Int) + b.1)))),(5,(.own 1 (List.length (List.set f (Int.toNat d) (List.set j (Int.toNat g) k.1))))),(6,(i64 d)),(7,(i64 (ZI (g + (1:Int)))))] by simp only [List.length_set]]
       rw [show ([.cells (Zh k.2),.tr 32 1 (List.length f) (cellsO Zm (List.set f (Int.toNat d) (List.set j (Int.toNat g) k.1))),.dead]:List Blk)=[.cells (Zh k.2),.tr 32 1 (List.length (List.set f (Int.toNat d) (List.set j (Int.toNat g) k.1))) (cellsO Zm (List.set f (Int.toNat d) (List.set j (Int.toNat g) k.1))),.dead] by simp only [List.length_set]]
       refine LeQ.pk [0,4,5,6,7] 2 ?_ (hfar:=(farC (by kernel_rfl) (farC (farT (fun z_=>(OVids.c (Zau (row:=Zo) (fun _=>rfl) _) OVids.n))) farN)))
       exact⟨b8,Nat.lt_succ_self _,k.2,(List.set f (Int.toNat d) (List.set j (Int.toNat g) k.1)),(ZI (g + (1:Int))),hF,by kernel_rfl,by kernel_rfl⟩
      ·refine AWP.exit (LeQ.start ?_)
       refine LeQ.pk [0,4,5,6] 2 ?_ (hfar:=(farC (by kernel_rfl) (farC (farT (fun z_=>(OVids.c (Zau (row:=Zo) (fun _=>rfl) _) OVids.n))) farN)))
       exact⟨rfl,u,f,(someb hF).symm,by kernel_rfl,by kernel_rfl⟩
    ·rintro _ _ _ ⟨rfl,b0,w,rfl,rfl,rfl⟩
     refine AWP.rg0 [] [(0,(.ptr 0 0)),(4,(i64 (ZI ((1:Int) + b.1)))),(5,(.own 1 (List.length w))),(6,(i64 (ZI (d + (1:Int)))))] (LeQ.start ?_)
     refine LeQ.pk [0,4,5,6] 2 ?_ (hfar:=(farC (by kernel_rfl) (farC (farT (fun z_=>(OVids.c (Zau (row:=Zo) (fun _=>rfl) _) OVids.n))) farN)))
     exact⟨b7,Nat.lt_succ_self _,b0,w,(ZI (d + (1:Int))),hF,by kernel_rfl,by kernel_rfl⟩
   ·refine AWP.exit (LeQ.start ?_)
    refine LeQ.pk [0,4,5] 2 ?_ (hfar:=(farC (by kernel_rfl) (farC (farT (fun z_=>(OVids.c (Zau (row:=Zo) (fun _=>rfl) _) OVids.n))) farN)))
    exact⟨rfl,a5,q,(someb hF).symm,by kernel_rfl,by kernel_rfl⟩
 ·rintro _ _ _ ⟨rfl,a4,a,rfl,rfl,rfl⟩
  refine AWP.seq (AWP.rg0 [] [(0,(.ptr 0 0)),(4,(i64 (ZI ((1:Int) + b.1)))),(5,(.own 1 (List.length a))),(8,nils)] ?_)
  refine AWP.own (H':=[.cells (Zh a4),.tr 32 1 (List.length a) (cellsO Zm a),bf 1 3 Ze ([]:(List Int)) false]) (st':=[(8,(.own 2 (List.length ([]:(List Int))))),(0,(.ptr 0 0)),(4,(i64 (ZI ((1:Int) + b.1)))),(5,(.own 1 (List.length a)))]) 8 1 3 (by kernel_rfl) (by kernel_rfl) (by kernel_rfl) ?_
  refine AWP.pick (st':=[(0,(.ptr 0 0)),(4,(i64 (ZI ((1:Int) + b.1)))),(5,(.own 1 (List.length a))),(8,(.own 2 (List.length ([]:(List Int)))))]) (ks:=[0,4,5,8]) (by kernel_rfl) ?_
  refine AWP.seq (AWP.seq (AWP.rg0 [] [(0,(.ptr 0 0)),(4,(i64 (ZI ((1:Int) + b.1)))),(5,(.own 1 (List.length a))),(8,(.own 2 (List.length ([]:(List Int))))),(9,(i64 (ZI ((ZI ((1:Int) + b.1)) - (1:Int)))))] ?_))
  obtain⟨c6,d8,hF⟩:=bindb hF
  refine AWP.mid (fun e st H=>(e=.normal∧∃ b3,∃ p,c6=(b3,p)∧st=[(0,(.ptr 0 0)),(4,(i64 (ZI ((1:Int) + b.1)))),(5,(.own 1 (List.length a))),(8,(.own 2 (List.length p)))]∧H=[.cells (Zh b3),.tr 32 1 (List.length a) (cellsO Zm a),bf 1 3 Ze p false])) ?_ ?_
  ·clear hF
   refine AWP.kp [0,4,5,8,9] 3 ?_ (hfar:=(farC (by kernel_rfl) (farC (farT (fun z_=>(OVids.c (Zau (row:=Zo) (fun _=>rfl) _) OVids.n))) (farC (by kernel_rfl) farN))))
   refine AWP.bround (fun n st H=>∃ a8,∃ o,∃ m,Zbd n a8 o m=some c6∧st=[(0,(.ptr 0 0)),(4,(i64 (ZI ((1:Int) + b.1)))),(5,(.own 1 (List.length a))),(8,(.own 2 (List.length o))),(9,(i64 m))]∧H=[.cells (Zh a8),.tr 32 1 (List.length a) (cellsO Zm a),bf 1 3 Ze o false]) fuel ⟨a4,([]:(List Int)),(ZI ((ZI ((1:Int) + b.1)) - (1:Int))),d8,by kernel_rfl,by kernel_rfl⟩ ?_
   rintro c0 st H ⟨a8,o,m,hF,rfl,rfl⟩
   cases c0 with
   | zero=>exact noneb hF
   | succ c0=>
    rw [Zbd] at hF
    refine AWP.seq (AWP.seq (AWP.rg0 [] [(0,(.ptr 0 0)),(4,(i64 (ZI ((1:Int) + b.1)))),(5,(.own 1 (List.length a))),(8,(.own 2 (List.length o))),(9,(i64 m)),(47,(vb (decide (m ≥ (0:Int)))))] ?_))
    refine AWP.cif hF (fun d9 hF=>?_) (fun d9 hF=>?_)
    ·refine AWP.skip ?_
     obtain⟨e0,e1,hF⟩:=bindb hF
     refine AWP.seq ?_
     refine AWP.mid (fun e st H=>(e=.normal∧∃ b4,∃ a1,e0=(b4,a1)∧st=[(0,(.ptr 0 0)),(4,(i64 (ZI ((1:Int) + b.1)))),(5,(.own 1 (List.length a))),(8,(.own 2 (List.length a1))),(9,(i64 m))]∧H=[.cells (Zh b4),.tr 32 1 (List.length a) (cellsO Zm a),bf 1 3 Ze a1 false])) ?_ ?_
     ·clear hF
      have hF:=e1
      refine AWP.block (AWP.seq ?_)
      obtain⟨a2,e2,hF⟩:=bindb hF
      refine AWP.rg [(1,.call Tryz.func10 [] (Zbz a8 (5:Int) a2 e2))] [(0,(.ptr 0 0)),(4,(i64 (ZI ((1:Int) + b.1)))),(5,(.own 1 (List.length a))),(8,(.own 2 (List.length o))),(9,(i64 m)),(52,(vb (decide (a2.1 > (0:Int)))))] [.cells (Zh a2.2),.tr 32 1 (List.length a) (cellsO Zm a),bf 1 3 Ze o false] ?_
      refine AWP.cif hF (fun e3 hF=>?_) (fun e3 hF=>?_)
      ·obtain⟨e4,hF⟩:=chkb hF
       refine AWP.rg [(3,.app Ze (fun _=>by kernel_rfl) e4)] [(0,(.ptr 0 0)),(4,(i64 (ZI ((1:Int) + b.1)))),(5,(.own 1 (List.length a))),(8,(.own 2 (List.length (o++[m])))),(9,(i64 m))] [.cells (Zh a2.2),.tr 32 1 (List.length a) (cellsO Zm a),bf 1 3 Ze (o++[m]) false] (LeQ.start ?_)
       refine LeQ.pk [0,4,5,8,9] 3 ?_ (hfar:=(farC (by kernel_rfl) (farC (farT (fun z_=>(OVids.c (Zau (row:=Zo) (fun _=>rfl) _) OVids.n))) (farC (by kernel_rfl) farN))))
       exact⟨rfl,a2.2,(o++[m]),(someb hF).symm,by kernel_rfl,by kernel_rfl⟩
      ·refine AWP.skip (LeQ.start ?_)
       refine LeQ.pk [0,4,5,8,9] 3 ?_ (hfar:=(farC (by kernel_rfl) (farC (farT (fun z_=>(OVids.c (Zau (row:=Zo) (fun _=>rfl) _) OVids.n))) (farC (by kernel_rfl) farN))))
       exact⟨rfl,a2.2,o,(someb hF).symm,by kernel_rfl,by kernel_rfl⟩
     ·rintro _ _ _ ⟨rfl,b4,a1,rfl,rfl,rfl⟩
      refine AWP.rg0 [] [(0,(.ptr 0 0)),(4,(i64 (ZI ((1:Int) + b.1)))),(5,(.own 1 (List.length a))),(8,(.own 2 (List.length a1))),(9,(i64 (ZI (m - (1:Int)))))] (LeQ.start ?_)
      refine LeQ.pk [0,4,5,8,9] 3 ?_ (hfar:=(farC (by kernel_rfl) (farC (farT (fun z_=>(OVids.c (Zau (row:=Zo) (fun _=>rfl) _) OVids.n))) (farC (by kernel_rfl) farN))))
      exact⟨c0,Nat.lt_succ_self _,b4,a1,(ZI (m - (1:Int))),hF,by kernel_rfl,by kernel_rfl⟩
    ·refine AWP.exit (LeQ.start ?_)
     refine LeQ.pk [0,4,5,8] 3 ?_ (hfar:=(farC (by kernel_rfl) (farC (farT (fun z_=>(OVids.c (Zau (row:=Zo) (fun _=>rfl) _) OVids.n))) (farC (by kernel_rfl) farN))))
     exact⟨rfl,a8,o,(someb hF).symm,by kernel_rfl,by kernel_rfl⟩
  ·rintro _ _ _ ⟨rfl,b3,p,rfl,rfl,rfl⟩
   obtain⟨e5,e6,hF⟩:=bindb hF
   refine AWP.seq ?_
   refine AWP.mid (fun e st H=>(e=.normal∧∃ b5,∃ y,e5=(b5,y)∧st=[(5,(.own 1 (List.length a))),(8,(.own 2 (List.length y)))]∧H=[.cells (Zh b5),.tr 32 1 (List.length a) (cellsO Zm a),bf 1 3 Ze y false])) ?_ ?_
   ·clear hF
    have hF:=e6
    refine AWP.seq ?_
    obtain⟨a9,e7,hF⟩:=bindb hF
    refine AWP.rg [(1,.call Tryz.func10 [] (Zbz b3 (10:Int) a9 e7))] [(0,(.ptr 0 0)),(4,(i64 (ZI ((1:Int) + b.1)))),(5,(.own 1 (List.length a))),(8,(.own 2 (List.length p))),(59,(vb (a9.1 == (9:Int))))] [.cells (Zh a9.2),.tr 32 1 (List.length a) (cellsO Zm a),bf 1 3 Ze p false] ?_
    refine AWP.cif hF (fun e8 hF=>?_) (fun e8 hF=>?_)
    ·obtain⟨a3,e9,hF⟩:=bindb hF
     obtain⟨f0,hF⟩:=chkb hF
     refine AWP.rg [(4,.call Tryz.func10 [] (Zbz a9.2 (ZI ((ZI ((1:Int) + b.1)) + (2:Int))) a3 e9)),(7,.app Ze (fun _=>by kernel_rfl) f0)] [(5,(.own 1 (List.length a))),(8,(.own 2 (List.length (p++[(ZI (a3.1 - (1:Int)))]))))] [.cells (Zh a3.2),.tr 32 1 (List.length a) (cellsO Zm a),bf 1 3 Ze (p++[(ZI (a3.1 - (1:Int)))]) false] (LeQ.start ?_)
     refine LeQ.pk [5,8] 3 ?_ (hfar:=(farC (by kernel_rfl) (farC (farT (fun z_=>(OVids.c (Zau (row:=Zo) (fun _=>rfl) _) OVids.n))) (farC (by kernel_rfl) farN))))
     exact⟨rfl,a3.2,(p++[(ZI (a3.1 - (1:Int)))]),(someb hF).symm,by kernel_rfl,by kernel_rfl⟩
    ·refine AWP.skip (LeQ.start ?_)
     refine LeQ.pk [5,8] 3 ?_ (hfar:=(farC (by kernel_rfl) (farC (farT (fun z_=>(OVids.c (Zau (row:=Zo) (fun _=>rfl) _) OVids.n))) (farC (by kernel_rfl) farN))))
     exact⟨rfl,a9.2,p,(someb hF).symm,by kernel_rfl,by kernel_rfl⟩
   ·rintro _ _ _ ⟨rfl,b5,y,rfl,rfl,rfl⟩
    refine AWP.seq (AWP.rg0 [] [(2,(.own 1 (List.length a))),(3,(.own 2 (List.length y)))] ?_)
    refine AWP.gst (.toBuf 1 Zm Zg (fun _=>rfl) (fun z_=>(FZs.c (FZ.owB (row:=Zo) (s:=1) (fun _=>rfl) (fun _=>rfl) _) FZs.n)) a) [.cells (Zh b5),bf 1 32 Zg a false,bf 1 3 Ze y false] ?_
    refine AWP.ret ?_
    have hr:=someb hF
    subst hr
    exact(FnQ.f1 1 (.inr rfl) (.inr ⟨_,_,rfl,rfl,(.cons _ _ _ _ (Wk.ownT (i:=1) (s:=1) (t:=32) (l:=a) (sh:=false) (row:=Zg) (by kernel_rfl) (.inl rfl)) (.cons _ _ _ _ (Wk.ownT (i:=2) (s:=1) (t:=3) (l:=y) (sh:=false) (row:=Ze) (by kernel_rfl) (.inl rfl)) .nil))⟩))
def Zi2 (r:(List Int)):PV→List Blk→Prop:=fun p K=>p=(.fn 29 [(.ptr 0 0)])∧K=[.cells (Zk r)]
theorem Zi3 (a:(List Int)) (r:(List Int)) (hF:Zdm a=some r):ACall Tryz.prog glob 16 [(slc 1 Ze a)] [] (Zi2 r):=by
 refine ACall.body Tryz.func16 rfl (by kernel_rfl) ?_
 unfold Zdm at hF
 refine AWP.seq (AWP.rg [] [(1,(.ptr 0 0))] [.cells (Zk a)] (AWP.seq (AWP.rg0 [(0,.q)] [(2,(.fn 29 [(.ptr 0 0)]))] (AWP.ret ?_))))
 have hr:=someb hF
 subst hr
 exact(FnQ.f0 1 (.inr rfl))
def Ze9 (a:(List (List Bool))) (b:(List Int)) (r:(Bool × (List (Int × Int)) × (List (Int × Int)))):PV→List Blk→Prop:=fun p K=>p=(vb r.1)∧K=[.fm (List.map (entF (Value.int .i64) (Value.int .i64)) r.2.1),.fm (List.map (entF (Value.int .i64) (Value.int .i64)) r.2.2),.cells [(slc 1 Zg a),(slc 1 Ze b),(.mp 0),(.mp 1)]]
abbrev Zgv (a:(List (List Bool))) (b:(List Int)) (r:(Bool × (List (Int × Int)) × (List (Int × Int)))):Exit→St→List Blk→Prop:=FnQ Tryz.prog Tryz.f17.results 3 (Ze9 a b r)
theorem Zi4:∀(nr:Nat) (d:(List (List Bool))) (b:(List Int)) (f:(List (Int × Int))) (j:(List (Int × Int))) (a:Int) (r:(Bool × (List (Int × Int)) × (List (Int × Int)))) (_hF:Z2 nr d b f j a=some r),ACall Tryz.prog glob 17 [(.ptr 2 0),(i64 a)] [.fm (List.map (entF (Value.int .i64) (Value.int .i64)) f),.fm (List.map (entF (Value.int .i64) (Value.int .i64)) j),.cells [(slc 1 Zg d),(slc 1 Ze b),(.mp 0),(.mp 1)]] (Ze9 d b r):=by
 intro nr
 induction nr with
 | zero=>intro d b f j a r hF; exact noneb (by rw [Z2] at hF; exact hF)
 | succ nr ih=>
  intro d b f j a r hF
  refine ACall.body Tryz.func17 rfl (by kernel_rfl) ?_
  rw [Z2] at hF
  refine AWP.seq (AWP.rg0 [] [(0,(.ptr 2 0)),(1,(i64 a))] (AWP.seq (AWP.seq (AWP.rg0 [(5,.lookM Zed (Value.int .i64) (0:Int) f a)] [(0,(.ptr 2 0)),(1,(i64 a)),(12,(i64 ((mget Zn f a).getD (0:Int))))] (AWP.block (AWP.seq ?_))))))
  refine AWP.rg0 [] [(0,(.ptr 2 0)),(1,(i64 a)),(12,(i64 ((mget Zn f a).getD (0:Int)))),(13,(vb (((mget Zn f a).getD (0:Int)) == (2:Int))))] ?_
  refine AWP.cif hF (fun v hF=>?_) (fun v hF=>?_)
  ·refine AWP.seq (AWP.rg0 [] [(4,(vb true))] (AWP.ret ?_))
   have hr:=someb hF
   subst hr
   exact(FnQ.f0 3 (.inr rfl))
  ·refine AWP.seq (AWP.rg0 [] [(0,(.ptr 2 0)),(1,(i64 a)),(15,(vb (((mget Zn f a).getD (0:Int)) == (1:Int))))] ?_)
   refine AWP.cif hF (fun w hF=>?_) (fun w hF=>?_)
   ·refine AWP.seq (AWP.rg0 [] [(4,(vb false))] (AWP.ret ?_))
    have hr:=someb hF
    subst hr
    exact(FnQ.f0 3 (.inr rfl))
   ·refine AWP.skip (AWP.seq (AWP.rg [(5,.putM Zed (Value.int .i64) f a (1:Int))] [(0,(.ptr 2 0)),(1,(i64 a))] [.fm (List.map (entF (Value.int .i64) (Value.int .i64)) (mput Zn f a (1:Int))),.fm (List.map (entF (Value.int .i64) (Value.int .i64)) j),.cells [(slc 1 Zg d),(slc 1 Ze b),(.mp 0),(.mp 1)]] (AWP.seq (AWP.seq (AWP.rg0 [(4,.len Ze b)] [(0,(.ptr 2 0)),(1,(i64 a)),(25,(slc 1 Ze b)),(26,(i64 (List.length b:Int))),(27,(i64 (0:Int)))] ?_)))))
    obtain⟨s,x,hF⟩:=bindb hF
    refine AWP.mid (fun e st H=>(e=.normal∧∃ m,∃ o,s=(.inl (m,o))∧st=[(0,(.ptr 2 0)),(1,(i64 a))]∧H=[.fm (List.map (entF (Value.int .i64) (Value.int .i64)) m),.fm (List.map (entF (Value.int .i64) (Value.int .i64)) o),.cells [(slc 1 Zg d),(slc 1 Ze b),(.mp 0),(.mp 1)]])∨(e=.ret∧∃ r,s=(.inr r)∧Zgv d b r e st H)) ?_ ?_
    ·clear hF
     refine AWP.kp [0,1,25,26,27] 3 ?_
     refine AWP.bround (fun n st H=>∃ k,∃ l,∃ g,Za3 d b a (Z2 nr) n k l g=some s∧st=[(0,(.ptr 2 0)),(1,(i64 a)),(25,(slc 1 Ze b)),(26,(i64 (List.length b:Int))),(27,(i64 g))]∧H=[.fm (List.map (entF (Value.int .i64) (Value.int .i64)) k),.fm (List.map (entF (Value.int .i64) (Value.int .i64)) l),.cells [(slc 1 Zg d),(slc 1 Ze b),(.mp 0),(.mp 1)]]) fuel ⟨(mput Zn f a (1:Int)),j,(0:Int),x,by kernel_rfl,by kernel_rfl⟩ ?_
     rintro t st H ⟨k,l,g,hF,rfl,rfl⟩
     cases t with
     | zero=>exact noneb hF
     | succ t=>
      rw [Za3] at hF
      refine AWP.seq (AWP.rg0 [] [(0,(.ptr 2 0)),(1,(i64 a)),(25,(slc 1 Ze b)),(26,(i64 (List.length b:Int))),(27,(i64 g)),(28,(vb (decide (g<(List.length b:Int)))))] (AWP.seq ?_))
      refine AWP.cif hF (fun y hF=>?_) (fun y hF=>?_)
      ·refine AWP.skip ?_
       obtain⟨u,z,hF⟩:=bindb hF
       refine AWP.seq ?_
       refine AWP.mid (fun e st H=>(e=.normal∧∃ p,∃ q,u=(.inl (p,q))∧st=[(0,(.ptr 2 0)),(1,(i64 a)),(25,(slc 1 Ze b)),(26,(i64 (List.length b:Int))),(27,(i64 g))]∧H=[.fm (List.map (entF (Value.int .i64) (Value.int .i64)) p),.fm (List.map (entF (Value.int .i64) (Value.int .i64)) q),.cells [(slc 1 Zg d),(slc 1 Ze b),(.mp 0),(.mp 1)]])∨(e=.ret∧∃ r,u=(.inr r)∧Zgv d b r e st H)) ?_ ?_
       ·clear hF
        have hF:=z
        refine AWP.block (AWP.seq ?_)
        obtain⟨i,a0,hF⟩:=bindb hF
        refine AWP.rg0 [(0,.idx Ze a0)] [(0,(.ptr 2 0)),(1,(i64 a)),(6,(i64 i)),(25,(slc 1 Ze b)),(26,(i64 (List.length b:Int))),(27,(i64 g))] (AWP.seq (AWP.seq ?_))
        obtain⟨a8,a1,hF⟩:=bindb hF
        obtain⟨a2,a3,hF⟩:=bindb hF
        refine AWP.rg0 [(5,.idx Zg a1),(8,.idx Zo a3)] [(0,(.ptr 2 0)),(1,(i64 a)),(6,(i64 i)),(25,(slc 1 Ze b)),(26,(i64 (List.length b:Int))),(27,(i64 g)),(41,(vb (!a2)))] ?_
        refine AWP.cif hF (fun a4 hF=>?_) (fun a4 hF=>?_)
        ·refine AWP.exit (LeQ.start (LeQ.pk [0,1,25,26,27] 3 ?_))
         exact(.inl ⟨rfl,k,l,(someb hF).symm,by kernel_rfl,by kernel_rfl⟩)
        ·refine AWP.skip (AWP.seq (AWP.seq ?_))
         obtain⟨c,a5,hF⟩:=bindb hF
         refine AWP.rg [(2,.callS Tryz.func17 [0,1,2] [] (ih d b k l i c a5))] [(0,(.ptr 2 0)),(1,(i64 a)),(6,(i64 i)),(25,(slc 1 Ze b)),(26,(i64 (List.length b:Int))),(27,(i64 g)),(45,(vb (!c.1)))] [.fm (List.map (entF (Value.int .i64) (Value.int .i64)) c.2.1),.fm (List.map (entF (Value.int .i64) (Value.int .i64)) c.2.2),.cells [(slc 1 Zg d),(slc 1 Ze b),(.mp 0),(.mp 1)]] ?_
         refine AWP.cif hF (fun a6 hF=>?_) (fun a6 hF=>?_)
         ·refine AWP.seq (AWP.rg0 [] [(4,(vb false))] (AWP.ret ?_))
          exact LeQ.of (.inr ⟨rfl,(false,c.2.1,c.2.2),(someb hF).symm,(FnQ.f0 3 (.inr rfl))⟩)
         ·refine AWP.skip (AWP.dr [(10,.lookM Zed (Value.int .i64) (0:Int) c.2.2 a),(16,.lookM Zed (Value.int .i64) (0:Int) c.2.2 i),(19,.putM Zed (Value.int .i64) c.2.2 a (iMax ((mget Zn c.2.2 a).getD (0:Int)) (ZI (((mget Zn c.2.2 i).getD (0:Int)) + (1:Int)))))] 19 [] [] [] [(0,(.ptr 2 0)),(1,(i64 a)),(25,(slc 1 Ze b)),(26,(i64 (List.length b:Int))),(27,(i64 g))] [.fm (List.map (entF (Value.int .i64) (Value.int .i64)) c.2.1),.fm (List.map (entF (Value.int .i64) (Value.int .i64)) (mput Zn c.2.2 a (iMax ((mget Zn c.2.2 a).getD (0:Int)) (ZI (((mget Zn c.2.2 i).getD (0:Int)) + (1:Int)))))),.cells [(slc 1 Zg d),(slc 1 Ze b),(.mp 0),(.mp 1)]] (LeQ.start (LeQ.pk [0,1,25,26,27] 3 ?_)))
          exact(.inl ⟨rfl,c.2.1,(mput Zn c.2.2 a (iMax ((mget Zn c.2.2 a).getD (0:Int)) (ZI (((mget Zn c.2.2 i).getD (0:Int)) + (1:Int))))),(someb hF).symm,by kernel_rfl,by kernel_rfl⟩)
       ·rintro _ _ _ (⟨rfl,p,q,rfl,rfl,rfl⟩ | ⟨rfl,a7,rfl,hq⟩)
        ·refine AWP.rg0 [] [(0,(.ptr 2 0)),(1,(i64 a)),(25,(slc 1 Ze b)),(26,(i64 (List.length b:Int))),(27,(i64 (ZI (g + (1:Int)))))] (LeQ.start (LeQ.pk [0,1,25,26,27] 3 ?_))
         exact⟨t,Nat.lt_succ_self _,p,q,(ZI (g + (1:Int))),hF,by kernel_rfl,by kernel_rfl⟩
        ·exact LeQ.of (.inr ⟨rfl,a7,(someb hF).symm,hq⟩)
      ·refine AWP.exit (LeQ.start (LeQ.pk [0,1] 3 ?_))
       exact(.inl ⟨rfl,k,l,(someb hF).symm,by kernel_rfl,by kernel_rfl⟩)
    ·rintro _ _ _ (⟨rfl,m,o,rfl,rfl,rfl⟩ | ⟨rfl,a9,rfl,hq⟩)
     ·refine AWP.seq (AWP.rg [(5,.putM Zed (Value.int .i64) m a (2:Int))] [] [.fm (List.map (entF (Value.int .i64) (Value.int .i64)) (mput Zn m a (2:Int))),.fm (List.map (entF (Value.int .i64) (Value.int .i64)) o),.cells [(slc 1 Zg d),(slc 1 Ze b),(.mp 0),(.mp 1)]] (AWP.seq (AWP.rg0 [] [(4,(vb true))] (AWP.ret ?_))))
      have hr:=someb hF
      subst hr
      exact(FnQ.f0 3 (.inr rfl))
     ·have hr:=someb hF
      subst hr
      exact hq
theorem Zjt (a:(List (List Bool))) (b:(List Int)) (c:(List (Int × Int))) (d:(List (Int × Int))) (f:Int) (r:(Bool × (List (Int × Int)) × (List (Int × Int)))) (hF:Z2 fuel a b c d f=some r):ACall Tryz.prog glob 17 [(.ptr 2 0),(i64 f)] [.fm (List.map (entF (Value.int .i64) (Value.int .i64)) c),.fm (List.map (entF (Value.int .i64) (Value.int .i64)) d),.cells [(slc 1 Zg a),(slc 1 Ze b),(.mp 0),(.mp 1)]] (Ze9 a b r):=Zi4 fuel a b c d f r hF
def Zix (r:((List (List Int)) × Bool)):PV→List Blk→Prop:=fun p K=>p=(.tup [(slc 1 Zk r.1),(vb r.2)])∧K=[]
abbrev Zgn (r:((List (List Int)) × Bool)):Exit→St→List Blk→Prop:=FnQ Tryz.prog Tryz.f7.results 0 (Zix r)
theorem Zmi (b:(List (List Bool))) (a:(List Int)) (r:((List (List Int)) × Bool)) (hF:Zeb b a=some r):ACall Tryz.prog glob 7 [(slc 1 Zg b),(slc 1 Ze a)] [] (Zix r):=by
 refine ACall.body Tryz.func7 rfl (by kernel_rfl) ?_
 unfold Zeb at hF
 refine AWP.seq (AWP.rg0 [] [(0,(slc 1 Zg b)),(1,(slc 1 Ze a))] (AWP.seq (AWP.rg [(2,.mkM),(3,.mkM)] [(0,(slc 1 Zg b)),(1,(slc 1 Ze a)),(6,(.ptr 2 0))] [.fm (List.map (entF (Value.int .i64) (Value.int .i64)) ([]:(List (Int × Int)))),.fm (List.map (entF (Value.int .i64) (Value.int .i64)) ([]:(List (Int × Int)))),.cells [(slc 1 Zg b),(slc 1 Ze a),(.mp 0),(.mp 1)]] (AWP.seq (AWP.rg [(0,.mkM)] [(0,(slc 1 Zg b)),(1,(slc 1 Ze a)),(6,(.ptr 2 0)),(7,(.mp 3))] [.fm (List.map (entF (Value.int .i64) (Value.int .i64)) ([]:(List (Int × Int)))),.fm (List.map (entF (Value.int .i64) (Value.int .i64)) ([]:(List (Int × Int)))),.cells [(slc 1 Zg b),(slc 1 Ze a),(.mp 0),(.mp 1)],.fm (List.map (entF (Value.int .i64) Value.bool) ([]:(List (Int × Bool))))] (AWP.seq ?_))))))
 refine AWP.seq (AWP.rg0 [(1,.len Ze a)] [(0,(slc 1 Zg b)),(1,(slc 1 Ze a)),(6,(.ptr 2 0)),(7,(.mp 3)),(21,(slc 1 Ze a)),(22,(i64 (List.length a:Int))),(23,(i64 (0:Int)))] ?_)
 obtain⟨a7,b7,hF⟩:=bindb hF
 refine AWP.mid (fun e st H=>(e=.normal∧∃ k,a7=(.inl k)∧st=[(1,(slc 1 Ze a)),(6,(.ptr 2 0))]∧H=[.fm (List.map (entF (Value.int .i64) (Value.int .i64)) ([]:(List (Int × Int)))),.fm (List.map (entF (Value.int .i64) (Value.int .i64)) ([]:(List (Int × Int)))),.cells [(slc 1 Zg b),(slc 1 Ze a),(.mp 0),(.mp 1)],.fm (List.map (entF (Value.int .i64) Value.bool) k)])∨(e=.ret∧∃ r,a7=(.inr r)∧Zgn r e st H)) ?_ ?_
 ·clear hF
  refine AWP.kp [0,1,6,7,21,22,23] 4 ?_
  refine AWP.bround (fun n st H=>∃ w,∃ o,Zca b a n w o=some a7∧st=[(0,(slc 1 Zg b)),(1,(slc 1 Ze a)),(6,(.ptr 2 0)),(7,(.mp 3)),(21,(slc 1 Ze a)),(22,(i64 (List.length a:Int))),(23,(i64 o))]∧H=[.fm (List.map (entF (Value.int .i64) (Value.int .i64)) ([]:(List (Int × Int)))),.fm (List.map (entF (Value.int .i64) (Value.int .i64)) ([]:(List (Int × Int)))),.cells [(slc 1 Zg b),(slc 1 Ze a),(.mp 0),(.mp 1)],.fm (List.map (entF (Value.int .i64) Value.bool) w)]) fuel ⟨([]:(List (Int × Bool))),(0:Int),b7,by kernel_rfl,by kernel_rfl⟩ ?_
  rintro a8 st H ⟨w,o,hF,rfl,rfl⟩
  cases a8 with
  | zero=>exact noneb hF
  | succ a8=>
   rw [Zca] at hF
   refine AWP.seq (AWP.rg0 [] [(0,(slc 1 Zg b)),(1,(slc 1 Ze a)),(6,(.ptr 2 0)),(7,(.mp 3)),(21,(slc 1 Ze a)),(22,(i64 (List.length a:Int))),(23,(i64 o)),(24,(vb (decide (o<(List.length a:Int)))))] (AWP.seq ?_))
   refine AWP.cif hF (fun b8 hF=>?_) (fun b8 hF=>?_)
   ·refine AWP.skip (AWP.seq (AWP.block (AWP.seq ?_)))
    obtain⟨p,b9,hF⟩:=bindb hF
    refine AWP.rg0 [(0,.idx Ze b9)] [(0,(slc 1 Zg b)),(1,(slc 1 Ze a)),(6,(.ptr 2 0)),(7,(.mp 3)),(9,(i64 p)),(21,(slc 1 Ze a)),(22,(i64 (List.length a:Int))),(23,(i64 o))] (AWP.seq (AWP.seq ?_))
    obtain⟨c0,a1,hF⟩:=bindb hF
    replace a1:=someb a1
    obtain⟨b5,a2,hF⟩:=bindb hF
    replace a2:=someb a2
    refine AWP.to [(0,(slc 1 Zg b)),(1,(slc 1 Ze a)),(6,(.ptr 2 0)),(7,(.mp 3)),(9,(i64 p)),(21,(slc 1 Ze a)),(22,(i64 (List.length a:Int))),(23,(i64 o)),(39,(vb (b5 || ((mget Zn w p).getD false))))] [.fm (List.map (entF (Value.int .i64) (Value.int .i64)) ([]:(List (Int × Int)))),.fm (List.map (entF (Value.int .i64) (Value.int .i64)) ([]:(List (Int × Int)))),.cells [(slc 1 Zg b),(slc 1 Ze a),(.mp 0),(.mp 1)],.fm (List.map (entF (Value.int .i64) Value.bool) w)] ?_ ?_
    ·cases c0 with
     | false=>
      cases b5 with
      | false=>
       exact AWP.rgT [(2,.bool a1),(5,.len Zg b),(8,.bool a2),(11,.lookM Zed Value.bool false w p)]
      | true=>
       exact AWP.rgT [(2,.bool a1),(5,.len Zg b),(8,.bool a2)]
     | true=>
      subst a2
      exact AWP.rgT [(2,.bool a1)]
    refine AWP.cif hF (fun c1 hF=>?_) (fun c1 hF=>?_)
    ·refine AWP.seq (AWP.rg0 [] [(4,nils),(5,(vb false))] (AWP.ret ?_))
     exact LeQ.of (.inr ⟨rfl,(([]:(List (List Int))),false),(someb hF).symm,(FnQ.f1 0 (.inr rfl) (.inr ⟨_,_,rfl,rfl,(.cons _ _ _ _ (.nil 1) (.cons _ _ _ _ (.refl _) .nil))⟩))⟩)
    ·refine AWP.skip (AWP.seq (AWP.seq (AWP.rg0 [(1,.len Zg b)] [(0,(slc 1 Zg b)),(1,(slc 1 Ze a)),(6,(.ptr 2 0)),(7,(.mp 3)),(9,(i64 p)),(21,(slc 1 Ze a)),(22,(i64 (List.length a:Int))),(23,(i64 o)),(40,(slc 1 Zg b)),(41,(i64 (List.length b:Int))),(42,(i64 (0:Int)))] ?_)))
     obtain⟨a9,c2,hF⟩:=bindb hF
     refine AWP.mid (fun e st H=>(e=.normal∧a9=(.inl ())∧st=[(0,(slc 1 Zg b)),(1,(slc 1 Ze a)),(6,(.ptr 2 0)),(7,(.mp 3)),(9,(i64 p)),(21,(slc 1 Ze a)),(22,(i64 (List.length a:Int))),(23,(i64 o))]∧H=[.fm (List.map (entF (Value.int .i64) (Value.int .i64)) ([]:(List (Int × Int)))),.fm (List.map (entF (Value.int .i64) (Value.int .i64)) ([]:(List (Int × Int)))),.cells [(slc 1 Zg b),(slc 1 Ze a),(.mp 0),(.mp 1)],.fm (List.map (entF (Value.int .i64) Value.bool) w)])∨(e=.ret∧∃ r,a9=(.inr r)∧Zgn r e st H)) ?_ ?_
     ·clear hF
      refine AWP.kp [0,1,6,7,9,21,22,23,40,41,42] 4 ?_
      refine AWP.bround (fun n st H=>∃ y,Zb9 b p n y=some a9∧st=[(0,(slc 1 Zg b)),(1,(slc 1 Ze a)),(6,(.ptr 2 0)),(7,(.mp 3)),(9,(i64 p)),(21,(slc 1 Ze a)),(22,(i64 (List.length a:Int))),(23,(i64 o)),(40,(slc 1 Zg b)),(41,(i64 (List.length b:Int))),(42,(i64 y))]∧H=[.fm (List.map (entF (Value.int .i64) (Value.int .i64)) ([]:(List (Int × Int)))),.fm (List.map (entF (Value.int .i64) (Value.int .i64)) ([]:(List (Int × Int)))),.cells [(slc 1 Zg b),(slc 1 Ze a),(.mp 0),(.mp 1)],.fm (List.map (entF (Value.int .i64) Value.bool) w)]) fuel ⟨(0:Int),c2,by kernel_rfl,by kernel_rfl⟩ ?_
      rintro b0 st H ⟨y,hF,rfl,rfl⟩
      cases b0 with
      | zero=>exact noneb hF
      | succ b0=>
       rw [Zb9] at hF
       refine AWP.seq (AWP.rg0 [] [(0,(slc 1 Zg b)),(1,(slc 1 Ze a)),(6,(.ptr 2 0)),(7,(.mp 3)),(9,(i64 p)),(21,(slc 1 Ze a)),(22,(i64 (List.length a:Int))),(23,(i64 o)),(40,(slc 1 Zg b)),(41,(i64 (List.length b:Int))),(42,(i64 y)),(43,(vb (decide (y<(List.length b:Int)))))] (AWP.seq ?_))
       refine AWP.cif hF (fun c3 hF=>?_) (fun c3 hF=>?_)
       ·refine AWP.skip (AWP.seq (AWP.block (AWP.seq ?_)))
        obtain⟨b1,c4,hF⟩:=bindb hF
        refine AWP.rg0 [(0,.idx Zg c4)] [(0,(slc 1 Zg b)),(1,(slc 1 Ze a)),(6,(.ptr 2 0)),(7,(.mp 3)),(9,(i64 p)),(11,(slc 1 Zo b1)),(21,(slc 1 Ze a)),(22,(i64 (List.length a:Int))),(23,(i64 o)),(40,(slc 1 Zg b)),(41,(i64 (List.length b:Int))),(42,(i64 y))] (AWP.seq (AWP.rg0 [(2,.len Zo b1)] [(0,(slc 1 Zg b)),(1,(slc 1 Ze a)),(6,(.ptr 2 0)),(7,(.mp 3)),(9,(i64 p)),(21,(slc 1 Ze a)),(22,(i64 (List.length a:Int))),(23,(i64 o)),(40,(slc 1 Zg b)),(41,(i64 (List.length b:Int))),(42,(i64 y)),(49,(vb (decide (p ≥ (List.length b1:Int)))))] ?_))
        refine AWP.cif hF (fun c5 hF=>?_) (fun c5 hF=>?_)
        ·refine AWP.seq (AWP.rg0 [] [(4,nils),(5,(vb false))] (AWP.ret ?_))
         exact LeQ.of (.inr ⟨rfl,(([]:(List (List Int))),false),(someb hF).symm,(FnQ.f1 0 (.inr rfl) (.inr ⟨_,_,rfl,rfl,(.cons _ _ _ _ (.nil 1) (.cons _ _ _ _ (.refl _) .nil))⟩))⟩)
        ·refine AWP.skip (AWP.rg0 [] [(0,(slc 1 Zg b)),(1,(slc 1 Ze a)),(6,(.ptr 2 0)),(7,(.mp 3)),(9,(i64 p)),(21,(slc 1 Ze a)),(22,(i64 (List.length a:Int))),(23,(i64 o)),(40,(slc 1 Zg b)),(41,(i64 (List.length b:Int))),(42,(i64 (ZI (y + (1:Int)))))] (LeQ.start (LeQ.pk [0,1,6,7,9,21,22,23,40,41,42] 4 ?_)))
         exact⟨b0,Nat.lt_succ_self _,(ZI (y + (1:Int))),hF,by kernel_rfl,by kernel_rfl⟩
       ·refine AWP.exit (LeQ.start (LeQ.pk [0,1,6,7,9,21,22,23] 4 ?_))
        exact(.inl ⟨rfl,(someb hF).symm,by kernel_rfl,by kernel_rfl⟩)
     ·rintro _ _ _ (⟨rfl,rfl,rfl,rfl⟩ | ⟨rfl,c6,rfl,hq⟩)
      ·refine AWP.rg [(2,.putM Zed Value.bool w p true)] [(0,(slc 1 Zg b)),(1,(slc 1 Ze a)),(6,(.ptr 2 0)),(7,(.mp 3)),(21,(slc 1 Ze a)),(22,(i64 (List.length a:Int))),(23,(i64 o))] [.fm (List.map (entF (Value.int .i64) (Value.int .i64)) ([]:(List (Int × Int)))),.fm (List.map (entF (Value.int .i64) (Value.int .i64)) ([]:(List (Int × Int)))),.cells [(slc 1 Zg b),(slc 1 Ze a),(.mp 0),(.mp 1)],.fm (List.map (entF (Value.int .i64) Value.bool) (mput Zn w p true))] (AWP.rg0 [] [(0,(slc 1 Zg b)),(1,(slc 1 Ze a)),(6,(.ptr 2 0)),(7,(.mp 3)),(21,(slc 1 Ze a)),(22,(i64 (List.length a:Int))),(23,(i64 (ZI (o + (1:Int)))))] (LeQ.start (LeQ.pk [0,1,6,7,21,22,23] 4 ?_)))
       exact⟨a8,Nat.lt_succ_self _,(mput Zn w p true),(ZI (o + (1:Int))),hF,by kernel_rfl,by kernel_rfl⟩
      ·exact LeQ.of (.inr ⟨rfl,c6,(someb hF).symm,hq⟩)
   ·refine AWP.exit (LeQ.start (LeQ.pk [1,6] 4 ?_))
    exact(.inl ⟨rfl,w,(someb hF).symm,by kernel_rfl,by kernel_rfl⟩)
 ·rintro _ _ _ (⟨rfl,k,rfl,rfl,rfl⟩ | ⟨rfl,d7,rfl,hq⟩)
  ·refine AWP.seq (AWP.rg0 [] [(1,(slc 1 Ze a)),(6,(.ptr 2 0)),(12,nils)] ?_)
   refine AWP.own (H':=[.fm (List.map (entF (Value.int .i64) (Value.int .i64)) ([]:(List (Int × Int)))),.fm (List.map (entF (Value.int .i64) (Value.int .i64)) ([]:(List (Int × Int)))),.cells [(slc 1 Zg b),(slc 1 Ze a),(.mp 0),(.mp 1)],.fm (List.map (entF (Value.int .i64) Value.bool) k),bf 1 22 Zk ([]:(List (List Int))) false]) (st':=[(12,(.own 4 (List.length ([]:(List (List Int)))))),(1,(slc 1 Ze a)),(6,(.ptr 2 0))]) 12 1 22 (by kernel_rfl) (by kernel_rfl) (by kernel_rfl) ?_
   refine AWP.pick (st':=[(1,(slc 1 Ze a)),(6,(.ptr 2 0)),(12,(.own 4 (List.length ([]:(List (List Int))))))]) (ks:=[1,6,12]) (by kernel_rfl) ?_
   refine AWP.gst (.toTr 4 Zw Zk ([]:(List (List Int))) rfl) [.fm (List.map (entF (Value.int .i64) (Value.int .i64)) ([]:(List (Int × Int)))),.fm (List.map (entF (Value.int .i64) (Value.int .i64)) ([]:(List (Int × Int)))),.cells [(slc 1 Zg b),(slc 1 Ze a),(.mp 0),(.mp 1)],.fm (List.map (entF (Value.int .i64) Value.bool) k),.tr 22 1 (List.length ([]:(List (List Int)))) (cellsO Zw ([]:(List (List Int))))] ?_
   refine AWP.seq (AWP.seq ?_)
   obtain⟨d,c7,hF⟩:=bindb hF
   obtain⟨c8,hF⟩:=chkb hF
   refine AWP.rg [(1,.call Tryz.func16 [] (Zi3 a d c7)),(2,.sortV Tryz.func15 rfl Zrz d c8),(3,.len Ze (sortI d))] [(6,(.ptr 2 0)),(12,(.own 4 (List.length ([]:(List (List Int)))))),(56,(.own 6 (List.length (sortI d)))),(57,(i64 (List.length (sortI d):Int))),(58,(i64 (0:Int)))] [.fm (List.map (entF (Value.int .i64) (Value.int .i64)) ([]:(List (Int × Int)))),.fm (List.map (entF (Value.int .i64) (Value.int .i64)) ([]:(List (Int × Int)))),.cells [(slc 1 Zg b),(slc 1 Ze a),(.mp 0),(.mp 1)],.fm (List.map (entF (Value.int .i64) Value.bool) k),.tr 22 1 (List.length ([]:(List (List Int)))) (cellsO Zw ([]:(List (List Int)))),.cells (Zk d),bf 1 3 Ze (sortI d) false] ?_
   obtain⟨b2,c9,hF⟩:=bindb hF
   refine AWP.mid (fun e st H=>(e=.normal∧∃ a5,∃ a6,∃ z,b2=(.inl (a5,a6,z))∧st=[(12,(.own 4 (List.length z)))]∧H=[.fm (List.map (entF (Value.int .i64) (Value.int .i64)) a5),.fm (List.map (entF (Value.int .i64) (Value.int .i64)) a6),.cells [(slc 1 Zg b),(slc 1 Ze a),(.mp 0),(.mp 1)],.fm (List.map (entF (Value.int .i64) Value.bool) k),.tr 22 1 (List.length z) (cellsO Zw z),.cells (Zk d),bf 1 3 Ze (sortI d) false])∨(e=.ret∧∃ r,b2=(.inr r)∧Zgn r e st H)) ?_ ?_
   ·clear hF
    refine AWP.kp [6,12,56,57,58] 7 ?_ (hfar:=(farC (by kernel_rfl) (farC (by kernel_rfl) (farC (by kernel_rfl) (farC (by kernel_rfl) (farC (farT (fun z_=>(OVids.c (Zau (row:=Ze) (fun _=>rfl) _) OVids.n))) (farC (by kernel_rfl) (farC (by kernel_rfl) farN))))))))
    refine AWP.bround (fun n st H=>∃ a3,∃ a4,∃ x,∃ q,Zcc b a d n a3 a4 x q=some b2∧st=[(6,(.ptr 2 0)),(12,(.own 4 (List.length x))),(56,(.own 6 (List.length (sortI d)))),(57,(i64 (List.length (sortI d):Int))),(58,(i64 q))]∧H=[.fm (List.map (entF (Value.int .i64) (Value.int .i64)) a3),.fm (List.map (entF (Value.int .i64) (Value.int .i64)) a4),.cells [(slc 1 Zg b),(slc 1 Ze a),(.mp 0),(.mp 1)],.fm (List.map (entF (Value.int .i64) Value.bool) k),.tr 22 1 (List.length x) (cellsO Zw x),.cells (Zk d),bf 1 3 Ze (sortI d) false]) fuel ⟨([]:(List (Int × Int))),([]:(List (Int × Int))),([]:(List (List Int))),(0:Int),c9,by kernel_rfl,by kernel_rfl⟩ ?_
    rintro b3 st H ⟨a3,a4,x,q,hF,rfl,rfl⟩
    cases b3 with
    | zero=>exact noneb hF
    | succ b3=>
     rw [Zcc] at hF
     refine AWP.seq (AWP.rg0 [] [(6,(.ptr 2 0)),(12,(.own 4 (List.length x))),(56,(.own 6 (List.length (sortI d)))),(57,(i64 (List.length (sortI d):Int))),(58,(i64 q)),(59,(vb (decide (q<(List.length (sortI d):Int)))))] (AWP.seq ?_))
     refine AWP.cif hF (fun d0 hF=>?_) (fun d0 hF=>?_)
     ·refine AWP.skip (AWP.seq (AWP.block (AWP.seq ?_)))
      obtain⟨g,b6,hF⟩:=bindb hF
      refine AWP.rg0 [(0,.idx Ze b6),(1,.ldE Ze b6)] [(6,(.ptr 2 0)),(12,(.own 4 (List.length x))),(14,(i64 g)),(56,(.own 6 (List.length (sortI d)))),(57,(i64 (List.length (sortI d):Int))),(58,(i64 q))] (AWP.seq (AWP.seq ?_))
      obtain⟨f,d1,hF⟩:=bindb hF
      refine AWP.rg [(1,.callS Tryz.func17 [0,1,2] [] (Zjt b a a3 a4 g f d1))] [(6,(.ptr 2 0)),(12,(.own 4 (List.length x))),(14,(i64 g)),(56,(.own 6 (List.length (sortI d)))),(57,(i64 (List.length (sortI d):Int))),(58,(i64 q)),(64,(vb (!f.1)))] [.fm (List.map (entF (Value.int .i64) (Value.int .i64)) f.2.1),.fm (List.map (entF (Value.int .i64) (Value.int .i64)) f.2.2),.cells [(slc 1 Zg b),(slc 1 Ze a),(.mp 0),(.mp 1)],.fm (List.map (entF (Value.int .i64) Value.bool) k),.tr 22 1 (List.length x) (cellsO Zw x),.cells (Zk d),bf 1 3 Ze (sortI d) false] ?_
      refine AWP.cif hF (fun d2 hF=>?_) (fun d2 hF=>?_)
      ·refine AWP.seq (AWP.rg0 [] [(4,nils),(5,(vb false))] (AWP.ret ?_))
       exact LeQ.of (.inr ⟨rfl,(([]:(List (List Int))),false),(someb hF).symm,(FnQ.f1 0 (.inr rfl) (.inr ⟨_,_,rfl,rfl,(.cons _ _ _ _ (.nil 1) (.cons _ _ _ _ (.refl _) .nil))⟩))⟩)
      ·refine AWP.skip (AWP.seq ?_)
       obtain⟨j,d3,hF⟩:=bindb hF
       refine AWP.mid (fun e st H=>e=.normal∧st=[(6,(.ptr 2 0)),(12,(.own 4 (List.length j))),(14,(i64 g)),(56,(.own 6 (List.length (sortI d)))),(57,(i64 (List.length (sortI d):Int))),(58,(i64 q))]∧H=[.fm (List.map (entF (Value.int .i64) (Value.int .i64)) f.2.1),.fm (List.map (entF (Value.int .i64) (Value.int .i64)) f.2.2),.cells [(slc 1 Zg b),(slc 1 Ze a),(.mp 0),(.mp 1)],.fm (List.map (entF (Value.int .i64) Value.bool) k),.tr 22 1 (List.length j) (cellsO Zw j),.cells (Zk d),bf 1 3 Ze (sortI d) false]) ?_ ?_
       ·clear hF
        refine AWP.kp [6,12,14,56,57,58] 7 ?_ (hfar:=(farC (by kernel_rfl) (farC (by kernel_rfl) (farC (by kernel_rfl) (farC (by kernel_rfl) (farC (farT (fun z_=>(OVids.c (Zau (row:=Ze) (fun _=>rfl) _) OVids.n))) (farC (by kernel_rfl) (farC (by kernel_rfl) farN))))))))
        refine AWP.bround (fun n st H=>∃ u,Zcb g f n u=some j∧st=[(6,(.ptr 2 0)),(12,(.own 4 (List.length u))),(14,(i64 g)),(56,(.own 6 (List.length (sortI d)))),(57,(i64 (List.length (sortI d):Int))),(58,(i64 q))]∧H=[.fm (List.map (entF (Value.int .i64) (Value.int .i64)) f.2.1),.fm (List.map (entF (Value.int .i64) (Value.int .i64)) f.2.2),.cells [(slc 1 Zg b),(slc 1 Ze a),(.mp 0),(.mp 1)],.fm (List.map (entF (Value.int .i64) Value.bool) k),.tr 22 1 (List.length u) (cellsO Zw u),.cells (Zk d),bf 1 3 Ze (sortI d) false]) fuel ⟨x,d3,by kernel_rfl,by kernel_rfl⟩ ?_
        rintro b4 st H ⟨u,hF,rfl,rfl⟩
        cases b4 with
        | zero=>exact noneb hF
        | succ b4=>
         rw [Zcb] at hF
         refine AWP.seq (AWP.seq (AWP.rg0 [(1,.lenT u),(5,.lookM Zed (Value.int .i64) (0:Int) f.2.2 g)] [(6,(.ptr 2 0)),(12,(.own 4 (List.length u))),(14,(i64 g)),(56,(.own 6 (List.length (sortI d)))),(57,(i64 (List.length (sortI d):Int))),(58,(i64 q)),(71,(vb (decide ((List.length u:Int)≤((mget Zn f.2.2 g).getD (0:Int))))))] ?_))
         refine AWP.cif hF (fun d4 hF=>?_) (fun d4 hF=>?_)
         ·refine AWP.skip (AWP.block ?_)
          obtain⟨d5,hF⟩:=chkb hF
          refine AWP.rg [(1,.litFb),(2,.post (.post (.appT Zw u [([]:(List Int))] [.pv (nils)] d5) (.nilA 4 Zw u [.pv (nils)] 0 3 1 rfl)) (.eqC 4 (ca:=cellsO Zw u++[owB 3 1 Ze ([]:(List Int))]) (cb:=cellsO Zw (u++[([]:(List Int))])) (Zrc (m:=[([]:(List Int))]))))] [(6,(.ptr 2 0)),(12,(.own 4 (List.length (u++[([]:(List Int))])))),(14,(i64 g)),(56,(.own 6 (List.length (sortI d)))),(57,(i64 (List.length (sortI d):Int))),(58,(i64 q))] [.fm (List.map (entF (Value.int .i64) (Value.int .i64)) f.2.1),.fm (List.map (entF (Value.int .i64) (Value.int .i64)) f.2.2),.cells [(slc 1 Zg b),(slc 1 Ze a),(.mp 0),(.mp 1)],.fm (List.map (entF (Value.int .i64) Value.bool) k),.tr 22 1 (List.length (u++[([]:(List Int))])) (cellsO Zw (u++[([]:(List Int))])),.cells (Zk d),bf 1 3 Ze (sortI d) false,.fb 1 22 [[nils]]] (LeQ.start ?_)
          refine LeQ.pk [6,12,14,56,57,58] 7 ?_ (hfar:=(farC (by kernel_rfl) (farC (by kernel_rfl) (farC (by kernel_rfl) (farC (by kernel_rfl) (farC (farT (fun z_=>(OVids.c (Zau (row:=Ze) (fun _=>rfl) _) OVids.n))) (farC (by kernel_rfl) (farC (by kernel_rfl) farN))))))))
          exact⟨b4,Nat.lt_succ_self _,(u++[([]:(List Int))]),hF,by kernel_rfl,by kernel_rfl⟩
         ·refine AWP.exit (LeQ.start ?_)
          refine LeQ.pk [6,12,14,56,57,58] 7 ?_ (hfar:=(farC (by kernel_rfl) (farC (by kernel_rfl) (farC (by kernel_rfl) (farC (by kernel_rfl) (farC (farT (fun z_=>(OVids.c (Zau (row:=Ze) (fun _=>rfl) _) OVids.n))) (farC (by kernel_rfl) (farC (by kernel_rfl) farN))))))))
          have hr:=someb hF
          subst hr
          exact⟨rfl,by kernel_rfl,by kernel_rfl⟩
       ·rintro _ _ _ ⟨rfl,rfl,rfl⟩
        obtain⟨v,a0,hF⟩:=bindb hF
        refine AWP.gst (.takeB 4 Zw (fun _=>rfl) a0 (off:=0) (by decide) Ze (fun _=>rfl) (fun _=>rfl) v 3 rfl) [.fm (List.map (entF (Value.int .i64) (Value.int .i64)) f.2.1),.fm (List.map (entF (Value.int .i64) (Value.int .i64)) f.2.2),.cells [(slc 1 Zg b),(slc 1 Ze a),(.mp 0),(.mp 1)],.fm (List.map (entF (Value.int .i64) Value.bool) k),.tr 22 1 (List.length j) (List.set (cellsO Zw j) (Int.toNat ((mget Zn f.2.2 g).getD (0:Int)) * 1 + 0) (.pv (.own 7 (List.length v)))),.cells (Zk d),bf 1 3 Ze (sortI d) false,bf 1 3 Ze v false] ?_
        obtain⟨d6,hF⟩:=chkb hF
        refine AWP.dr [(4,.lookM Zed (Value.int .i64) (0:Int) f.2.2 g),(9,.lookM Zed (Value.int .i64) (0:Int) f.2.2 g),(10,.idxT a0),(11,.ldH Zw (fun _=>rfl) a0 (.own 7 (List.length v))),(14,.app Ze (fun _=>by kernel_rfl) d6),(15,.idxT a0),(16,.stO Zw (fun _=>rfl) a0 0 (some (.own 7 (List.length v))))] 15 [] [14] [] [(6,(.ptr 2 0)),(12,(.own 4 (List.length j))),(56,(.own 6 (List.length (sortI d)))),(57,(i64 (List.length (sortI d):Int))),(58,(i64 q))] [.fm (List.map (entF (Value.int .i64) (Value.int .i64)) f.2.1),.fm (List.map (entF (Value.int .i64) (Value.int .i64)) f.2.2),.cells [(slc 1 Zg b),(slc 1 Ze a),(.mp 0),(.mp 1)],.fm (List.map (entF (Value.int .i64) Value.bool) k),.tr 22 1 (List.length j) (List.set (cellsO Zw j) (Int.toNat ((mget Zn f.2.2 g).getD (0:Int)) * 1 + 0) (.pv (.own 7 (List.length (v++[g]))))),.cells (Zk d),bf 1 3 Ze (sortI d) false,bf 1 3 Ze (v++[g]) false] (AWP.rg0 [] [(6,(.ptr 2 0)),(12,(.own 4 (List.length j))),(56,(.own 6 (List.length (sortI d)))),(57,(i64 (List.length (sortI d):Int))),(58,(i64 (ZI (q + (1:Int)))))] (LeQ.start ?_))
        refine LeQ.gst (.giveB 4 7 Zw (fun _=>rfl) a0 (off:=0) (by decide) Ze 1 (v++[g]) 3 (List.length (v++[g])) rfl (v++[g]) rfl) [.fm (List.map (entF (Value.int .i64) (Value.int .i64)) f.2.1),.fm (List.map (entF (Value.int .i64) (Value.int .i64)) f.2.2),.cells [(slc 1 Zg b),(slc 1 Ze a),(.mp 0),(.mp 1)],.fm (List.map (entF (Value.int .i64) Value.bool) k),.tr 22 1 (List.length j) (cellsO Zw (List.set j (Int.toNat ((mget Zn f.2.2 g).getD (0:Int))) (v++[g]))),.cells (Zk d),bf 1 3 Ze (sortI d) false,.dead] ?_
        rw [show ([(6,(.ptr 2 0)),(12,(.own 4 (List.length j))),(56,(.own 6 (List.length (sortI d)))),(57,(i64 (List.length (sortI d):Int))),(58,(i64 (ZI (q + (1:Int)))))]:St)=[(6,(.ptr 2 0)),(12,(.own 4 (List.length (List.set j (Int.toNat ((mget Zn f.2.2 g).getD (0:Int))) (v++[g]))))),(56,(.own 6 (List.length (sortI d)))),(57,(i64 (List.length (sortI d):Int))),(58,(i64 (ZI (q + (1:Int)))))] by simp only [List.length_set]]
        rw [show ([.fm (List.map (entF (Value.int .i64) (Value.int .i64)) f.2.1),.fm (List.map (entF (Value.int .i64) (Value.int .i64)) f.2.2),.cells [(slc 1 Zg b),(slc 1 Ze a),(.mp 0),(.mp 1)],.fm (List.map (entF (Value.int .i64) Value.bool) k),.tr 22 1 (List.length j) (cellsO Zw (List.set j (Int.toNat ((mget Zn f.2.2 g).getD (0:Int))) (v++[g]))),.cells (Zk d),bf 1 3 Ze (sortI d) false,.dead]:List Blk)=[.fm (List.map (entF (Value.int .i64) (Value.int .i64)) f.2.1),.fm (List.map (entF (Value.int .i64) (Value.int .i64)) f.2.2),.cells [(slc 1 Zg b),(slc 1 Ze a),(.mp 0),(.mp 1)],.fm (List.map (entF (Value.int .i64) Value.bool) k),.tr 22 1 (List.length (List.set j (Int.toNat ((mget Zn f.2.2 g).getD (0:Int))) (v++[g]))) (cellsO Zw (List.set j (Int.toNat ((mget Zn f.2.2 g).getD (0:Int))) (v++[g]))),.cells (Zk d),bf 1 3 Ze (sortI d) false,.dead] by simp only [List.length_set]]
        refine LeQ.pk [6,12,56,57,58] 7 ?_ (hfar:=(farC (by kernel_rfl) (farC (by kernel_rfl) (farC (by kernel_rfl) (farC (by kernel_rfl) (farC (farT (fun z_=>(OVids.c (Zau (row:=Ze) (fun _=>rfl) _) OVids.n))) (farC (by kernel_rfl) (farC (by kernel_rfl) farN))))))))
        exact⟨b3,Nat.lt_succ_self _,f.2.1,f.2.2,(List.set j (Int.toNat ((mget Zn f.2.2 g).getD (0:Int))) (v++[g])),(ZI (q + (1:Int))),hF,by kernel_rfl,by kernel_rfl⟩
     ·refine AWP.exit (LeQ.start ?_)
      refine LeQ.pk [12] 7 ?_ (hfar:=(farC (by kernel_rfl) (farC (by kernel_rfl) (farC (by kernel_rfl) (farC (by kernel_rfl) (farC (farT (fun z_=>(OVids.c (Zau (row:=Ze) (fun _=>rfl) _) OVids.n))) (farC (by kernel_rfl) (farC (by kernel_rfl) farN))))))))
      exact(.inl ⟨rfl,a3,a4,x,(someb hF).symm,by kernel_rfl,by kernel_rfl⟩)
   ·rintro _ _ _ (⟨rfl,a5,a6,z,rfl,rfl,rfl⟩ | ⟨rfl,d8,rfl,hq⟩)
    ·refine AWP.seq (AWP.rg0 [] [(4,(.own 4 (List.length z))),(5,(vb true))] ?_)
     refine AWP.gst (.toBuf 4 Zw Zk (fun _=>rfl) (fun z_=>(FZs.c (FZ.owB (row:=Ze) (s:=1) (fun _=>rfl) (fun _=>rfl) _) FZs.n)) z) [.fm (List.map (entF (Value.int .i64) (Value.int .i64)) a5),.fm (List.map (entF (Value.int .i64) (Value.int .i64)) a6),.cells [(slc 1 Zg b),(slc 1 Ze a),(.mp 0),(.mp 1)],.fm (List.map (entF (Value.int .i64) Value.bool) k),bf 1 22 Zk z false,.cells (Zk d),bf 1 3 Ze (sortI d) false] ?_
     refine AWP.ret ?_
     have hr:=someb hF
     subst hr
     exact(FnQ.f1 0 (.inr rfl) (.inr ⟨_,_,rfl,rfl,(.cons _ _ _ _ (Wk.ownT (i:=4) (s:=1) (t:=22) (l:=z) (sh:=false) (row:=Zk) (by kernel_rfl) (.inl rfl)) (.cons _ _ _ _ (.refl _) .nil))⟩))
    ·have hr:=someb hF
     subst hr
     exact hq
  ·have hr:=someb hF
   subst hr
   exact hq
def Zju (r:Bool):PV→List Blk→Prop:=fun p K=>p=(vb r)∧K=[]
abbrev Znn (r:Bool):Exit→St→List Blk→Prop:=FnQ Tryz.prog Tryz.f19.results 0 (Zju r)
theorem Zfa (a:(List Int)) (b:Int) (r:Bool) (hF:Zc8 a b=some r):ACall Tryz.prog glob 19 [(slc 1 Ze a),(i64 b)] [] (Zju r):=by
 refine ACall.body Tryz.func19 rfl (by kernel_rfl) ?_
 unfold Zc8 at hF
 refine AWP.seq (AWP.rg0 [] [(0,(slc 1 Ze a)),(1,(i64 b))] (AWP.seq (AWP.seq (AWP.rg0 [] [(0,(slc 1 Ze a)),(1,(i64 b)),(5,(i64 (0:Int)))] ?_))))
 obtain⟨d,g,hF⟩:=bindb hF
 refine AWP.mid (fun e st H=>(e=.normal∧d=(.inl ())∧st=[]∧H=[])∨(e=.ret∧∃ r,d=(.inr r)∧Znn r e st H)) ?_ ?_
 ·clear hF
  refine AWP.kp [0,1,5] 0 ?_
  refine AWP.bround (fun n st H=>∃ c,Zcv a b n c=some d∧st=[(0,(slc 1 Ze a)),(1,(i64 b)),(5,(i64 c))]∧H=[]) fuel ⟨(0:Int),g,by kernel_rfl,by kernel_rfl⟩ ?_
  rintro f st H ⟨c,hF,rfl,rfl⟩
  cases f with
  | zero=>exact noneb hF
  | succ f=>
   rw [Zcv] at hF
   refine AWP.seq (AWP.seq (AWP.rg0 [(2,.len Ze a)] [(0,(slc 1 Ze a)),(1,(i64 b)),(5,(i64 c)),(9,(vb (decide (c<(List.length a:Int)))))] ?_))
   refine AWP.cif hF (fun i hF=>?_) (fun i hF=>?_)
   ·refine AWP.skip (AWP.seq (AWP.block (AWP.seq ?_)))
    obtain⟨j,k,hF⟩:=bindb hF
    refine AWP.rg0 [(2,.idx Ze k)] [(0,(slc 1 Ze a)),(1,(i64 b)),(5,(i64 c)),(17,(vb (j == b)))] ?_
    refine AWP.cif hF (fun l hF=>?_) (fun l hF=>?_)
    ·refine AWP.seq (AWP.rg0 [] [(4,(vb true))] (AWP.ret ?_))
     exact LeQ.of (.inr ⟨rfl,true,(someb hF).symm,(FnQ.f0 0 (.inr rfl))⟩)
    ·refine AWP.skip (AWP.rg0 [] [(0,(slc 1 Ze a)),(1,(i64 b)),(5,(i64 (ZI (c + (1:Int)))))] (LeQ.start (LeQ.pk [0,1,5] 0 ?_)))
     exact⟨f,Nat.lt_succ_self _,(ZI (c + (1:Int))),hF,by kernel_rfl,by kernel_rfl⟩
   ·refine AWP.exit (LeQ.start (LeQ.pk [] 0 ?_))
    exact(.inl ⟨rfl,(someb hF).symm,by kernel_rfl,by kernel_rfl⟩)
 ·rintro _ _ _ (⟨rfl,rfl,rfl,rfl⟩ | ⟨rfl,m,rfl,hq⟩)
  ·refine AWP.seq (AWP.rg0 [] [(4,(vb false))] (AWP.ret ?_))
   have hr:=someb hF
   subst hr
   exact(FnQ.f0 0 (.inr rfl))
  ·have hr:=someb hF
   subst hr
   exact hq
def Zh7 (r:Bool):PV→List Blk→Prop:=fun p K=>p=(vb r)∧K=[]
abbrev Zh8 (r:Bool):Exit→St→List Blk→Prop:=FnQ Tryz.prog Tryz.f18.results 0 (Zh7 r)
theorem Zlk (a:(List (List Bool))) (b:(List Int)) (r:Bool) (hF:Zd3 a b=some r):ACall Tryz.prog glob 18 [(slc 1 Zg a),(slc 1 Ze b)] [] (Zh7 r):=by
 refine ACall.body Tryz.func18 rfl (by kernel_rfl) ?_
 unfold Zd3 at hF
 refine AWP.seq (AWP.rg0 [] [(0,(slc 1 Zg a)),(1,(slc 1 Ze b))] (AWP.seq (AWP.seq (AWP.rg0 [] [(0,(slc 1 Zg a)),(1,(slc 1 Ze b)),(5,(i64 (0:Int)))] ?_))))
 obtain⟨k,s,hF⟩:=bindb hF
 refine AWP.mid (fun e st H=>(e=.normal∧k=(.inl ())∧st=[]∧H=[])∨(e=.ret∧∃ r,k=(.inr r)∧Zh8 r e st H)) ?_ ?_
 ·clear hF
  refine AWP.kp [0,1,5] 0 ?_
  refine AWP.bround (fun n st H=>∃ c,Zb1 a b n c=some k∧st=[(0,(slc 1 Zg a)),(1,(slc 1 Ze b)),(5,(i64 c))]∧H=[]) fuel ⟨(0:Int),s,by kernel_rfl,by kernel_rfl⟩ ?_
  rintro l st H ⟨c,hF,rfl,rfl⟩
  cases l with
  | zero=>exact noneb hF
  | succ l=>
   rw [Zb1] at hF
   refine AWP.seq (AWP.seq (AWP.rg0 [(2,.len Ze b)] [(0,(slc 1 Zg a)),(1,(slc 1 Ze b)),(5,(i64 c)),(11,(vb (decide (c<(List.length b:Int)))))] ?_))
   refine AWP.cif hF (fun t hF=>?_) (fun t hF=>?_)
   ·refine AWP.skip (AWP.seq (AWP.block (AWP.seq ?_)))
    obtain⟨d,u,hF⟩:=bindb hF
    refine AWP.rg0 [(2,.idx Ze u)] [(0,(slc 1 Zg a)),(1,(slc 1 Ze b)),(5,(i64 c)),(6,(i64 d))] (AWP.seq (AWP.seq ?_))
    obtain⟨v,i,hF⟩:=bindb hF
    replace i:=someb i
    obtain⟨w,j,hF⟩:=bindb hF
    replace j:=someb j
    obtain⟨x,m,hF⟩:=bindb hF
    refine AWP.to [(0,(slc 1 Zg a)),(1,(slc 1 Ze b)),(5,(i64 c)),(6,(i64 d)),(32,(vb x))] [] ?_ ?_
    ·cases v with
     | false=>
      cases w with
      | false=>
       have g:=ifF m rfl
       obtain⟨y,g⟩:=chkb g
       obtain⟨z,a0,g⟩:=bindb g
       replace g:=someb g
       subst g
       exact AWP.rgT [(2,.bool i),(5,.len Zg a),(8,.bool j),(11,.slice Ze b y),(13,.call Tryz.func19 [] (Zfa (List.drop (Int.toNat (0:Int)) (List.take (Int.toNat c) b)) d z a0))]
      | true=>
       have a1:=someb (ifT m rfl)
       subst a1
       exact AWP.rgT [(2,.bool i),(5,.len Zg a),(8,.bool j)]
     | true=>
      subst j
      have a2:=someb (ifT m rfl)
      subst a2
      exact AWP.rgT [(2,.bool i)]
    refine AWP.cif hF (fun a3 hF=>?_) (fun a3 hF=>?_)
    ·refine AWP.seq (AWP.rg0 [] [(4,(vb false))] (AWP.ret ?_))
     exact LeQ.of (.inr ⟨rfl,false,(someb hF).symm,(FnQ.f0 0 (.inr rfl))⟩)
    ·refine AWP.skip (AWP.seq (AWP.rg0 [] [(0,(slc 1 Zg a)),(1,(slc 1 Ze b)),(5,(i64 c)),(6,(i64 d)),(7,(i64 (0:Int)))] ?_))
     obtain⟨o,a4,hF⟩:=bindb hF
     refine AWP.mid (fun e st H=>(e=.normal∧o=(.inl ())∧st=[(0,(slc 1 Zg a)),(1,(slc 1 Ze b)),(5,(i64 c))]∧H=[])∨(e=.ret∧∃ r,o=(.inr r)∧Zh8 r e st H)) ?_ ?_
     ·clear hF
      refine AWP.kp [0,1,5,6,7] 0 ?_
      refine AWP.bround (fun n st H=>∃ f,Zb0 a d n f=some o∧st=[(0,(slc 1 Zg a)),(1,(slc 1 Ze b)),(5,(i64 c)),(6,(i64 d)),(7,(i64 f))]∧H=[]) fuel ⟨(0:Int),a4,by kernel_rfl,by kernel_rfl⟩ ?_
      rintro p st H ⟨f,hF,rfl,rfl⟩
      cases p with
      | zero=>exact noneb hF
      | succ p=>
       rw [Zb0] at hF
       refine AWP.seq (AWP.seq (AWP.rg0 [(2,.len Zg a)] [(0,(slc 1 Zg a)),(1,(slc 1 Ze b)),(5,(i64 c)),(6,(i64 d)),(7,(i64 f)),(36,(vb (decide (f<(List.length a:Int)))))] ?_))
       refine AWP.cif hF (fun a5 hF=>?_) (fun a5 hF=>?_)
       ·refine AWP.skip (AWP.seq (AWP.block (AWP.seq ?_)))
        obtain⟨q,a6,hF⟩:=bindb hF
        refine AWP.rg0 [(3,.idx Zg a6),(5,.len Zo q)] [(0,(slc 1 Zg a)),(1,(slc 1 Ze b)),(5,(i64 c)),(6,(i64 d)),(7,(i64 f)),(45,(vb (decide (d ≥ (List.length q:Int)))))] ?_
        refine AWP.cif hF (fun a7 hF=>?_) (fun a7 hF=>?_)
        ·refine AWP.seq (AWP.rg0 [] [(4,(vb false))] (AWP.ret ?_))
         exact LeQ.of (.inr ⟨rfl,false,(someb hF).symm,(FnQ.f0 0 (.inr rfl))⟩)
        ·refine AWP.skip (AWP.rg0 [] [(0,(slc 1 Zg a)),(1,(slc 1 Ze b)),(5,(i64 c)),(6,(i64 d)),(7,(i64 (ZI (f + (1:Int)))))] (LeQ.start (LeQ.pk [0,1,5,6,7] 0 ?_)))
         exact⟨p,Nat.lt_succ_self _,(ZI (f + (1:Int))),hF,by kernel_rfl,by kernel_rfl⟩
       ·refine AWP.exit (LeQ.start (LeQ.pk [0,1,5] 0 ?_))
        exact(.inl ⟨rfl,(someb hF).symm,by kernel_rfl,by kernel_rfl⟩)
     ·rintro _ _ _ (⟨rfl,rfl,rfl,rfl⟩ | ⟨rfl,a8,rfl,hq⟩)
      ·refine AWP.rg0 [] [(0,(slc 1 Zg a)),(1,(slc 1 Ze b)),(5,(i64 (ZI (c + (1:Int)))))] (LeQ.start (LeQ.pk [0,1,5] 0 ?_))
       exact⟨l,Nat.lt_succ_self _,(ZI (c + (1:Int))),hF,by kernel_rfl,by kernel_rfl⟩
      ·exact LeQ.of (.inr ⟨rfl,a8,(someb hF).symm,hq⟩)
   ·refine AWP.exit (LeQ.start (LeQ.pk [] 0 ?_))
    exact(.inl ⟨rfl,(someb hF).symm,by kernel_rfl,by kernel_rfl⟩)
 ·rintro _ _ _ (⟨rfl,rfl,rfl,rfl⟩ | ⟨rfl,a9,rfl,hq⟩)
  ·refine AWP.seq (AWP.rg0 [] [(4,(vb true))] (AWP.ret ?_))
   have hr:=someb hF
   subst hr
   exact(FnQ.f0 0 (.inr rfl))
  ·have hr:=someb hF
   subst hr
   exact hq
def Zh9 (r:((List (List Int)) × Bool)):PV→List Blk→Prop:=fun p K=>p=(.tup [(slc 1 Zk r.1),(vb r.2)])∧K=[]
abbrev Zll (r:((List (List Int)) × Bool)):Exit→St→List Blk→Prop:=FnQ Tryz.prog Tryz.f8.results 0 (Zh9 r)
theorem Zlm (c:(List (List Bool))) (b:(List Int)) (r:((List (List Int)) × Bool)) (hF:Zd4 c b=some r):ACall Tryz.prog glob 8 [(slc 1 Zg c),(slc 1 Ze b)] [] (Zh9 r):=by
 refine ACall.body Tryz.func8 rfl (by kernel_rfl) ?_
 unfold Zd4 at hF
 refine AWP.seq (AWP.rg0 [] [(0,(slc 1 Zg c)),(1,(slc 1 Ze b))] (AWP.seq (AWP.seq ?_)))
 obtain⟨a6,b5,hF⟩:=bindb hF
 refine AWP.rg0 [(2,.call Tryz.func18 [] (Zlk c b a6 b5))] [(0,(slc 1 Zg c)),(1,(slc 1 Ze b)),(15,(vb (!a6)))] ?_
 refine AWP.cif hF (fun b6 hF=>?_) (fun b6 hF=>?_)
 ·refine AWP.seq (AWP.rg0 [] [(4,nils),(5,(vb false))] (AWP.ret ?_))
  have hr:=someb hF
  subst hr
  exact(FnQ.f1 0 (.inr rfl) (.inr ⟨_,_,rfl,rfl,(.cons _ _ _ _ (.nil 1) (.cons _ _ _ _ (.refl _) .nil))⟩))
 ·refine AWP.skip (AWP.seq (AWP.rg0 [] [(0,(slc 1 Zg c)),(1,(slc 1 Ze b)),(6,nils)] ?_))
  refine AWP.own (H':=[bf 1 22 Zk ([]:(List (List Int))) false]) (st':=[(6,(.own 0 (List.length ([]:(List (List Int)))))),(0,(slc 1 Zg c)),(1,(slc 1 Ze b))]) 6 1 22 (by kernel_rfl) (by kernel_rfl) (by kernel_rfl) ?_
  refine AWP.pick (st':=[(0,(slc 1 Zg c)),(1,(slc 1 Ze b)),(6,(.own 0 (List.length ([]:(List (List Int))))))]) (ks:=[0,1,6]) (by kernel_rfl) ?_
  refine AWP.seq (AWP.rg0 [] [(0,(slc 1 Zg c)),(1,(slc 1 Ze b)),(6,(.own 0 (List.length ([]:(List (List Int)))))),(7,nils)] ?_)
  refine AWP.own (H':=[bf 1 22 Zk ([]:(List (List Int))) false,bf 1 3 Ze ([]:(List Int)) false]) (st':=[(7,(.own 1 (List.length ([]:(List Int))))),(0,(slc 1 Zg c)),(1,(slc 1 Ze b)),(6,(.own 0 (List.length ([]:(List (List Int))))))]) 7 1 3 (by kernel_rfl) (by kernel_rfl) (by kernel_rfl) ?_
  refine AWP.pick (st':=[(0,(slc 1 Zg c)),(1,(slc 1 Ze b)),(6,(.own 0 (List.length ([]:(List (List Int)))))),(7,(.own 1 (List.length ([]:(List Int)))))]) (ks:=[0,1,6,7]) (by kernel_rfl) ?_
  refine AWP.seq ?_
  obtain⟨z,b7,hF⟩:=bindb hF
  refine AWP.mid (fun e st H=>(e=.normal∧∃ p,∃ a0,z=(.inl (p,a0))∧st=[(6,(.own 0 (List.length p)))]∧H=[bf 1 22 Zk p false,bf 1 3 Ze a0 true])∨(e=.ret∧∃ r,z=(.inr r)∧Zll r e st H)) ?_ ?_
  ·clear hF
   refine AWP.share (s:=1) (t:=3) (xs:=List.map Ze ([]:(List Int))) (sh:=false) (H':=[bf 1 22 Zk ([]:(List (List Int))) false,bf 1 3 Ze ([]:(List Int)) true]) 1 (by kernel_rfl) (by kernel_rfl) ?_
   refine AWP.kp [0,1,6,7] 2 ?_
   refine AWP.bround (fun n st H=>∃ d,∃ a,Zcq c b n d a=some z∧st=[(0,(slc 1 Zg c)),(1,(slc 1 Ze b)),(6,(.own 0 (List.length d))),(7,(.own 1 (List.length a)))]∧H=[bf 1 22 Zk d false,bf 1 3 Ze a true]) fuel ⟨([]:(List (List Int))),([]:(List Int)),b7,by kernel_rfl,by kernel_rfl⟩ ?_
   rintro a1 st H ⟨d,a,hF,rfl,rfl⟩
   cases a1 with
   | zero=>exact noneb hF
   | succ a1=>
    rw [Zcq] at hF
    refine AWP.seq (AWP.seq (AWP.rg0 [(1,.len Ze a),(3,.len Ze b)] [(0,(slc 1 Zg c)),(1,(slc 1 Ze b)),(6,(.own 0 (List.length d))),(7,(.own 1 (List.length a))),(20,(vb (decide ((List.length a:Int)<(List.length b:Int)))))] ?_))
    refine AWP.cif hF (fun b8 hF=>?_) (fun b8 hF=>?_)
    ·refine AWP.skip (AWP.block (AWP.seq (AWP.rg0 [] [(0,(slc 1 Zg c)),(1,(slc 1 Ze b)),(6,(.own 0 (List.length d))),(7,(.own 1 (List.length a))),(8,nils)] ?_)))
     refine AWP.own (H':=[bf 1 22 Zk d false,bf 1 3 Ze a true,bf 1 3 Ze ([]:(List Int)) false]) (st':=[(8,(.own 2 (List.length ([]:(List Int))))),(0,(slc 1 Zg c)),(1,(slc 1 Ze b)),(6,(.own 0 (List.length d))),(7,(.own 1 (List.length a)))]) 8 1 3 (by kernel_rfl) (by kernel_rfl) (by kernel_rfl) ?_
     refine AWP.pick (st':=[(0,(slc 1 Zg c)),(1,(slc 1 Ze b)),(6,(.own 0 (List.length d))),(7,(.own 1 (List.length a))),(8,(.own 2 (List.length ([]:(List Int)))))]) (ks:=[0,1,6,7,8]) (by kernel_rfl) ?_
     refine AWP.seq (AWP.seq (AWP.rg0 [] [(0,(slc 1 Zg c)),(1,(slc 1 Ze b)),(6,(.own 0 (List.length d))),(7,(.own 1 (List.length a))),(8,(.own 2 (List.length ([]:(List Int))))),(9,(i64 (0:Int)))] ?_))
     obtain⟨j,b9,hF⟩:=bindb hF
     refine AWP.mid (fun e st H=>e=.normal∧st=[(0,(slc 1 Zg c)),(1,(slc 1 Ze b)),(6,(.own 0 (List.length d))),(7,(.own 1 (List.length a))),(8,(.own 2 (List.length j)))]∧H=[bf 1 22 Zk d false,bf 1 3 Ze a true,bf 1 3 Ze j false]) ?_ ?_
     ·clear hF
      refine AWP.kp [0,1,6,7,8,9] 3 ?_
      refine AWP.bround (fun n st H=>∃ g,∃ f,Zb3 c b a n g f=some j∧st=[(0,(slc 1 Zg c)),(1,(slc 1 Ze b)),(6,(.own 0 (List.length d))),(7,(.own 1 (List.length a))),(8,(.own 2 (List.length g))),(9,(i64 f))]∧H=[bf 1 22 Zk d false,bf 1 3 Ze a true,bf 1 3 Ze g false]) fuel ⟨([]:(List Int)),(0:Int),b9,by kernel_rfl,by kernel_rfl⟩ ?_
      rintro a2 st H ⟨g,f,hF,rfl,rfl⟩
      cases a2 with
      | zero=>exact noneb hF
      | succ a2=>
       rw [Zb3] at hF
       refine AWP.seq (AWP.seq (AWP.rg0 [(2,.len Zg c)] [(0,(slc 1 Zg c)),(1,(slc 1 Ze b)),(6,(.own 0 (List.length d))),(7,(.own 1 (List.length a))),(8,(.own 2 (List.length g))),(9,(i64 f)),(24,(vb (decide (f<(List.length c:Int)))))] ?_))
       refine AWP.cif hF (fun c0 hF=>?_) (fun c0 hF=>?_)
       ·refine AWP.skip ?_
        obtain⟨v,c1,hF⟩:=bindb hF
        refine AWP.seq ?_
        refine AWP.mid (fun e st H=>e=.normal∧st=[(0,(slc 1 Zg c)),(1,(slc 1 Ze b)),(6,(.own 0 (List.length d))),(7,(.own 1 (List.length a))),(8,(.own 2 (List.length v))),(9,(i64 f))]∧H=[bf 1 22 Zk d false,bf 1 3 Ze a true,bf 1 3 Ze v false]) ?_ ?_
        ·clear hF
         have hF:=c1
         refine AWP.block (AWP.seq (AWP.seq ?_))
         obtain⟨a7,a8,hF⟩:=bindb hF
         obtain⟨c2,w,hF⟩:=bindb hF
         replace w:=someb w
         obtain⟨c3,a9,hF⟩:=bindb hF
         refine AWP.to [(0,(slc 1 Zg c)),(1,(slc 1 Ze b)),(6,(.own 0 (List.length d))),(7,(.own 1 (List.length a))),(8,(.own 2 (List.length g))),(9,(i64 f)),(35,(vb c3))] [bf 1 22 Zk d false,bf 1 3 Ze a true,bf 1 3 Ze g false] ?_ ?_
         ·cases c2 with
          | false=>
           have q:=ifF a9 rfl
           obtain⟨c4,c5,q⟩:=bindb q
           replace q:=someb q
           subst q
           exact AWP.rgT [(2,.call Tryz.func19 [] (Zfa b f a7 a8)),(4,.bool w),(7,.call Tryz.func19 [.of Ze a] (Zfa a f c4 c5))]
          | true=>
           have c6:=someb (ifT a9 rfl)
           subst c6
           exact AWP.rgT [(2,.call Tryz.func19 [] (Zfa b f a7 a8)),(4,.bool w)]
         refine AWP.cif hF (fun c7 hF=>?_) (fun c7 hF=>?_)
         ·refine AWP.exit (LeQ.start (LeQ.pk [0,1,6,7,8,9] 3 ?_))
          have hr:=someb hF
          subst hr
          exact⟨rfl,by kernel_rfl,by kernel_rfl⟩
         ·refine AWP.skip (AWP.seq (AWP.rg0 [] [(0,(slc 1 Zg c)),(1,(slc 1 Ze b)),(6,(.own 0 (List.length d))),(7,(.own 1 (List.length a))),(8,(.own 2 (List.length g))),(9,(i64 f)),(10,(vb true))] (AWP.seq (AWP.seq (AWP.rg0 [] [(0,(slc 1 Zg c)),(1,(slc 1 Ze b)),(6,(.own 0 (List.length d))),(7,(.own 1 (List.length a))),(8,(.own 2 (List.length g))),(9,(i64 f)),(10,(vb true)),(11,(i64 (0:Int)))] ?_)))))
          obtain⟨a3,c8,hF⟩:=bindb hF
          refine AWP.mid (fun e st H=>e=.normal∧st=[(0,(slc 1 Zg c)),(1,(slc 1 Ze b)),(6,(.own 0 (List.length d))),(7,(.own 1 (List.length a))),(8,(.own 2 (List.length g))),(9,(i64 f)),(10,(vb a3))]∧H=[bf 1 22 Zk d false,bf 1 3 Ze a true,bf 1 3 Ze g false]) ?_ ?_
          ·clear hF
           refine AWP.kp [0,1,6,7,8,9,10,11] 3 ?_
           refine AWP.bround (fun n st H=>∃ x,∃ m,Zb2 c b a f n x m=some a3∧st=[(0,(slc 1 Zg c)),(1,(slc 1 Ze b)),(6,(.own 0 (List.length d))),(7,(.own 1 (List.length a))),(8,(.own 2 (List.length g))),(9,(i64 f)),(10,(vb x)),(11,(i64 m))]∧H=[bf 1 22 Zk d false,bf 1 3 Ze a true,bf 1 3 Ze g false]) fuel ⟨true,(0:Int),c8,by kernel_rfl,by kernel_rfl⟩ ?_
           rintro a4 st H ⟨x,m,hF,rfl,rfl⟩
           cases a4 with
           | zero=>exact noneb hF
           | succ a4=>
            rw [Zb2] at hF
            refine AWP.seq (AWP.seq (AWP.rg0 [(2,.len Ze b)] [(0,(slc 1 Zg c)),(1,(slc 1 Ze b)),(6,(.own 0 (List.length d))),(7,(.own 1 (List.length a))),(8,(.own 2 (List.length g))),(9,(i64 f)),(10,(vb x)),(11,(i64 m)),(39,(vb (decide (m<(List.length b:Int)))))] ?_))
            refine AWP.cif hF (fun c9 hF=>?_) (fun c9 hF=>?_)
            ·refine AWP.skip (AWP.seq (AWP.block ?_))
             obtain⟨d0,u,hF⟩:=bindb hF
             replace u:=someb u
             obtain⟨a5,b0,hF⟩:=bindb hF
             refine AWP.to [(0,(slc 1 Zg c)),(1,(slc 1 Ze b)),(6,(.own 0 (List.length d))),(7,(.own 1 (List.length a))),(8,(.own 2 (List.length g))),(9,(i64 f)),(10,(vb a5)),(11,(i64 m))] [bf 1 22 Zk d false,bf 1 3 Ze a true,bf 1 3 Ze g false] ?_ ?_
             ·cases d0 with
              | false=>
               have d1:=someb (ifF b0 rfl)
               subst d1
               exact AWP.rgT [(1,.bool u)]
              | true=>
               have k:=ifT b0 rfl
               obtain⟨e3,b1,k⟩:=bindb k
               obtain⟨e4,b2,k⟩:=bindb k
               obtain⟨e5,b3,k⟩:=bindb k
               obtain⟨d2,y,k⟩:=bindb k
               replace y:=someb y
               obtain⟨e6,b4,k⟩:=bindb k
               replace k:=someb k
               subst k
               cases d2 with
               | false=>
                have o:=ifF b4 rfl
                obtain⟨d3,d4,o⟩:=bindb o
                obtain⟨d5,d6,o⟩:=bindb o
                replace o:=someb o
                subst o
                exact AWP.rgT [(1,.bool u),(5,.idx Ze b1),(7,.idx Zg b2),(10,.idx Zo b3),(13,.bool y),(17,.idx Ze d4),(19,.call Tryz.func19 [.of Ze a] (Zfa a d3 d5 d6))]
               | true=>
                have d7:=someb (ifT b4 rfl)
                subst d7
                exact AWP.rgT [(1,.bool u),(5,.idx Ze b1),(7,.idx Zg b2),(10,.idx Zo b3),(13,.bool y)]
             refine AWP.rg0 [] [(0,(slc 1 Zg c)),(1,(slc 1 Ze b)),(6,(.own 0 (List.length d))),(7,(.own 1 (List.length a))),(8,(.own 2 (List.length g))),(9,(i64 f)),(10,(vb a5)),(11,(i64 (ZI (m + (1:Int)))))] (LeQ.start (LeQ.pk [0,1,6,7,8,9,10,11] 3 ?_))
             exact⟨a4,Nat.lt_succ_self _,a5,(ZI (m + (1:Int))),hF,by kernel_rfl,by kernel_rfl⟩
            ·refine AWP.exit (LeQ.start (LeQ.pk [0,1,6,7,8,9,10] 3 ?_))
             have hr:=someb hF
             subst hr
             exact⟨rfl,by kernel_rfl,by kernel_rfl⟩
          ·rintro _ _ _ ⟨rfl,rfl,rfl⟩
           refine AWP.seq (AWP.rg0 [] [(0,(slc 1 Zg c)),(1,(slc 1 Ze b)),(6,(.own 0 (List.length d))),(7,(.own 1 (List.length a))),(8,(.own 2 (List.length g))),(9,(i64 f)),(64,(vb a3))] ?_)
           refine AWP.cif hF (fun d8 hF=>?_) (fun d8 hF=>?_)
           ·obtain⟨d9,hF⟩:=chkb hF
            refine AWP.rg [(3,.app Ze (fun _=>by kernel_rfl) d9)] [(0,(slc 1 Zg c)),(1,(slc 1 Ze b)),(6,(.own 0 (List.length d))),(7,(.own 1 (List.length a))),(8,(.own 2 (List.length (g++[f])))),(9,(i64 f))] [bf 1 22 Zk d false,bf 1 3 Ze a true,bf 1 3 Ze (g++[f]) false] (LeQ.start (LeQ.pk [0,1,6,7,8,9] 3 ?_))
            have hr:=someb hF
            subst hr
            exact⟨rfl,by kernel_rfl,by kernel_rfl⟩
           ·refine AWP.skip (LeQ.start (LeQ.pk [0,1,6,7,8,9] 3 ?_))
            have hr:=someb hF
            subst hr
            exact⟨rfl,by kernel_rfl,by kernel_rfl⟩
        ·rintro _ _ _ ⟨rfl,rfl,rfl⟩
         refine AWP.rg0 [] [(0,(slc 1 Zg c)),(1,(slc 1 Ze b)),(6,(.own 0 (List.length d))),(7,(.own 1 (List.length a))),(8,(.own 2 (List.length v))),(9,(i64 (ZI (f + (1:Int)))))] (LeQ.start (LeQ.pk [0,1,6,7,8,9] 3 ?_))
         exact⟨a2,Nat.lt_succ_self _,v,(ZI (f + (1:Int))),hF,by kernel_rfl,by kernel_rfl⟩
       ·refine AWP.exit (LeQ.start (LeQ.pk [0,1,6,7,8] 3 ?_))
        have hr:=someb hF
        subst hr
        exact⟨rfl,by kernel_rfl,by kernel_rfl⟩
     ·rintro _ _ _ ⟨rfl,rfl,rfl⟩
      refine AWP.seq (AWP.seq (AWP.rg0 [(1,.len Ze j)] [(0,(slc 1 Zg c)),(1,(slc 1 Ze b)),(6,(.own 0 (List.length d))),(7,(.own 1 (List.length a))),(8,(.own 2 (List.length j))),(71,(vb ((List.length j:Int) == (0:Int))))] ?_))
      refine AWP.cif hF (fun e0 hF=>?_) (fun e0 hF=>?_)
      ·refine AWP.seq (AWP.rg0 [] [(4,nils),(5,(vb false))] (AWP.ret ?_))
       exact LeQ.of (.inr ⟨rfl,(([]:(List (List Int))),false),(someb hF).symm,(FnQ.f1 0 (.inr rfl) (.inr ⟨_,_,rfl,rfl,(.cons _ _ _ _ (.nil 1) (.cons _ _ _ _ (.refl _) .nil))⟩))⟩)
      ·refine AWP.skip (AWP.seq ?_)
       obtain⟨e1,hF⟩:=chkb hF
       refine AWP.rg [(2,.pre (.share 2) (.wkO 2 Ze j (.s))),(3,.app Zk (fun _=>by kernel_rfl) e1)] [(0,(slc 1 Zg c)),(1,(slc 1 Ze b)),(6,(.own 0 (List.length (d++[j])))),(7,(.own 1 (List.length a))),(8,(.own 2 (List.length j)))] [bf 1 22 Zk (d++[j]) false,bf 1 3 Ze a true,bf 1 3 Ze j true] ?_
       obtain⟨e2,hF⟩:=chkb hF
       refine AWP.rg [(2,.app Ze (fun _=>by kernel_rfl) e2)] [(0,(slc 1 Zg c)),(1,(slc 1 Ze b)),(6,(.own 0 (List.length (d++[j])))),(7,(.own 1 (List.length (a++j))))] [bf 1 22 Zk (d++[j]) false,bf 1 3 Ze (a++j) true,bf 1 3 Ze j true] (LeQ.start (LeQ.pk [0,1,6,7] 2 ?_))
       exact⟨a1,Nat.lt_succ_self _,(d++[j]),(a++j),hF,by kernel_rfl,by kernel_rfl⟩
    ·refine AWP.exit (LeQ.start (LeQ.pk [6] 2 ?_))
     exact(.inl ⟨rfl,d,a,(someb hF).symm,by kernel_rfl,by kernel_rfl⟩)
  ·rintro _ _ _ (⟨rfl,p,a0,rfl,rfl,rfl⟩ | ⟨rfl,e7,rfl,hq⟩)
   ·refine AWP.seq (AWP.rg0 [] [(4,(.own 0 (List.length p))),(5,(vb true))] (AWP.ret ?_))
    have hr:=someb hF
    subst hr
    exact(FnQ.f1 0 (.inr rfl) (.inr ⟨_,_,rfl,rfl,(.cons _ _ _ _ (Wk.ownT (i:=0) (s:=1) (t:=22) (l:=p) (sh:=false) (row:=Zk) (by kernel_rfl) (.inl rfl)) (.cons _ _ _ _ (.refl _) .nil))⟩))
   ·have hr:=someb hF
    subst hr
    exact hq
def Zf6 (r:Bool):PV→List Blk→Prop:=fun p K=>p=(vb r)∧K=[]
abbrev Zcu (r:Bool):Exit→St→List Blk→Prop:=FnQ Tryz.prog Tryz.f3.results 0 (Zf6 r)
theorem Zi5 (a4:(List Int)) (r:Bool) (hF:Zct a4=some r):ACall Tryz.prog glob 3 [(slc 1 Ze a4)] [] (Zf6 r):=by
 refine ACall.body Tryz.func3 rfl (by kernel_rfl) ?_
 unfold Zct at hF
 refine AWP.seq (AWP.rg0 [] [(0,(slc 1 Ze a4))] (AWP.seq ?_))
 obtain⟨a9,d6,hF⟩:=bindb hF
 refine AWP.rg [(1,.call Tryz.func5 [] (Zpd a4 a9 d6))] [(3,(.ptr 0 0))] [.cells (Zh a9)] (AWP.seq ?_)
 obtain⟨a,d7,hF⟩:=bindb hF
 refine AWP.rg [(1,.call Tryz.func6 [] (Zkm a9 a d7))] [(4,(slc 1 Zg a.1)),(5,(slc 1 Ze a.2.1))] [.cells (Zh a.2.2)] (AWP.seq ?_)
 obtain⟨b,d8,hF⟩:=bindb hF
 refine AWP.rg0 [(2,.call Tryz.func7 [] (Zmi a.1 a.2.1 b d8))] [(4,(slc 1 Zg a.1)),(5,(slc 1 Ze a.2.1)),(6,(slc 1 Zk b.1)),(7,(vb b.2))] (AWP.seq ?_)
 obtain⟨b0,d9,hF⟩:=bindb hF
 refine AWP.rg0 [(2,.call Tryz.func8 [] (Zlm a.1 a.2.1 b0 d9))] [(4,(slc 1 Zg a.1)),(5,(slc 1 Ze a.2.1)),(6,(slc 1 Zk b.1)),(7,(vb b.2)),(9,(vb b0.2))] (AWP.seq (AWP.seq (AWP.rg0 [] [(4,(slc 1 Zg a.1)),(5,(slc 1 Ze a.2.1)),(6,(slc 1 Zk b.1)),(7,(vb b.2)),(40,(vb (!(b.2 == b0.2))))] ?_)))
 refine AWP.cif hF (fun e0 hF=>?_) (fun e0 hF=>?_)
 ·refine AWP.seq (AWP.rg0 [] [(2,(vb false))] (AWP.ret ?_))
  have hr:=someb hF
  subst hr
  exact(FnQ.f0 0 (.inr rfl))
 ·refine AWP.skip (AWP.seq ?_)
  obtain⟨e1,hF⟩:=chkb hF
  refine AWP.rg [(1,.len Zg a.1),(2,.mkN Ze (0:Int) e1)] [(4,(slc 1 Zg a.1)),(5,(slc 1 Ze a.2.1)),(6,(slc 1 Zk b.1)),(7,(vb b.2)),(10,(.own 1 (List.length (List.replicate (Int.toNat (List.length a.1:Int)) (0:Int)))))] [.cells (Zh a.2.2),bf 1 3 Ze (List.replicate (Int.toNat (List.length a.1:Int)) (0:Int)) false] (AWP.seq (AWP.seq (AWP.rg0 [] [(4,(slc 1 Zg a.1)),(5,(slc 1 Ze a.2.1)),(6,(slc 1 Zk b.1)),(7,(vb b.2)),(10,(.own 1 (List.length (List.replicate (Int.toNat (List.length a.1:Int)) (0:Int))))),(11,(i64 (0:Int)))] ?_)))
  obtain⟨v,e2,hF⟩:=bindb hF
  refine AWP.mid (fun e st H=>e=.normal∧st=[(4,(slc 1 Zg a.1)),(5,(slc 1 Ze a.2.1)),(6,(slc 1 Zk b.1)),(7,(vb b.2)),(10,(.own 1 (List.length v)))]∧H=[.cells (Zh a.2.2),bf 1 3 Ze v false]) ?_ ?_
  ·clear hF
   refine AWP.kp [4,5,6,7,10,11] 2 ?_
   refine AWP.bround (fun n st H=>∃ k,∃ j,Zap n k j=some v∧st=[(4,(slc 1 Zg a.1)),(5,(slc 1 Ze a.2.1)),(6,(slc 1 Zk b.1)),(7,(vb b.2)),(10,(.own 1 (List.length k))),(11,(i64 j))]∧H=[.cells (Zh a.2.2),bf 1 3 Ze k false]) fuel ⟨(List.replicate (Int.toNat (List.length a.1:Int)) (0:Int)),(0:Int),e2,by kernel_rfl,by kernel_rfl⟩ ?_
   rintro b1 st H ⟨k,j,hF,rfl,rfl⟩
   cases b1 with
   | zero=>exact noneb hF
   | succ b1=>
    rw [Zap] at hF
    refine AWP.seq (AWP.seq (AWP.rg0 [(2,.len Ze k)] [(4,(slc 1 Zg a.1)),(5,(slc 1 Ze a.2.1)),(6,(slc 1 Zk b.1)),(7,(vb b.2)),(10,(.own 1 (List.length k))),(11,(i64 j)),(47,(vb (decide (j<(List.length k:Int)))))] ?_))
    refine AWP.cif hF (fun e3 hF=>?_) (fun e3 hF=>?_)
    ·refine AWP.skip (AWP.seq (AWP.block ?_))
     obtain⟨j4,c2,hF⟩:=bindb hF
     refine AWP.rg [(2,.idx Ze c2),(3,.stE Ze c2 (-1:Int))] [(4,(slc 1 Zg a.1)),(5,(slc 1 Ze a.2.1)),(6,(slc 1 Zk b.1)),(7,(vb b.2)),(10,(.own 1 (List.length k))),(11,(i64 j))] [.cells (Zh a.2.2),bf 1 3 Ze (List.set k (Int.toNat j) (-1:Int)) false] ?_
     rw [show ([(4,(slc 1 Zg a.1)),(5,(slc 1 Ze a.2.1)),(6,(slc 1 Zk b.1)),(7,(vb b.2)),(10,(.own 1 (List.length k))),(11,(i64 j))]:St)=[(4,(slc 1 Zg a.1)),(5,(slc 1 Ze a.2.1)),(6,(slc 1 Zk b.1)),(7,(vb b.2)),(10,(.own 1 (List.length (List.set k (Int.toNat j) (-1:Int))))),(11,(i64 j))] by simp only [List.length_set]]
     refine AWP.rg0 [] [(4,(slc 1 Zg a.1)),(5,(slc 1 Ze a.2.1)),(6,(slc 1 Zk b.1)),(7,(vb b.2)),(10,(.own 1 (List.length (List.set k (Int.toNat j) (-1:Int))))),(11,(i64 (ZI (j + (1:Int)))))] (LeQ.start (LeQ.pk [4,5,6,7,10,11] 2 ?_))
     exact⟨b1,Nat.lt_succ_self _,(List.set k (Int.toNat j) (-1:Int)),(ZI (j + (1:Int))),hF,by kernel_rfl,by kernel_rfl⟩
    ·refine AWP.exit (LeQ.start (LeQ.pk [4,5,6,7,10] 2 ?_))
     have hr:=someb hF
     subst hr
     exact⟨rfl,by kernel_rfl,by kernel_rfl⟩
  ·rintro _ _ _ ⟨rfl,rfl,rfl⟩
   refine AWP.seq (AWP.rg0 [] [(4,(slc 1 Zg a.1)),(5,(slc 1 Ze a.2.1)),(6,(slc 1 Zk b.1)),(7,(vb b.2)),(10,(.own 1 (List.length v))),(12,(i64 (0:Int)))] (AWP.seq (AWP.seq (AWP.rg0 [] [(4,(slc 1 Zg a.1)),(5,(slc 1 Ze a.2.1)),(6,(slc 1 Zk b.1)),(7,(vb b.2)),(10,(.own 1 (List.length v))),(12,(i64 (0:Int))),(13,(i64 (0:Int)))] ?_))))
   obtain⟨b2,e4,hF⟩:=bindb hF
   refine AWP.mid (fun e st H=>(e=.normal∧∃ c,∃ f,b2=(.inl (c,f))∧st=[(4,(slc 1 Zg a.1)),(5,(slc 1 Ze a.2.1)),(6,(slc 1 Zk b.1)),(7,(vb b.2)),(10,(.own 1 (List.length c))),(12,(i64 f))]∧H=[.cells (Zh a.2.2),bf 1 3 Ze c false])∨(e=.ret∧∃ r,b2=(.inr r)∧Zcu r e st H)) ?_ ?_
   ·clear hF
    refine AWP.kp [4,5,6,7,10,12,13] 2 ?_
    refine AWP.bround (fun n st H=>∃ q,∃ t,∃ d,Zz b n q t d=some b2∧st=[(4,(slc 1 Zg a.1)),(5,(slc 1 Ze a.2.1)),(6,(slc 1 Zk b.1)),(7,(vb b.2)),(10,(.own 1 (List.length q))),(12,(i64 t)),(13,(i64 d))]∧H=[.cells (Zh a.2.2),bf 1 3 Ze q false]) fuel ⟨v,(0:Int),(0:Int),e4,by kernel_rfl,by kernel_rfl⟩ ?_
    rintro b3 st H ⟨q,t,d,hF,rfl,rfl⟩
    cases b3 with
    | zero=>exact noneb hF
    | succ b3=>
     rw [Zz] at hF
     refine AWP.seq (AWP.seq (AWP.rg0 [(2,.len Zk b.1)] [(4,(slc 1 Zg a.1)),(5,(slc 1 Ze a.2.1)),(6,(slc 1 Zk b.1)),(7,(vb b.2)),(10,(.own 1 (List.length q))),(12,(i64 t)),(13,(i64 d)),(56,(vb (decide (d<(List.length b.1:Int)))))] ?_))
     refine AWP.cif hF (fun e5 hF=>?_) (fun e5 hF=>?_)
     ·refine AWP.skip (AWP.seq (AWP.block (AWP.seq (AWP.rg0 [] [(4,(slc 1 Zg a.1)),(5,(slc 1 Ze a.2.1)),(6,(slc 1 Zk b.1)),(7,(vb b.2)),(10,(.own 1 (List.length q))),(12,(i64 t)),(13,(i64 d)),(14,(i64 (0:Int)))] ?_))))
      obtain⟨b4,e6,hF⟩:=bindb hF
      refine AWP.mid (fun e st H=>(e=.normal∧∃ w,∃ x,b4=(.inl (w,x))∧st=[(4,(slc 1 Zg a.1)),(5,(slc 1 Ze a.2.1)),(6,(slc 1 Zk b.1)),(7,(vb b.2)),(10,(.own 1 (List.length w))),(12,(i64 x)),(13,(i64 d))]∧H=[.cells (Zh a.2.2),bf 1 3 Ze w false])∨(e=.ret∧∃ r,b4=(.inr r)∧Zcu r e st H)) ?_ ?_
      ·clear hF
       refine AWP.kp [4,5,6,7,10,12,13,14] 2 ?_
       refine AWP.bround (fun n st H=>∃ i,∃ l,∃ m,Zaq b d n i l m=some b4∧st=[(4,(slc 1 Zg a.1)),(5,(slc 1 Ze a.2.1)),(6,(slc 1 Zk b.1)),(7,(vb b.2)),(10,(.own 1 (List.length i))),(12,(i64 l)),(13,(i64 d)),(14,(i64 m))]∧H=[.cells (Zh a.2.2),bf 1 3 Ze i false]) fuel ⟨q,t,(0:Int),e6,by kernel_rfl,by kernel_rfl⟩ ?_
       rintro b5 st H ⟨i,l,m,hF,rfl,rfl⟩
       cases b5 with
       | zero=>exact noneb hF
       | succ b5=>
        rw [Zaq] at hF
        refine AWP.seq (AWP.seq ?_)
        obtain⟨c3,e7,hF⟩:=bindb hF
        refine AWP.rg0 [(3,.idx Zk e7),(5,.len Ze c3)] [(4,(slc 1 Zg a.1)),(5,(slc 1 Ze a.2.1)),(6,(slc 1 Zk b.1)),(7,(vb b.2)),(10,(.own 1 (List.length i))),(12,(i64 l)),(13,(i64 d)),(14,(i64 m)),(65,(vb (decide (m<(List.length c3:Int)))))] ?_
        refine AWP.cif hF (fun e8 hF=>?_) (fun e8 hF=>?_)
        ·refine AWP.skip (AWP.seq (AWP.block (AWP.seq ?_)))
         obtain⟨j5,e9,hF⟩:=bindb hF
         obtain⟨u,f1,hF⟩:=bindb hF
         refine AWP.rg0 [(2,.idx Zk e9),(5,.idx Ze f1)] [(4,(slc 1 Zg a.1)),(5,(slc 1 Ze a.2.1)),(6,(slc 1 Zk b.1)),(7,(vb b.2)),(10,(.own 1 (List.length i))),(12,(i64 l)),(13,(i64 d)),(14,(i64 m)),(15,(i64 u))] (AWP.seq (AWP.seq ?_))
         obtain⟨f2,y,hF⟩:=bindb hF
         replace y:=someb y
         obtain⟨f3,z,hF⟩:=bindb hF
         replace z:=someb z
         obtain⟨f4,b6,hF⟩:=bindb hF
         refine AWP.to [(4,(slc 1 Zg a.1)),(5,(slc 1 Ze a.2.1)),(6,(slc 1 Zk b.1)),(7,(vb b.2)),(10,(.own 1 (List.length i))),(12,(i64 l)),(13,(i64 d)),(14,(i64 m)),(15,(i64 u)),(89,(vb f4))] [.cells (Zh a.2.2),bf 1 3 Ze i false] ?_ ?_
         ·cases f2 with
          | false=>
           cases f3 with
           | false=>
            have a0:=ifF b6 rfl
            obtain⟨j6,c4,a0⟩:=bindb a0
            replace a0:=someb a0
            subst a0
            exact AWP.rgT [(2,.bool y),(5,.len Ze i),(8,.bool z),(11,.idx Ze c4),(12,.ldE Ze c4)]
           | true=>
            have f5:=someb (ifT b6 rfl)
            subst f5
            exact AWP.rgT [(2,.bool y),(5,.len Ze i),(8,.bool z)]
          | true=>
           subst z
           have f6:=someb (ifT b6 rfl)
           subst f6
           exact AWP.rgT [(2,.bool y)]
         refine AWP.cif hF (fun f7 hF=>?_) (fun f7 hF=>?_)
         ·refine AWP.seq (AWP.rg0 [] [(2,(vb false))] (AWP.ret ?_))
          exact LeQ.of (.inr ⟨rfl,false,(someb hF).symm,(FnQ.f0 0 (.inr rfl))⟩)
         ·refine AWP.skip (AWP.seq ?_)
          obtain⟨j7,c5,hF⟩:=bindb hF
          refine AWP.rg [(3,.idx Ze c5),(4,.stE Ze c5 d)] [(4,(slc 1 Zg a.1)),(5,(slc 1 Ze a.2.1)),(6,(slc 1 Zk b.1)),(7,(vb b.2)),(10,(.own 1 (List.length i))),(12,(i64 l)),(13,(i64 d)),(14,(i64 m))] [.cells (Zh a.2.2),bf 1 3 Ze (List.set i (Int.toNat u) d) false] ?_
          rw [show ([(4,(slc 1 Zg a.1)),(5,(slc 1 Ze a.2.1)),(6,(slc 1 Zk b.1)),(7,(vb b.2)),(10,(.own 1 (List.length i))),(12,(i64 l)),(13,(i64 d)),(14,(i64 m))]:St)=[(4,(slc 1 Zg a.1)),(5,(slc 1 Ze a.2.1)),(6,(slc 1 Zk b.1)),(7,(vb b.2)),(10,(.own 1 (List.length (List.set i (Int.toNat u) d)))),(12,(i64 l)),(13,(i64 d)),(14,(i64 m))] by simp only [List.length_set]]
          refine AWP.rg0 [] [(4,(slc 1 Zg a.1)),(5,(slc 1 Ze a.2.1)),(6,(slc 1 Zk b.1)),(7,(vb b.2)),(10,(.own 1 (List.length (List.set i (Int.toNat u) d)))),(12,(i64 (ZI (l + (1:Int))))),(13,(i64 d)),(14,(i64 m))] (AWP.rg0 [] [(4,(slc 1 Zg a.1)),(5,(slc 1 Ze a.2.1)),(6,(slc 1 Zk b.1)),(7,(vb b.2)),(10,(.own 1 (List.length (List.set i (Int.toNat u) d)))),(12,(i64 (ZI (l + (1:Int))))),(13,(i64 d)),(14,(i64 (ZI (m + (1:Int)))))] (LeQ.start (LeQ.pk [4,5,6,7,10,12,13,14] 2 ?_)))
          exact⟨b5,Nat.lt_succ_self _,(List.set i (Int.toNat u) d),(ZI (l + (1:Int))),(ZI (m + (1:Int))),hF,by kernel_rfl,by kernel_rfl⟩
        ·refine AWP.exit (LeQ.start (LeQ.pk [4,5,6,7,10,12,13] 2 ?_))
         exact(.inl ⟨rfl,i,l,(someb hF).symm,by kernel_rfl,by kernel_rfl⟩)
      ·rintro _ _ _ (⟨rfl,w,x,rfl,rfl,rfl⟩ | ⟨rfl,f8,rfl,hq⟩)
       ·refine AWP.rg0 [] [(4,(slc 1 Zg a.1)),(5,(slc 1 Ze a.2.1)),(6,(slc 1 Zk b.1)),(7,(vb b.2)),(10,(.own 1 (List.length w))),(12,(i64 x)),(13,(i64 (ZI (d + (1:Int)))))] (LeQ.start (LeQ.pk [4,5,6,7,10,12,13] 2 ?_))
        exact⟨b3,Nat.lt_succ_self _,w,x,(ZI (d + (1:Int))),hF,by kernel_rfl,by kernel_rfl⟩
       ·exact LeQ.of (.inr ⟨rfl,f8,(someb hF).symm,hq⟩)
     ·refine AWP.exit (LeQ.start (LeQ.pk [4,5,6,7,10,12] 2 ?_))
      exact(.inl ⟨rfl,q,t,(someb hF).symm,by kernel_rfl,by kernel_rfl⟩)
   ·rintro _ _ _ (⟨rfl,c,f,rfl,rfl,rfl⟩ | ⟨rfl,j8,rfl,hq⟩)
    ·refine AWP.seq (AWP.seq (AWP.rg0 [] [(4,(slc 1 Zg a.1)),(5,(slc 1 Ze a.2.1)),(6,(slc 1 Zk b.1)),(10,(.own 1 (List.length c))),(12,(i64 f)),(97,(vb (!b.2)))] ?_))
     refine AWP.cif hF (fun f9 hF=>?_) (fun f9 hF=>?_)
     ·refine AWP.seq ?_
      obtain⟨g0,a5,hF⟩:=bindb hF
      replace a5:=someb a5
      obtain⟨g1,c6,hF⟩:=bindb hF
      refine AWP.to [(2,(vb g1))] [.cells (Zh a.2.2),bf 1 3 Ze c false] ?_ ?_
      ·cases g0 with
       | false=>
        have g2:=someb (ifF c6 rfl)
        subst g2
        exact AWP.rgT [(1,.len Zk b.1),(3,.bool a5)]
       | true=>
        have a1:=ifT c6 rfl
        obtain⟨g3,g4,a1⟩:=bindb a1
        replace a1:=someb a1
        subst a1
        exact AWP.rgT [(1,.len Zk b.1),(3,.bool a5),(4,.call Tryz.func9 [] (Zjf g3 g4))]
      refine AWP.ret ?_
      have hr:=someb hF
      subst hr
      exact(FnQ.f0 0 (.inr rfl))
     ·refine AWP.skip (AWP.seq (AWP.seq (AWP.rg0 [] [(4,(slc 1 Zg a.1)),(5,(slc 1 Ze a.2.1)),(10,(.own 1 (List.length c))),(12,(i64 f)),(16,(i64 (0:Int)))] ?_)))
      obtain⟨b7,g5,hF⟩:=bindb hF
      refine AWP.mid (fun e st H=>(e=.normal∧b7=(.inl ())∧st=[(5,(slc 1 Ze a.2.1)),(12,(i64 f))]∧H=[.cells (Zh a.2.2),bf 1 3 Ze c false])∨(e=.ret∧∃ r,b7=(.inr r)∧Zcu r e st H)) ?_ ?_
      ·clear hF
       refine AWP.kp [4,5,10,12,16] 2 ?_
       refine AWP.bround (fun n st H=>∃ g,Zas a c n g=some b7∧st=[(4,(slc 1 Zg a.1)),(5,(slc 1 Ze a.2.1)),(10,(.own 1 (List.length c))),(12,(i64 f)),(16,(i64 g))]∧H=[.cells (Zh a.2.2),bf 1 3 Ze c false]) fuel ⟨(0:Int),g5,by kernel_rfl,by kernel_rfl⟩ ?_
       rintro b8 st H ⟨g,hF,rfl,rfl⟩
       cases b8 with
       | zero=>exact noneb hF
       | succ b8=>
        rw [Zas] at hF
        refine AWP.seq (AWP.seq (AWP.rg0 [(2,.len Ze a.2.1)] [(4,(slc 1 Zg a.1)),(5,(slc 1 Ze a.2.1)),(10,(.own 1 (List.length c))),(12,(i64 f)),(16,(i64 g)),(107,(vb (decide (g<(List.length a.2.1:Int)))))] ?_))
        refine AWP.cif hF (fun g6 hF=>?_) (fun g6 hF=>?_)
        ·refine AWP.skip (AWP.seq (AWP.block (AWP.seq ?_)))
         obtain⟨j9,g7,hF⟩:=bindb hF
         obtain⟨b9,c7,hF⟩:=bindb hF
         refine AWP.rg0 [(3,.idx Ze g7),(5,.idx Ze c7),(6,.ldE Ze c7)] [(4,(slc 1 Zg a.1)),(5,(slc 1 Ze a.2.1)),(10,(.own 1 (List.length c))),(12,(i64 f)),(16,(i64 g)),(17,(vb (b9 == (0:Int))))] (AWP.seq (AWP.seq (AWP.rg0 [] [(4,(slc 1 Zg a.1)),(5,(slc 1 Ze a.2.1)),(10,(.own 1 (List.length c))),(12,(i64 f)),(16,(i64 g)),(17,(vb (b9 == (0:Int)))),(18,(i64 (0:Int)))] ?_)))
         obtain⟨c0,g8,hF⟩:=bindb hF
         refine AWP.mid (fun e st H=>(e=.normal∧∃ a6,c0=(.inl a6)∧st=[(4,(slc 1 Zg a.1)),(5,(slc 1 Ze a.2.1)),(10,(.own 1 (List.length c))),(12,(i64 f)),(16,(i64 g)),(17,(vb a6))]∧H=[.cells (Zh a.2.2),bf 1 3 Ze c false])∨(e=.ret∧∃ r,c0=(.inr r)∧Zcu r e st H)) ?_ ?_
         ·clear hF
          refine AWP.kp [4,5,10,12,16,17,18] 2 ?_
          refine AWP.bround (fun n st H=>∃ s,∃ o,Zar a c g n s o=some c0∧st=[(4,(slc 1 Zg a.1)),(5,(slc 1 Ze a.2.1)),(10,(.own 1 (List.length c))),(12,(i64 f)),(16,(i64 g)),(17,(vb s)),(18,(i64 o))]∧H=[.cells (Zh a.2.2),bf 1 3 Ze c false]) fuel ⟨(b9 == (0:Int)),(0:Int),g8,by kernel_rfl,by kernel_rfl⟩ ?_
          rintro c1 st H ⟨s,o,hF,rfl,rfl⟩
          cases c1 with
          | zero=>exact noneb hF
          | succ c1=>
           rw [Zar] at hF
           refine AWP.seq (AWP.seq (AWP.rg0 [(2,.len Ze a.2.1)] [(4,(slc 1 Zg a.1)),(5,(slc 1 Ze a.2.1)),(10,(.own 1 (List.length c))),(12,(i64 f)),(16,(i64 g)),(17,(vb s)),(18,(i64 o)),(121,(vb (decide (o<(List.length a.2.1:Int)))))] ?_))
           refine AWP.cif hF (fun g9 hF=>?_) (fun g9 hF=>?_)
           ·refine AWP.skip ?_
            obtain⟨c8,h0,hF⟩:=bindb hF
            refine AWP.seq ?_
            refine AWP.mid (fun e st H=>(e=.normal∧∃ a2,c8=(.inl a2)∧st=[(4,(slc 1 Zg a.1)),(5,(slc 1 Ze a.2.1)),(10,(.own 1 (List.length c))),(12,(i64 f)),(16,(i64 g)),(17,(vb a2)),(18,(i64 o))]∧H=[.cells (Zh a.2.2),bf 1 3 Ze c false])∨(e=.ret∧∃ r,c8=(.inr r)∧Zcu r e st H)) ?_ ?_
            ·clear hF
             have hF:=h0
             refine AWP.block (AWP.seq (AWP.seq ?_))
             obtain⟨k0,h1,hF⟩:=bindb hF
             obtain⟨k1,h2,hF⟩:=bindb hF
             obtain⟨k2,h3,hF⟩:=bindb hF
             obtain⟨h4,h5,hF⟩:=bindb hF
             refine AWP.dr [(3,.idx Ze h1),(5,.idx Zg h2),(9,.idx Ze h3),(11,.idx Zo h5)] 14 [] [] [] [(4,(slc 1 Zg a.1)),(5,(slc 1 Ze a.2.1)),(10,(.own 1 (List.length c))),(12,(i64 f)),(16,(i64 g)),(17,(vb s)),(18,(i64 o)),(137,(vb (!h4)))] [.cells (Zh a.2.2),bf 1 3 Ze c false] ?_
             refine AWP.cif hF (fun h6 hF=>?_) (fun h6 hF=>?_)
             ·refine AWP.exit (LeQ.start (LeQ.pk [4,5,10,12,16,17,18] 2 ?_))
              exact(.inl ⟨rfl,s,(someb hF).symm,by kernel_rfl,by kernel_rfl⟩)
             ·refine AWP.skip (AWP.seq (AWP.seq ?_))
              obtain⟨k3,h7,hF⟩:=bindb hF
              obtain⟨h8,c9,hF⟩:=bindb hF
              obtain⟨k4,h9,hF⟩:=bindb hF
              obtain⟨i0,d0,hF⟩:=bindb hF
              refine AWP.dr [(3,.idx Ze h7),(5,.idx Ze c9),(6,.ldE Ze c9),(10,.idx Ze h9),(12,.idx Ze d0),(13,.ldE Ze d0)] 15 [] [] [] [(4,(slc 1 Zg a.1)),(5,(slc 1 Ze a.2.1)),(10,(.own 1 (List.length c))),(12,(i64 f)),(16,(i64 g)),(17,(vb s)),(18,(i64 o)),(152,(vb (decide (h8 ≥ i0))))] [.cells (Zh a.2.2),bf 1 3 Ze c false] ?_
              refine AWP.cif hF (fun i1 hF=>?_) (fun i1 hF=>?_)
              ·refine AWP.seq (AWP.rg0 [] [(2,(vb false))] (AWP.ret ?_))
               exact LeQ.of (.inr ⟨rfl,false,(someb hF).symm,(FnQ.f0 0 (.inr rfl))⟩)
              ·refine AWP.skip ?_
               obtain⟨i2,a7,hF⟩:=bindb hF
               replace a7:=someb a7
               obtain⟨d1,d2,hF⟩:=bindb hF
               refine AWP.to [(4,(slc 1 Zg a.1)),(5,(slc 1 Ze a.2.1)),(10,(.own 1 (List.length c))),(12,(i64 f)),(16,(i64 g)),(17,(vb d1)),(18,(i64 o))] [.cells (Zh a.2.2),bf 1 3 Ze c false] ?_ ?_
               ·cases i2 with
                | false=>
                 have p:=ifF d2 rfl
                 obtain⟨k5,i3,p⟩:=bindb p
                 obtain⟨k6,d3,p⟩:=bindb p
                 obtain⟨k7,i4,p⟩:=bindb p
                 obtain⟨k8,d4,p⟩:=bindb p
                 replace p:=someb p
                 subst p
                 exact AWP.drT [(1,.bool a7),(5,.idx Ze i3),(7,.idx Ze d3),(8,.ldE Ze d3),(12,.idx Ze i4),(14,.idx Ze d4),(15,.ldE Ze d4)] 19 [] [] []
                | true=>
                 have i5:=someb (ifT d2 rfl)
                 subst i5
                 exact AWP.drT [(1,.bool a7)] 19 [] [] []
               refine LeQ.start (LeQ.pk [4,5,10,12,16,17,18] 2 ?_)
               exact(.inl ⟨rfl,d1,(someb hF).symm,by kernel_rfl,by kernel_rfl⟩)
            ·rintro _ _ _ (⟨rfl,a2,rfl,rfl,rfl⟩ | ⟨rfl,i6,rfl,hq⟩)
             ·refine AWP.rg0 [] [(4,(slc 1 Zg a.1)),(5,(slc 1 Ze a.2.1)),(10,(.own 1 (List.length c))),(12,(i64 f)),(16,(i64 g)),(17,(vb a2)),(18,(i64 (ZI (o + (1:Int)))))] (LeQ.start (LeQ.pk [4,5,10,12,16,17,18] 2 ?_))
              exact⟨c1,Nat.lt_succ_self _,a2,(ZI (o + (1:Int))),hF,by kernel_rfl,by kernel_rfl⟩
             ·exact LeQ.of (.inr ⟨rfl,i6,(someb hF).symm,hq⟩)
           ·refine AWP.exit (LeQ.start (LeQ.pk [4,5,10,12,16,17] 2 ?_))
            exact(.inl ⟨rfl,s,(someb hF).symm,by kernel_rfl,by kernel_rfl⟩)
         ·rintro _ _ _ (⟨rfl,a6,rfl,rfl,rfl⟩ | ⟨rfl,i7,rfl,hq⟩)
          ·refine AWP.seq (AWP.rg0 [] [(4,(slc 1 Zg a.1)),(5,(slc 1 Ze a.2.1)),(10,(.own 1 (List.length c))),(12,(i64 f)),(16,(i64 g)),(173,(vb (!a6)))] ?_)
           refine AWP.cif hF (fun i8 hF=>?_) (fun i8 hF=>?_)
           ·refine AWP.seq (AWP.rg0 [] [(2,(vb false))] (AWP.ret ?_))
            exact LeQ.of (.inr ⟨rfl,false,(someb hF).symm,(FnQ.f0 0 (.inr rfl))⟩)
           ·refine AWP.skip (AWP.rg0 [] [(4,(slc 1 Zg a.1)),(5,(slc 1 Ze a.2.1)),(10,(.own 1 (List.length c))),(12,(i64 f)),(16,(i64 (ZI (g + (1:Int)))))] (LeQ.start (LeQ.pk [4,5,10,12,16] 2 ?_)))
            exact⟨b8,Nat.lt_succ_self _,(ZI (g + (1:Int))),hF,by kernel_rfl,by kernel_rfl⟩
          ·exact LeQ.of (.inr ⟨rfl,i7,(someb hF).symm,hq⟩)
        ·refine AWP.exit (LeQ.start (LeQ.pk [5,12] 2 ?_))
         exact(.inl ⟨rfl,(someb hF).symm,by kernel_rfl,by kernel_rfl⟩)
      ·rintro _ _ _ (⟨rfl,rfl,rfl,rfl⟩ | ⟨rfl,k9,rfl,hq⟩)
       ·refine AWP.seq ?_
        obtain⟨i9,a8,hF⟩:=bindb hF
        replace a8:=someb a8
        obtain⟨j0,d5,hF⟩:=bindb hF
        refine AWP.to [(2,(vb j0))] [.cells (Zh a.2.2),bf 1 3 Ze c false] ?_ ?_
        ·cases i9 with
         | false=>
          have j1:=someb (ifF d5 rfl)
          subst j1
          exact AWP.rgT [(2,.len Ze a.2.1),(4,.bool a8)]
         | true=>
          have a3:=ifT d5 rfl
          obtain⟨j2,j3,a3⟩:=bindb a3
          replace a3:=someb a3
          subst a3
          exact AWP.rgT [(2,.len Ze a.2.1),(4,.bool a8),(5,.call Tryz.func9 [] (Zjf j2 j3))]
        refine AWP.ret ?_
        have hr:=someb hF
        subst hr
        exact(FnQ.f0 0 (.inr rfl))
       ·have hr:=someb hF
        subst hr
        exact hq
    ·have hr:=someb hF
     subst hr
     exact hq
end Go.AM
set_option maxRecDepth 100000
namespace Go.AM
open Go
def Ok {α:Type} (x:Option α) (p:α→Prop):Prop:=∃ r,x=some r∧p r
theorem Ok.bind {α γ:Type} {x:Option α} {p:α→Prop} {f:α→Option γ} {q:γ→Prop} (h:Ok x p) (k:∀ v,p v→Ok (f v) q):Ok (x.bind f) q:=by
 obtain⟨v,rfl,hv⟩:=h
 exact k v hv
theorem Ok.ret {α:Type} {r:α} {p:α→Prop} (h:p r):Ok (some r) p:=⟨r,rfl,h⟩
theorem Ok.chk {α:Type} {c:Prop} [Decidable c] {x:Option α} {p:α→Prop} (hc:c) (h:Ok x p):Ok (if c then x else none) p:=by rw [if_pos hc]; exact h
theorem Ok.ite {α:Type} {c:Prop} [Decidable c] {x y:Option α} {p:α→Prop} (h1:c→Ok x p) (h2:¬ c→Ok y p):Ok (if c then x else y) p:=by
 split
 ·exact h1 (by assumption)
 ·exact h2 (by assumption)
theorem Ok.lift {α γ:Type} {b:α} {f:α→Option γ} {q:γ→Prop} (h:Ok (f b) q):Ok ((Option.some b).bind f) q:=h
theorem Ok.mono {α:Type} {x:Option α} {p q:α→Prop} (h:Ok x p) (k:∀ v,p v→q v):Ok x q:=by
 obtain⟨v,h1,h2⟩:=h
 exact⟨v,h1,k v h2⟩
theorem Ok.get {α:Type} {x:Option α} {p:α→Prop} (h:Ok x p) {r:α} (e:x=some r):p r:=by
 obtain⟨v,h1,h2⟩:=h
 rw [h1] at e; cases e; exact h2
theorem Ok.eq {α:Type} {x:Option α} {r:α} (h:Ok x (·=r)):x=some r:=by
 obtain⟨v,h1,rfl⟩:=h; exact h1
theorem Ok.of_eq {α:Type} {x:Option α} {r:α} (h:x=some r):Ok x (·=r):=⟨r,h,rfl⟩
theorem Ok.idx {α:Type} {l:List α} {i:Int} {p:α→Prop} (h0:0≤i) (h1:i<l.length) (h:∀ x∈l,p x):Ok (idx l i) p:=by
 have hi:i.toNat<l.length:=by omega
 exact⟨l[i.toNat],by simp [AM.idx,h0,hi],h _ (List.getElem_mem hi)⟩
theorem wi64 {x:Int} (h0:-9223372036854775808≤x) (h1:x<9223372036854775808):IntKind.wrap .i64 x=x:=by
 simp only [IntKind.wrap,IntKind.bits,IntKind.signed]
 simp
 omega
theorem wu64 {x:Int} (h0:0≤x) (h1:x<18446744073709551616):IntKind.wrap .u64 x=x:=by
 simp only [IntKind.wrap,IntKind.bits,IntKind.signed]
 simp
 omega
theorem Zqo (x:Int):0≤IntKind.wrap .u64 x∧IntKind.wrap .u64 x<18446744073709551616:=by
 simp only [IntKind.wrap,IntKind.bits,IntKind.signed]
 simp
 omega
structure TOk (t:Zj):Prop where
 h0:0≤t.f_i
 h1:t.f_i≤t.f_l.length
 h2:(t.f_l.length:Int)<9223372036854775808
theorem New_ok {l:List Int} (h:(l.length:Int)<9223372036854775808):Ok (Zg4 l) TOk:=Ok.ret ⟨Int.le_refl 0,by simp,h⟩
theorem Mod_ok {x n:Int} (h1:1≤n) (h2:n<9223372036854775808):Ok (Zft x n) fun v=>0≤v∧v<n:=by
 unfold Zft
 have hn:IntKind.wrap .u64 n=n:=wu64 (by omega) (by omega)
 rw [hn]
 have hx:=Zqo x
 have h3:0≤Int.tmod (IntKind.wrap .u64 x) n:=Int.tmod_nonneg _ hx.1
 have h4:Int.tmod (IntKind.wrap .u64 x) n<n:=Int.tmod_lt_of_pos _ (by omega)
 refine Ok.chk (by omega) (Ok.ret ?_)
 rw [wi64 (by omega) (by omega)]
 exact⟨h3,h4⟩
theorem Zik {t:Zj} (ht:TOk t) (n:Int) (h2:n<9223372036854775808):Ok (Zal t n) fun r=>(0≤r.1∧(r.1<n∨r.1=0))∧TOk r.2:=by
 unfold Zal
 refine Ok.lift (Ok.ite (fun hc=>Ok.ret ⟨⟨by simp,.inr rfl⟩,ht⟩) fun hc=>?_)
 simp only [Bool.or_eq_true,decide_eq_true_eq] at hc
 have hc1:¬ n≤1:=fun h=>hc (.inl h)
 have hc2:¬ t.f_i ≥ t.f_l.length:=fun h=>hc (.inr h)
 have h0:=ht.h0
 have h1:=ht.h2
 have e1:IntKind.wrap .i64 (t.f_i + 1)=t.f_i + 1:=wi64 (by omega) (by omega)
 rw [e1]
 have e2:IntKind.wrap .i64 (t.f_i + 1 - 1)=t.f_i:=by rw [Int.add_sub_cancel]; exact wi64 (by omega) (by omega)
 rw [e2]
 refine Ok.bind (Ok.idx (p:=fun _=>True) h0 (by omega) fun _ _=>trivial) fun x _=>?_
 refine Ok.bind (Mod_ok (by omega) h2) fun v hv=>Ok.ret ⟨⟨hv.1,.inl hv.2⟩,?_⟩
 exact⟨by show 0≤t.f_i + 1; omega,by show t.f_i + 1≤t.f_l.length; omega,h1⟩
theorem Zsc {t:Zj} (ht:TOk t) (n:Int) (h1:1≤n) (h2:n<9223372036854775808):Ok (Zal t n) fun r=>(0≤r.1∧r.1<n)∧TOk r.2:=
 (Zik ht n h2).mono fun r ⟨⟨h3,h4⟩,h5⟩=>⟨⟨h3,by omega⟩,h5⟩
structure ROk (top:Int) (r:Zb):Prop where
 h0:0≤r.Lo
 h1:r.Lo≤r.Hi
 h2:r.Hi≤top
structure RIn (r:Zb):Prop where
 h0:0≤r.Lo
 h1:r.Lo<4294967296
 h2:0≤r.Hi
 h3:r.Hi<4294967296
structure BOk (b:Arr5 Zb):Prop where
 h0:ROk 4294967295 b.x0
 h1:ROk 4294967295 b.x1
 h2:ROk 255 b.x2
 h3:ROk 65535 b.x3
 h4:ROk 65535 b.x4
structure BIn (b:Arr5 Zb):Prop where
 h0:RIn b.x0
 h1:RIn b.x1
 h2:RIn b.x2
 h3:RIn b.x3
 h4:RIn b.x4
theorem BIn.get {b:Arr5 Zb} (h:BIn b) (k:Int):RIn (b.get k):=by
 unfold Arr5.get
 split
 ·exact h.h0
 split
 ·exact h.h1
 split
 ·exact h.h2
 split
 ·exact h.h3
 ·exact h.h4
theorem BIn.set {b:Arr5 Zb} (h:BIn b) {r:Zb} (hr:RIn r) (k:Int):BIn (b.set k r):=by
 unfold Arr5.set
 split
 ·exact⟨hr,h.h1,h.h2,h.h3,h.h4⟩
 split
 ·exact⟨h.h0,hr,h.h2,h.h3,h.h4⟩
 split
 ·exact⟨h.h0,h.h1,hr,h.h3,h.h4⟩
 split
 ·exact⟨h.h0,h.h1,h.h2,hr,h.h4⟩
 ·exact⟨h.h0,h.h1,h.h2,h.h3,hr⟩
theorem Zcx (m:Nat) (h:m≤1000000000000):∃ n,fuel=n + m + 1:=⟨fuel - m - 1,by unfold fuel; omega⟩
theorem Zsd {t:List Int} (h:Zmd t):(t.length:Int)<9223372036854775808:=by have:=h.1; omega
end Go.AM
set_option maxRecDepth 100000
namespace Go.AM
open Go
def Sq (n:Int) (m:List (List Bool)):Prop:=(m.length:Int)=n∧∀ r∈m,(r.length:Int)=n
theorem Sq.set {n:Int} {m:List (List Bool)} (h:Sq n m) {r:List Bool} (hr:(r.length:Int)=n) (i:Nat):Sq n (m.set i r):=by
 refine⟨by simpa using h.1,fun x hx=>?_⟩
 rcases List.mem_or_eq_of_mem_set hx with hx | hx
 ·exact h.2 x hx
 ·rw [hx]; exact hr
theorem Zk3 {n:Int} (h0:0≤n) (h1:n≤1000):∀(k fu:Nat) (v:List (List Bool)) (i:Int),n - i≤k→k<fu→0≤i→i≤n→(v.length:Int)=n→(∀(j:Nat) (h:j<v.length),(j:Int)<i→(v[j].length:Int)=n) →
  Ok (Zao n fu v i) (Sq n)
 | 0,fu + 1,v,i,hk,hf,hi,hin,hv,hr=>by
  rw [Zao,if_neg (by simp; omega)]
  refine Ok.ret ⟨hv,fun r hx=>?_⟩
  obtain⟨j,hj,rfl⟩:=List.getElem_of_mem hx
  exact hr j hj (by omega)
 | k + 1,fu + 1,v,i,hk,hf,hi,hin,hv,hr=>by
  rw [Zao]
  refine Ok.ite (fun h=>?_) fun h=>?_
  ·simp only [decide_eq_true_eq] at h
   refine Ok.chk ⟨h0,by unfold lim; omega⟩ (Ok.bind (Ok.idx (p:=fun _=>True) hi (by omega) fun _ _=>trivial) fun x _=>?_)
   rw [wi64 (x:=i + 1) (by omega) (by omega)]
   refine Zk3 h0 h1 k fu _ (i + 1) (by omega) (by omega) (by omega) (by omega) (by simpa using hv) fun j hj hji=>?_
   by_cases hje:i.toNat=j
   ·subst hje; simp; omega
   ·rw [List.getElem_set_ne hje]; exact hr j (by simpa using hj) (by omega)
  ·simp only [decide_eq_true_eq] at h
   refine Ok.ret ⟨hv,fun r hx=>?_⟩
   obtain⟨j,hj,rfl⟩:=List.getElem_of_mem hx
   exact hr j hj (by omega)
theorem Zri {n:Int} (h0:0≤n) (h1:n≤1000):Ok (Zcs n []) (Sq n):=by
 unfold Zcs
 obtain⟨fu,hfu⟩:=Zcx 1000 (by omega)
 refine Ok.chk ⟨h0,by unfold lim; omega⟩ (Ok.bind (p:=Sq n) ?_ fun m hm=>Ok.bind (p:=Sq n) ?_ fun m' hm'=>Ok.ret hm')
 ·refine Zk3 h0 h1 1000 fuel _ 0 (by omega) (by omega) (Int.le_refl _) h0 (by simp; omega) fun j hj hji=>by omega
 ·rw [hfu,Zb7,if_neg (by simp)]
  exact Ok.ret hm
theorem Zjv {r:Int × Zj} {n i:Int} (hn:IntKind.wrap .i64 (1 + r.1)=n) (h1:n≤1000) (hi0:0≤i) (hi:i<n):∀(k fu:Nat) (t:Zj) (m:List (List Bool)) (j:Int),n - j≤k→k<fu→0≤j→j≤n→TOk t→Sq n m →
  Ok (Zbb r i fu t m j) fun o=>TOk o.1∧Sq n o.2
 | 0,fu + 1,t,m,j,hk,hf,hj,hjn,ht,hm=>by
  rw [Zbb,hn,if_neg (by simp; omega)]
  exact Ok.ret ⟨ht,hm⟩
 | k + 1,fu + 1,t,m,j,hk,hf,hj,hjn,ht,hm=>by
  rw [Zbb,hn]
  refine Ok.ite (fun h=>?_) fun h=>Ok.ret ⟨ht,hm⟩
  simp only [decide_eq_true_eq] at h
  refine Ok.bind (Ok.idx (p:=fun x:List Bool=>(x.length:Int)=n) hi0 (by have:=hm.1; omega) hm.2) fun x hx=>?_
  refine Ok.bind (Zik ht 4 (by omega)) fun q hq=>?_
  refine Ok.lift ?_
  refine Ok.bind (p:=fun o:Bool × Zj=>TOk o.2) ?_ fun o ho=>?_
  ·refine Ok.ite (fun _=>?_) fun _=>Ok.ret hq.2
   refine Ok.lift (Ok.bind (p:=fun o:Bool × Zj=>TOk o.2) ?_ fun o ho=>Ok.ret ho)
   refine Ok.ite (fun _=>Ok.ret hq.2) fun _=>?_
   exact Ok.bind (Zik hq.2 8 (by omega)) fun q2 hq2=>Ok.ret hq2.2
  ·refine Ok.bind (Ok.idx (p:=fun _=>True) hj (by omega) fun _ _=>trivial) fun y _=>?_
   rw [wi64 (x:=j + 1) (by omega) (by omega)]
   exact Zjv hn h1 hi0 hi k fu _ _ (j + 1) (by omega) (by omega) (by omega) (by omega) ho (hm.set (by simpa using hx) _)
theorem Zjw {r:Int × Zj} {n:Int} (hn:IntKind.wrap .i64 (1 + r.1)=n) (h1:n≤1000):∀(k fu:Nat) (t:Zj) (m:List (List Bool)) (i:Int),n - i≤k→k<fu→0≤i→i≤n→TOk t→Sq n m →
  Ok (Zbc r fu t m i) fun o=>TOk o.1∧Sq n o.2
 | 0,fu + 1,t,m,i,hk,hf,hi,hin,ht,hm=>by
  rw [Zbc,hn,if_neg (by simp; omega)]
  exact Ok.ret ⟨ht,hm⟩
 | k + 1,fu + 1,t,m,i,hk,hf,hi,hin,ht,hm=>by
  rw [Zbc,hn]
  refine Ok.ite (fun h=>?_) fun h=>Ok.ret ⟨ht,hm⟩
  simp only [decide_eq_true_eq] at h
  obtain⟨fu',hfu⟩:=Zcx 1000 (by omega)
  refine Ok.bind (Zjv hn h1 hi h 1000 fuel t m 0 (by omega) (by omega) (Int.le_refl _) (by omega) ht hm) fun o ho=>?_
  obtain⟨t',m'⟩:=o
  simp only
  rw [wi64 (x:=i + 1) (by omega) (by omega)]
  exact Zjw hn h1 k fu _ _ (i + 1) (by omega) (by omega) (by omega) (by omega) ho.1 ho.2
theorem Zjx:∀(k fu:Nat) (t:Zj) (l:List Int) (d:Int),d + 1≤k→k<fu→-1≤d→d<1000→TOk t→(l.length:Int) + d<1999 →
  Ok (Zbd fu t l d) fun o=>TOk o.1∧(o.2.length:Int)<2000
 | 0,fu + 1,t,l,d,hk,hf,hd,hd2,ht,hl=>by
  rw [Zbd,if_neg (by simp; omega)]
  exact Ok.ret ⟨ht,by simp only; omega⟩
 | k + 1,fu + 1,t,l,d,hk,hf,hd,hd2,ht,hl=>by
  rw [Zbd]
  refine Ok.ite (fun h=>?_) fun h=>Ok.ret ⟨ht,by simp only [decide_eq_true_eq,ge_iff_le] at h ⊢; omega⟩
  simp only [decide_eq_true_eq,ge_iff_le] at h
  refine Ok.bind (p:=fun o:Zj × List Int=>TOk o.1∧(o.2.length:Int) + (d - 1)<1999) ?_ fun o ho=>?_
  ·refine Ok.bind (Zik ht 5 (by omega)) fun q hq=>?_
   refine Ok.ite (fun _=>Ok.chk (by simp; unfold lim; omega) (Ok.ret ⟨hq.2,by simp; omega⟩)) fun _=>Ok.ret ⟨hq.2,by simp only; omega⟩
  ·obtain⟨t',l'⟩:=o
   simp only at ho ⊢
   rw [wi64 (x:=d - 1) (by omega) (by omega)]
   exact Zjx k fu _ _ (d - 1) (by omega) (by omega) (by omega) (by omega) ho.1 ho.2
theorem Zpt {t:Zj} (ht:TOk t):Ok (Zdo t) fun o=>∃ n:Int,1≤n∧n≤6∧Sq n o.1∧(o.2.1.length:Int)≤2000:=by
 unfold Zdo
 refine Ok.bind (Zsc ht 6 (by omega) (by omega)) fun r hr=>?_
 have hn:IntKind.wrap .i64 (1 + r.1)=1 + r.1:=wi64 (by omega) (by omega)
 rw [hn]
 obtain⟨fu,hfu⟩:=Zcx 1000 (by omega)
 refine Ok.bind (Zri (n:=1 + r.1) (by omega) (by omega)) fun m hm=>?_
 refine Ok.bind (Zjw hn (by omega) 1000 fuel _ _ 0 (by omega) (by omega) (Int.le_refl _) (by omega) hr.2 hm) fun o ho=>?_
 obtain⟨t1,m1⟩:=o
 simp only at ho ⊢
 rw [wi64 (x:=1 + r.1 - 1) (by omega) (by omega)]
 refine Ok.bind (Zjx 1000 fuel t1 [] (1 + r.1 - 1) (by omega) (by omega) (by omega) (by omega) ho.1 (by simp; omega)) fun o2 ho2=>?_
 obtain⟨t2,l⟩:=o2
 simp only at ho2 ⊢
 refine Ok.bind (p:=fun o:Zj × List Int=>TOk o.1∧(o.2.length:Int)≤2000) ?_ fun o3 ho3=>?_
 ·refine Ok.bind (Zik ho2.1 10 (by omega)) fun q hq=>?_
  refine Ok.ite (fun _=>?_) fun _=>Ok.ret ⟨hq.2,by simp only; omega⟩
  refine Ok.bind (Zik hq.2 _ (by rw [wi64 (by omega) (by omega)]; omega)) fun q2 hq2=>?_
  exact Ok.chk (by simp; unfold lim; omega) (Ok.ret ⟨hq2.2,by simp; omega⟩)
 ·obtain⟨t3,l3⟩:=o3
  exact Ok.ret ⟨1 + r.1,by omega,by omega,ho.2,ho3.2⟩
end Go.AM
set_option maxRecDepth 100000
namespace Go.AM
open Go
def bef (m:List (List Bool)) (b d:Int):Bool:=(m.getD b.toNat []).getD d.toNat false
theorem Zgw {n:Int} {m:List (List Bool)} (hm:Sq n m) {b:Int} (hb:0≤b∧b<n):AM.idx m b=some (m.getD b.toNat [])∧((m.getD b.toNat []).length:Int)=n:=by
 have h1:=hm.1
 have hx:b.toNat<m.length:=by omega
 have e:m.getD b.toNat []=m[b.toNat]:=by simp [hx]
 rw [e]
 exact⟨by simp [AM.idx,hb.1,hx],hm.2 _ (List.getElem_mem hx)⟩
theorem Zno {n:Int} {m:List (List Bool)} (hm:Sq n m) {b d:Int} (hb:0≤b∧b<n) (hd:0≤d∧d<n):AM.idx (m.getD b.toNat []) d=some (bef m b d):=by
 have h1:=(Zgw hm hb).2
 have hx:d.toNat<(m.getD b.toNat []).length:=by omega
 unfold bef
 generalize m.getD b.toNat []=r at hx
 simp [AM.idx,hd.1,hx]
def gd (L:List (Int × Int)) (k:Int):Int:=(mget Zn L k).getD 0
theorem eqZ {a b:Int}:Zn a b=true ↔ a=b:=by simp [Zn]
theorem Zog {V:Type} (M:List (Int × V)) (a k:Int) (v:V):mget Zn (mput Zn M a v) k=if a=k then some v else mget Zn M k:=by
 by_cases hk:a=k
 ·subst hk
  rw [if_pos rfl]
  unfold mput mget
  split
  ·rename_i h
   obtain⟨x,hx,hx2⟩:=List.any_eq_true.1 h
   rw [List.find?_map]
   have hc:(fun y:Int × V=>Zn a y.1) ∘ (fun y:Int × V=>if Zn a y.1=true then (a,v) else y)=fun y=>Zn a y.1:=by
    funext y
    simp only [Function.comp]
    by_cases h2:Zn a y.1=true
    ·rw [if_pos h2,h2]; exact eqZ.2 rfl
    ·rw [if_neg h2]
   rw [hc]
   cases hf:M.find? (fun y=>Zn a y.1) with
   | none=>exact absurd hx2 (by simpa using List.find?_eq_none.1 hf x hx)
   | some y=>
    have:=List.find?_some hf
    simp only [Option.map_some]
    rw [if_pos this]
  ·rename_i h
   rw [List.find?_append]
   have:M.find? (fun y=>Zn a y.1)=none:=List.find?_eq_none.2 fun x hx h2=>h (List.any_eq_true.2 ⟨x,hx,h2⟩)
   rw [this]
   simp [Zn]
 ·rw [if_neg hk]
  unfold mput mget
  split
  ·rw [List.find?_map]
   have hc:(fun y:Int × V=>Zn k y.1) ∘ (fun y:Int × V=>if Zn a y.1=true then (a,v) else y)=fun y=>Zn k y.1:=by
    funext y
    simp only [Function.comp]
    by_cases h2:Zn a y.1=true
    ·rw [if_pos h2]
     have h3:=eqZ.1 h2
     have:¬ k=a:=fun h=>hk h.symm
     simp [Zn,← h3]
    ·rw [if_neg h2]
   rw [hc,Option.map_map]
   cases hf:M.find? (fun y=>Zn k y.1) with
   | none=>rfl
   | some y=>
    have h4:=List.find?_some hf
    have h3:k=y.1:=eqZ.1 h4
    simp only [Option.map_some,Function.comp]
    rw [if_neg (fun h2=>hk ((eqZ.1 h2).trans h3.symm))]
  ·rw [List.find?_append]
   cases hf:M.find? (fun y=>Zn k y.1) with
   | none=>
    have:¬ k=a:=fun h=>hk h.symm
    simp [Zn,this]
   | some y=>rfl
theorem gd_put (M:List (Int × Int)) (a k v:Int):gd (mput Zn M a v) k=if a=k then v else gd M k:=by
 unfold gd
 rw [Zog]
 split <;> rfl
def cnt (l:List Int) (p:Int→Bool):Nat:=l.countP p
theorem Zpg {l:List Int} {p q:Int→Bool} (h:∀ x∈l,p x=true→q x=true):cnt l p≤cnt l q:=List.countP_mono_left h
theorem cnt_lt {p q:Int→Bool} {d:Int} (hp:p d=false) (hq:q d=true):∀ {l:List Int},d∈l→(∀ x∈l,p x=true→q x=true)→cnt l p + 1≤cnt l q
 | [],hd,_=>by cases hd
 | x :: l,hd,h=>by
  unfold cnt
  rw [List.countP_cons,List.countP_cons]
  have hl:∀ y∈l,p y=true→q y=true:=fun y hy=>h y (List.mem_cons_of_mem _ hy)
  by_cases hx:x=d
  ·subst hx
   have:=Zpg hl
   unfold cnt at this
   rw [hp,hq]; simp; omega
  ·have h1:=cnt_lt hp hq ((List.mem_cons.1 hd).resolve_left (fun h=>hx h.symm)) hl
   unfold cnt at h1
   have h2:=h x List.mem_cons_self
   cases hpx:p x
   ·cases hqx:q x <;> simp <;> omega
   ·rw [h2 hpx]; simp; omega
structure Good (m:List (List Bool)) (l:List Int) (s R:List (Int × Int)):Prop where
 st:∀ d,gd s d=0∨gd s d=1∨gd s d=2
 known:∀ d,gd s d=2→(∀ b∈l,bef m b d=true→gd s b=2∧gd R b + 1≤gd R d)∧(gd R d=0∨∃ b∈l,bef m b d=true∧gd R d=gd R b + 1)
 new:∀ d,gd s d=0→gd R d=0
 pos:∀ d,0≤gd R d
 top:∀ d,gd R d≤cnt l (fun x=>gd s x == 2)
 topK:∀ d,gd s d=2→gd R d + 1≤cnt l (fun x=>gd s x == 2)
def Rank (m:List (List Bool)) (l:List Int) (f:Int→Nat):Prop:=∀ b∈l,∀ d∈l,bef m b d=true→f b<f d
structure Keeps (s R s' R':List (Int × Int)):Prop where
 k2:∀ x,gd s x=2→gd s' x=2∧gd R' x=gd R x
 k1:∀ x,gd s x=1→gd s' x=1
 r1:∀ x,gd s' x=1→gd s x=1
theorem Keeps.refl (s R:List (Int × Int)):Keeps s R s R:=⟨fun _ h=>⟨h,rfl⟩,fun _ h=>h,fun _ h=>h⟩
theorem Keeps.trans {s R s' R' s'' R'':List (Int × Int)} (h:Keeps s R s' R') (k:Keeps s' R' s'' R''):Keeps s R s'' R'':=
 ⟨fun x hx=>⟨(k.k2 x (h.k2 x hx).1).1,((k.k2 x (h.k2 x hx).1).2).trans (h.k2 x hx).2⟩,fun x hx=>k.k1 x (h.k1 x hx),fun x hx=>h.r1 x (k.r1 x hx)⟩
def VisitOk (m:List (List Bool)) (l:List Int) (d:Int) (s R:List (Int × Int)) (o:Bool × List (Int × Int) × List (Int × Int)):Prop:=
 (o.1=true→Good m l o.2.1 o.2.2∧gd o.2.1 d=2∧Keeps s R o.2.1 o.2.2∧∀ x,gd s x=1→gd o.2.2 x=gd R x) ∧
 (o.1=false→∀ f,Rank m l f→¬ ∀ x,gd s x=1→f d<f x)
theorem Good.openNew {m:List (List Bool)} {l:List Int} {s R:List (Int × Int)} (h:Good m l s R) {d:Int} (hd:gd s d=0):Good m l (mput Zn s d 1) R:=by
 have e2:∀ x,gd (mput Zn s d 1) x=2 ↔ gd s x=2:=fun x=>by
  rw [gd_put]; split
  ·rename_i he; subst he; omega
  ·exact Iff.rfl
 have ec:cnt l (fun x=>gd (mput Zn s d 1) x == 2)=cnt l (fun x=>gd s x == 2):=by
  congr 1; funext x; rw [Bool.eq_iff_iff]; simpa using e2 x
 refine⟨fun x=>?_,fun x hx=>?_,fun x hx=>?_,h.pos,fun x=>by rw [ec]; exact h.top x,fun x hx=>by rw [ec]; exact h.topK x ((e2 x).1 hx)⟩
 ·rw [gd_put]; split
  ·exact .inr (.inl rfl)
  ·exact h.st x
 ·obtain⟨h1,h2⟩:=h.known x ((e2 x).1 hx)
  exact⟨fun b hb hbx=>⟨(e2 b).2 (h1 b hb hbx).1,(h1 b hb hbx).2⟩,h2⟩
 ·rw [gd_put] at hx
  split at hx
  ·omega
  ·exact h.new x hx
theorem Good.rise {m:List (List Bool)} {l:List Int} {s R:List (Int × Int)} (h:Good m l s R) {d v:Int} (hd:gd s d=1) (h0:0≤v) (h1:v≤cnt l (fun x=>gd s x == 2)):Good m l s (mput Zn R d v):=by
 have hne:∀ x,gd s x=2→gd (mput Zn R d v) x=gd R x:=fun x hx=>by
  rw [gd_put,if_neg]; rintro rfl; omega
 refine⟨h.st,fun x hx=>?_,fun x hx=>?_,fun x=>?_,fun x=>?_,fun x hx=>by rw [hne x hx]; exact h.topK x hx⟩
 ·obtain⟨k1,k2⟩:=h.known x hx
  rw [hne x hx]
  refine⟨fun b hb hbx=>⟨(k1 b hb hbx).1,by rw [hne b (k1 b hb hbx).1]; exact(k1 b hb hbx).2⟩,?_⟩
  rcases k2 with k2 | ⟨b,hb,hbx,k2⟩
  ·exact .inl k2
  ·exact .inr ⟨b,hb,hbx,by rw [hne b (k1 b hb hbx).1]; exact k2⟩
 ·rw [gd_put,if_neg (by rintro rfl; omega)]; exact h.new x hx
 ·rw [gd_put]; split
  ·exact h0
  ·exact h.pos x
 ·rw [gd_put]; split
  ·exact h1
  ·exact h.top x
theorem Good.close {m:List (List Bool)} {l:List Int} {s R:List (Int × Int)} (h:Good m l s R) {d:Int} (hd:gd s d=1) (hl:d∈l) (hp:∀ b∈l,bef m b d=true→gd s b=2∧gd R b + 1≤gd R d)
  (hc:gd R d=0∨∃ b∈l,bef m b d=true∧gd R d=gd R b + 1):Good m l (mput Zn s d 2) R:=by
 have e2:∀ x,gd s x=2→gd (mput Zn s d 2) x=2:=fun x hx=>by
  rw [gd_put]; split <;> first | rfl | exact hx
 have hlt:cnt l (fun x=>gd s x == 2) + 1≤cnt l (fun x=>gd (mput Zn s d 2) x == 2):=
  cnt_lt (d:=d) (by simp [hd]) (by simp [gd_put]) hl (fun x _ hx=>by simp only [beq_iff_eq] at hx ⊢; exact e2 x hx)
 refine⟨fun x=>?_,fun x hx=>?_,fun x hx=>?_,h.pos,fun x=>by have:=h.top x; omega,fun x hx=>?_⟩
 ·rw [gd_put]; split
  ·exact .inr (.inr rfl)
  ·exact h.st x
 ·rw [gd_put] at hx
  split at hx
  ·rename_i he; subst he
   exact⟨fun b hb hbx=>⟨e2 b (hp b hb hbx).1,(hp b hb hbx).2⟩,hc⟩
  ·obtain⟨k1,k2⟩:=h.known x hx
   exact⟨fun b hb hbx=>⟨e2 b (k1 b hb hbx).1,(k1 b hb hbx).2⟩,k2⟩
 ·rw [gd_put] at hx
  split at hx
  ·omega
  ·exact h.new x hx
 ·have:=h.top x
  omega
end Go.AM
set_option maxRecDepth 100000
namespace Go.AM
open Go
theorem idx_at {α:Type} (pre:List α) (c:α) (cs:List α):AM.idx (pre++c :: cs) (pre.length:Int)=some c:=by simp [AM.idx]
def LoopOk (m:List (List Bool)) (l:List Int) (d:Int) (s R:List (Int × Int)) (pre:List Int):(List (Int × Int) × List (Int × Int)) ⊕ (Bool × List (Int × Int) × List (Int × Int))→Prop
 | .inl (s',R')=>Good m l s' R'∧gd s' d=1∧Keeps s R s' R'∧(∀ x,gd s x=1→x ≠ d→gd R' x=gd R x)∧(∀ b∈pre,bef m b d=true→gd s' b=2∧gd R' b + 1≤gd R' d) ∧
   (gd R' d=0∨∃ b∈l,bef m b d=true∧gd s' b=2∧gd R' d=gd R' b + 1)
 | .inr o=>o.1=false∧∀ f,Rank m l f→¬ ∀ x,gd s x=1→x ≠ d→f d<f x
theorem Zly {n:Int} {m:List (List Bool)} {l:List Int} {nr:Nat} (hm:Sq n m) (hl:∀ x∈l,0≤x∧x<n) (hlen:l.length≤65536)
  (IH:∀ s R b,Good m l s R→b∈l→cnt l (fun x=>gd s x == 0)<nr→Ok (Z2 nr m l s R b) (VisitOk m l b s R)) {d:Int} (hd:d∈l) :
  ∀(rest pre:List Int) (fu:Nat) (s R:List (Int × Int)),l=pre++rest→rest.length<fu→Good m l s R→gd s d=1→cnt l (fun x=>gd s x == 0)<nr →
   (∀ b∈pre,bef m b d=true→gd s b=2∧gd R b + 1≤gd R d)→(gd R d=0∨∃ b∈l,bef m b d=true∧gd s b=2∧gd R d=gd R b + 1) →
   Ok (Za3 m l d (Z2 nr) fu s R (pre.length:Int)) (LoopOk m l d s R l)
 | [],pre,fu + 1,s,R,hp,_,hg,hs,_,hpre,hc=>by
  rw [Za3,if_neg (by rw [hp]; simp)]
  exact Ok.ret ⟨hg,hs,.refl _ _,fun _ _ _=>rfl,by rw [hp,List.append_nil]; exact hpre,hc⟩
 | b :: rest,pre,fu + 1,s,R,hp,hf,hg,hs,hz,hpre,hc=>by
  have hb:b∈l:=by rw [hp]; simp
  have hpl:pre.length<l.length:=by rw [hp]; simp
  have hidx:AM.idx l (pre.length:Int)=some b:=by rw [hp]; exact idx_at pre b rest
  rw [Za3,if_pos (by simp; exact hpl),hidx]
  refine Ok.bind (p:=LoopOk m l d s R (pre++[b])) ?_ fun o ho=>?_
  ·simp only [Option.bind_some]
   rw [(Zgw hm (hl b hb)).1]
   simp only [Option.bind_some]
   rw [Zno hm (hl b hb) (hl d hd)]
   simp only [Option.bind_some]
   refine Ok.ite (fun h=>?_) fun h=>?_
   ·have h:bef m b d=false:=by simpa using h
    refine Ok.ret ⟨hg,hs,.refl _ _,fun _ _ _=>rfl,fun x hx hxd=>?_,hc⟩
    rcases List.mem_append.1 hx with hx | hx
    ·exact hpre x hx hxd
    ·rw [List.mem_singleton.1 hx,h] at hxd; cases hxd
   ·have h:bef m b d=true:=by simpa using h
    refine Ok.bind (IH s R b hg hb hz) fun o ho=>?_
    obtain⟨r,s1,R1⟩:=o
    cases r with
    | false=>
     show Ok (some (Sum.inr (false,s1,R1))) _
     refine Ok.ret ⟨rfl,fun f hf hall=>ho.2 rfl f hf fun x hx=>?_⟩
     by_cases hxd:x=d
     ·rw [hxd]; exact hf b hb d hd h
     ·exact Nat.lt_trans (hf b hb d hd h) (hall x hx hxd)
    | true=>
     obtain⟨g1,g2,g3,g4⟩:=ho.1 rfl
     simp only at g1 g2 g3 g4
     have hs1:gd s1 d=1:=g3.k1 d hs
     have htop:=g1.topK b g2
     have hpos:=g1.pos b
     have htd:=g1.top d
     have hcl:cnt l (fun x=>gd s1 x == 2)≤l.length:=List.countP_le_length
     have hw:IntKind.wrap .i64 (gd R1 b + 1)=gd R1 b + 1:=wi64 (by omega) (by omega)
     have hv:iMax (gd R1 d) (IntKind.wrap .i64 (gd R1 b + 1))=max (gd R1 d) (gd R1 b + 1):=by
      rw [hw]; unfold iMax; split <;> omega
     show Ok (some (Sum.inl (s1,mput Zn R1 d (iMax (gd R1 d) (IntKind.wrap .i64 (gd R1 b + 1)))))) _
     rw [hv]
     have hbd:d ≠ b:=by rintro rfl; omega
     have hpd:=g1.pos d
     have hgd:gd (mput Zn R1 d (max (gd R1 d) (gd R1 b + 1))) d=max (gd R1 d) (gd R1 b + 1):=by rw [gd_put,if_pos rfl]
     have hgo:∀ x,x ≠ d→gd (mput Zn R1 d (max (gd R1 d) (gd R1 b + 1))) x=gd R1 x:=fun x hx=>by rw [gd_put,if_neg (fun h=>hx h.symm)]
     have hRd:gd R1 d=gd R d:=g4 d hs
     refine Ok.ret ⟨g1.rise hs1 (by omega) (by omega),hs1,⟨fun x hx=>?_,g3.k1,g3.r1⟩,fun x hx hxd=>?_,fun x hx hxd=>?_,?_⟩
     ·have hxd:x ≠ d:=by rintro rfl; omega
      rw [hgo x hxd]; exact g3.k2 x hx
     ·rw [hgo x hxd]; exact g4 x hx
     ·rw [hgd]
      rcases List.mem_append.1 hx with hx | hx
      ·obtain⟨q1,q2⟩:=hpre x hx hxd
       have hxd':x ≠ d:=by rintro rfl; omega
       rw [hgo x hxd',(g3.k2 x q1).2]
       exact⟨(g3.k2 x q1).1,by omega⟩
      ·rw [List.mem_singleton.1 hx,hgo b (fun h=>hbd h.symm)]
       exact⟨g2,by omega⟩
     ·rw [hgd]
      by_cases hle:gd R1 d≤gd R1 b + 1
      ·exact .inr ⟨b,hb,h,g2,by rw [hgo b (fun h=>hbd h.symm)]; omega⟩
      ·rcases hc with hc | ⟨x,hx,hxd,q1,q2⟩
       ·omega
       ·have hxd':x ≠ d:=by rintro rfl; omega
        exact .inr ⟨x,hx,hxd,(g3.k2 x q1).1,by rw [hgo x hxd',(g3.k2 x q1).2]; omega⟩
  ·cases o with
   | inr o=>exact Ok.ret ⟨ho.1,ho.2⟩
   | inl o=>
    obtain⟨s1,R1⟩:=o
    obtain⟨k1,k2,k3,k4,k5,k6⟩:=ho
    simp only
    rw [wi64 (x:=(pre.length:Int) + 1) (by omega) (by omega)]
    have e:(pre.length:Int) + 1=((pre++[b]).length:Int):=by simp
    rw [e]
    have hz1:cnt l (fun x=>gd s1 x == 0)<nr:=by
     refine Nat.lt_of_le_of_lt (Zpg fun x _ hx=>?_) hz
     simp only [beq_iff_eq] at hx ⊢
     rcases hg.st x with h | h | h
     ·exact h
     ·have:=k3.k1 x h; omega
     ·have:=(k3.k2 x h).1; omega
    refine(Zly hm hl hlen IH hd rest (pre++[b]) fu s1 R1 (by rw [hp]; simp) (by simp at hf; omega) k1 k2 hz1 k5 k6).mono fun o ho=>?_
    cases o with
    | inr o=>exact⟨ho.1,fun f hf hall=>ho.2 f hf fun x hx hxd=>hall x (k3.r1 x hx) hxd⟩
    | inl o=>
     obtain⟨s2,R2⟩:=o
     obtain⟨q1,q2,q3,q4,q5,q6⟩:=ho
     exact⟨q1,q2,k3.trans q3,fun x hx hxd=>(q4 x (k3.k1 x hx) hxd).trans (k4 x hx hxd),q5,q6⟩
theorem Zph {n:Int} {m:List (List Bool)} {l:List Int} (hm:Sq n m) (hl:∀ x∈l,0≤x∧x<n) (hlen:l.length≤65536) :
  ∀(nr:Nat) (s R:List (Int × Int)) (d:Int),Good m l s R→d∈l→cnt l (fun x=>gd s x == 0)<nr→Ok (Z2 nr m l s R d) (VisitOk m l d s R)
 | 0,_,_,_,_,_,h=>absurd h (Nat.not_lt_zero _)
 | nr + 1,s,R,d,hg,hd,hz=>by
  rw [Z2]
  show Ok (if (gd s d == 2)=true then _ else if (gd s d == 1)=true then _ else _) _
  refine Ok.ite (fun h=>?_) fun h=>Ok.ite (fun h1=>?_) fun h1=>?_
  ·have h:gd s d=2:=by simpa using h
   exact Ok.ret ⟨fun _=>⟨hg,h,.refl _ _,fun _ _=>rfl⟩,fun h=>by cases h⟩
  ·have h1:gd s d=1:=by simpa using h1
   exact Ok.ret ⟨fun h=>(by cases h),fun _ f _ hall=>Nat.lt_irrefl _ (hall d h1)⟩
  ·have h0:gd s d=0:=by
    have:=hg.st d
    simp at h h1
    omega
   have hg1:=hg.openNew h0
   have hz1:cnt l (fun x=>gd (mput Zn s d 1) x == 0)<nr:=by
    have:=cnt_lt (l:=l) (p:=fun x=>gd (mput Zn s d 1) x == 0) (q:=fun x=>gd s x == 0) (d:=d) (by simp [gd_put]) (by simp [h0]) hd (fun x _ hx=>by
     simp only [beq_iff_eq] at hx ⊢
     rw [gd_put] at hx
     split at hx
     ·omega
     ·exact hx)
    omega
   obtain⟨fu,hfu⟩:=Zcx 65536 (by omega)
   have:=Zly hm hl hlen (Zph hm hl hlen nr) hd l [] fuel (mput Zn s d 1) R rfl (by omega) hg1 (by rw [gd_put,if_pos rfl]) hz1 (fun b hb=>by cases hb) (.inl (hg.new d h0))
   refine Ok.bind this fun o ho=>?_
   have ho1:∀ x,x ≠ d→gd (mput Zn s d 1) x=gd s x:=fun x hx=>by rw [gd_put,if_neg (fun h=>hx h.symm)]
   cases o with
   | inr o=>
    obtain⟨r,s1,R1⟩:=o
    obtain⟨rfl,ho⟩:=ho
    refine Ok.ret ⟨fun h=>(by cases h),fun _ f hf hall=>ho f hf fun x hx hxd=>hall x (by rw [← ho1 x hxd]; exact hx)⟩
   | inl o=>
    obtain⟨s1,R1⟩:=o
    obtain⟨k1,k2,k3,k4,k5,k6⟩:=ho
    refine Ok.ret ⟨fun _=>⟨k1.close k2 hd k5 ?_,by rw [gd_put,if_pos rfl],⟨fun x hx=>?_,fun x hx=>?_,fun x hx=>?_⟩,fun x hx=>?_⟩,fun h=>by cases h⟩
    ·rcases k6 with k6 | ⟨b,hb,hbd,_,k6⟩
     ·exact .inl k6
     ·exact .inr ⟨b,hb,hbd,k6⟩
    ·have hxd:x ≠ d:=by rintro rfl; omega
     have:=k3.k2 x (by rw [ho1 x hxd]; exact hx)
     rw [gd_put,if_neg (fun h=>hxd h.symm)]
     exact this
    ·have hxd:x ≠ d:=by rintro rfl; omega
     rw [gd_put,if_neg (fun h=>hxd h.symm)]
     exact k3.k1 x (by rw [ho1 x hxd]; exact hx)
    ·rw [gd_put] at hx
     split at hx
     ·omega
     ·rename_i hxd
      have:=k3.r1 x hx
      rwa [ho1 x (fun h=>hxd h.symm)] at this
    ·have hxd:x ≠ d:=by rintro rfl; omega
     exact k4 x (by rw [ho1 x hxd]; exact hx) hxd
end Go.AM
set_option maxRecDepth 100000
namespace Go.AM
open Go
def Us (n:Int) (l:List Int):Prop:=l.Nodup∧∀ d∈l,0≤d∧d<n
theorem Zqa {n:Int} {m:List (List Bool)} (hm:Sq n m) (hn:n≤1000) {d:Int} (hd:d<n):∀(k fu:Nat) (i:Int),n - i≤k→k<fu→0≤i→i≤n→Zb9 m d fu i=some (.inl ())
 | 0,fu + 1,i,hk,hf,hi,hin=>by
  have:=hm.1
  rw [Zb9,if_neg (by simp; omega)]
 | k + 1,fu + 1,i,hk,hf,hi,hin=>by
  have h1:=hm.1
  rw [Zb9]
  by_cases h:i<n
  ·rw [if_pos (by simp; omega),(Zgw hm ⟨hi,h⟩).1]
   simp only [Option.bind_some]
   have:=(Zgw hm ⟨hi,h⟩).2
   rw [if_neg (by simp only [ge_iff_le,decide_eq_true_eq]; omega),wi64 (x:=i + 1) (by omega) (by omega)]
   exact Zqa hm hn hd k fu (i + 1) (by omega) (by omega) (by omega) (by omega)
  ·rw [if_neg (by simp; omega)]
def UsableOk (n:Int) (l:List Int):List (Int × Bool) ⊕ (List (List Int) × Bool)→Prop
 | .inl _=>Us n l
 | .inr r=>r=([],false)∧¬ Us n l
theorem Zoh {n:Int} {m:List (List Bool)} {l:List Int} (hm:Sq n m) (hn:n≤1000) (hlen:l.length≤65536):∀(rest pre:List Int) (fu:Nat) (g:List (Int × Bool)),l=pre++rest→rest.length<fu →
  (∀ x,(mget Zn g x).getD false=decide (x∈pre))→Us n pre→Ok (Zca m l fu g (pre.length:Int)) (UsableOk n l)
 | [],pre,fu + 1,g,hp,_,_,hu=>by
  rw [Zca,if_neg (by rw [hp]; simp)]
  exact Ok.ret (by rw [hp,List.append_nil]; exact hu)
 | d :: rest,pre,fu + 1,g,hp,hf,hg,hu=>by
  have hd:d∈l:=by rw [hp]; simp
  have hpl:pre.length<l.length:=by rw [hp]; simp
  have hidx:AM.idx l (pre.length:Int)=some d:=by rw [hp]; exact idx_at pre d rest
  have h1:=hm.1
  rw [Zca,if_pos (by simp; exact hpl),hidx]
  simp only [Option.bind_some]
  rw [hg d]
  refine Ok.ite (fun h=>Ok.ret ⟨rfl,fun hus=>?_⟩) fun h=>?_
  ·simp only [ge_iff_le,Bool.or_eq_true,decide_eq_true_eq] at h
   have:=hus.2 d hd
   rcases h with (h | h) | h
   ·omega
   ·omega
   ·have hnd:=hus.1
    rw [hp,List.nodup_append] at hnd
    exact hnd.2.2 d h d (by simp) rfl
  ·simp only [ge_iff_le,Bool.or_eq_true,decide_eq_true_eq,not_or] at h
   obtain⟨fu',hfu⟩:=Zcx 1000 (by omega)
   rw [Zqa hm hn (d:=d) (by omega) 1000 fuel 0 (by omega) (by omega) (Int.le_refl _) (by omega)]
   simp only [Option.bind_some]
   rw [wi64 (x:=(pre.length:Int) + 1) (by omega) (by omega),show (pre.length:Int) + 1=((pre++[d]).length:Int) by simp]
   refine Zoh hm hn hlen rest (pre++[d]) fu _ (by rw [hp]; simp) (by simp at hf; omega) (fun x=>?_) ⟨?_,fun x hx=>?_⟩
   ·rw [Zog]
    by_cases hx:d=x
    ·subst hx; rw [if_pos rfl]; simp
    ·rw [if_neg hx,hg x]
     have:x ≠ d:=fun h=>hx h.symm
     simp [this]
   ·rw [List.nodup_append]
    exact⟨hu.1,by simp,fun a ha b hb=>by rw [List.mem_singleton.1 hb]; rintro rfl; exact h.2 ha⟩
   ·rcases List.mem_append.1 hx with hx | hx
    ·exact hu.2 x hx
    ·rw [List.mem_singleton.1 hx]; exact⟨by omega,by omega⟩
structure Outs (out:List (List Int)) (R:Int→Int) (pre:List Int):Prop where
 row:∀(i:Nat) (h:i<out.length),out[i]=pre.filter (fun d=>R d == (i:Int))
 top:∀ d∈pre,0≤R d∧R d<out.length
theorem Outs.congr {out:List (List Int)} {R R':Int→Int} {pre:List Int} (h:Outs out R pre) (e:∀ d∈pre,R' d=R d):Outs out R' pre:=by
 refine⟨fun i hi=>?_,fun d hd=>by rw [e d hd]; exact h.top d hd⟩
 rw [h.row i hi]
 exact List.filter_congr fun d hd=>by rw [e d hd]
theorem Outs.grow {out:List (List Int)} {R:Int→Int} {pre:List Int} (h:Outs out R pre):Outs (out++[[]]) R pre:=by
 refine⟨fun i hi=>?_,fun d hd=>by have:=h.top d hd; simp; omega⟩
 by_cases hi2:i<out.length
 ·rw [List.getElem_append_left hi2]; exact h.row i hi2
 ·have:i=out.length:=by simp at hi; omega
  subst this
  rw [List.getElem_append_right (Nat.le_refl _)]
  simp only [Nat.sub_self,List.getElem_cons_zero]
  symm
  rw [List.filter_eq_nil_iff]
  intro d hd
  have:=h.top d hd
  simp; omega
theorem Outs.add {out:List (List Int)} {R:Int→Int} {pre:List Int} (h:Outs out R pre) {d:Int} (h0:0≤R d) (hl:(R d).toNat<out.length):Outs (out.set (R d).toNat (out[(R d).toNat]++[d])) R (pre++[d]):=by
 refine⟨fun i hi=>?_,fun x hx=>?_⟩
 ·have hi':i<out.length:=by simpa using hi
  by_cases he:(R d).toNat=i
  ·subst he
   rw [List.getElem_set_self,h.row _ hl,List.filter_append]
   congr 1
   have:((R d).toNat:Int)=R d:=Int.toNat_of_nonneg h0
   simp [this]
  ·rw [List.getElem_set_ne he,h.row _ hi',List.filter_append]
   have:¬ R d=(i:Int):=fun hh=>he (by omega)
   simp [this]
 ·rcases List.mem_append.1 hx with hx | hx
  ·have:=h.top x hx; simpa using this
  ·rw [List.mem_singleton.1 hx]; simp; omega
theorem Zqb (x:Int) (r:Bool × List (Int × Int) × List (Int × Int)) (R:Int→Int) (pre:List Int) (hb:gd r.2.2 x≤65536):∀(k fu:Nat) (out:List (List Int)),gd r.2.2 x + 1 - out.length≤k→k<fu→Outs out R pre→out.length≤65540 →
  Ok (Zcb x r fu out) fun o=>Outs o R pre∧gd r.2.2 x<o.length∧o.length≤65540
 | 0,fu + 1,out,hk,hf,ho,hl=>by
  rw [Zcb]
  show Ok (if (decide ((out.length:Int)≤gd r.2.2 x))=true then _ else _) _
  rw [if_neg (by simp; omega)]
  exact Ok.ret ⟨ho,by omega,hl⟩
 | k + 1,fu + 1,out,hk,hf,ho,hl=>by
  rw [Zcb]
  show Ok (if (decide ((out.length:Int)≤gd r.2.2 x))=true then _ else _) _
  refine Ok.ite (fun h=>?_) fun h=>?_
  ·simp only [decide_eq_true_eq] at h
   refine Ok.chk (by unfold lim; omega) ?_
   exact Zqb x r R pre hb k fu _ (by simp; omega) (by omega) ho.grow (by simp; omega)
  ·simp only [decide_eq_true_eq] at h
   exact Ok.ret ⟨ho,by omega,hl⟩
end Go.AM
set_option maxRecDepth 100000
namespace Go.AM
open Go
def L3Ok (m:List (List Bool)) (l:List Int):(List (Int × Int) × List (Int × Int) × List (List Int)) ⊕ (List (List Int) × Bool)→Prop
 | .inl (s,R,out)=>Good m l s R∧(∀ d∈l,gd s d=2)∧Outs out (gd R) (sortI l)∧out.length≤65540
 | .inr r=>r=([],false)∧¬ ∃ f,Rank m l f
theorem Zk4 {n:Int} {m:List (List Bool)} {l:List Int} (hm:Sq n m) (hus:Us n l) (hlen:l.length≤65536):∀(rest pre:List Int) (fu:Nat) (s R:List (Int × Int)) (out:List (List Int)),sortI l=pre++rest→rest.length<fu →
  Good m l s R→(∀ x,gd s x ≠ 1)→(∀ d∈pre,gd s d=2)→Outs out (gd R) pre→out.length≤65540→Ok (Zcc m l l fu s R out (pre.length:Int)) (L3Ok m l)
 | [],pre,fu + 1,s,R,out,hp,_,hg,_,hk,ho,hol=>by
  rw [Zcc,if_neg (by rw [hp]; simp)]
  refine Ok.ret ⟨hg,fun d hd=>hk d ?_,by rw [hp,List.append_nil]; exact ho,hol⟩
  have:=(Zd6 l).mem_iff.2 hd
  rwa [hp,List.append_nil] at this
 | d :: rest,pre,fu + 1,s,R,out,hp,hf,hg,h1,hk,ho,hol=>by
  have hsl:=Zjb l
  have hd:d∈l:=(Zd6 l).mem_iff.1 (by rw [hp]; simp)
  have hpl:pre.length<(sortI l).length:=by rw [hp]; simp
  have hidx:AM.idx (sortI l) (pre.length:Int)=some d:=by rw [hp]; exact idx_at pre d rest
  rw [Zcc,if_pos (by simp; exact hpl),hidx]
  simp only [Option.bind_some]
  have hcl:∀ p,cnt l p≤l.length:=fun p=>List.countP_le_length
  obtain⟨fu',hfu⟩:=Zcx 65540 (by omega)
  have hz:=hcl (fun x=>gd s x == 0)
  refine Ok.bind (Zph hm hus.2 hlen fuel s R d hg hd (by omega)) fun o hv=>?_
  obtain⟨r,s1,R1⟩:=o
  cases r with
  | false=>exact Ok.ret ⟨rfl,fun⟨f,hf⟩=>hv.2 rfl f hf fun x hx=>absurd hx (h1 x)⟩
  | true=>
   obtain⟨g1,g2,g3,_⟩:=hv.1 rfl
   simp only at g1 g2 g3
   have htop:=g1.top d
   have hc2:=hcl (fun x=>gd s1 x == 2)
   have hpos:=g1.pos d
   have ho1:Outs out (gd R1) pre:=ho.congr fun x hx=>(g3.k2 x (hk x hx)).2
   refine Ok.bind (Zqb d (true,s1,R1) (gd R1) pre (by show gd R1 d≤65536; omega) 65540 fuel out (by show gd R1 d + 1 - (out.length:Int)≤_; omega) (by omega) ho1 hol) fun v hv=>?_
   obtain⟨q1,q2,q3⟩:=hv
   have q2:gd R1 d<v.length:=q2
   have hlt:(gd R1 d).toNat<v.length:=by omega
   have hi:AM.idx v ((mget Zn R1 d).getD 0)=some v[(gd R1 d).toNat]:=by
    show AM.idx v (gd R1 d)=_
    simp [AM.idx,hpos,hlt]
   simp only
   rw [hi]
   simp only [Option.bind_some]
   have hxl:v[(gd R1 d).toNat].length≤pre.length:=by rw [q1.row _ hlt]; exact List.length_filter_le _ _
   refine Ok.chk (by simp; unfold lim; omega) ?_
   rw [wi64 (x:=(pre.length:Int) + 1) (by omega) (by omega),show (pre.length:Int) + 1=((pre++[d]).length:Int) by simp]
   refine Zk4 hm hus hlen rest (pre++[d]) fu s1 R1 _ (by rw [hp]; simp) (by simp at hf; omega) g1 (fun x hx=>h1 x (g3.r1 x hx)) (fun x hx=>?_) (q1.add hpos hlt) (by simpa using q3)
   rcases List.mem_append.1 hx with hx | hx
   ·exact(g3.k2 x (hk x hx)).1
   ·rw [List.mem_singleton.1 hx]; exact g2
def Least (m:List (List Bool)) (l:List Int) (ρ:Int→Int):Prop:=∀ d∈l,(∀ b∈l,bef m b d=true→ρ b + 1≤ρ d)∧(ρ d=0∨∃ b∈l,bef m b d=true∧ρ d=ρ b + 1)
theorem Zqp (m:List (List Bool)) (l:List Int):Good m l [] []:=
 ⟨fun _=>.inl rfl,fun d h=>by have:gd [] d=0:=rfl; omega,fun _ _=>rfl,fun _=>Int.le_refl _,fun d=>by show (0:Int)≤_; omega,fun d h=>by have:gd [] d=0:=rfl; omega⟩
theorem Zqq {n:Int} {m:List (List Bool)} {l:List Int} (hm:Sq n m) (hn:n≤1000) (hlen:l.length≤65536):Ok (Zeb m l) fun r=>
  (r.2=false∧r.1=[]∧¬ (Us n l∧∃ f,Rank m l f))∨(r.2=true∧Us n l∧r.1.length≤65540∧∃ ρ,Least m l ρ∧Outs r.1 ρ (sortI l)):=by
 unfold Zeb
 obtain⟨fu',hfu⟩:=Zcx 65540 (by omega)
 refine Ok.bind (Zoh hm hn hlen l [] fuel [] rfl (by omega) (fun x=>by simp [mget]) ⟨List.nodup_nil,fun d h=>by cases h⟩) fun o ho=>?_
 cases o with
 | inr r=>obtain⟨rfl,ho⟩:=ho; exact Ok.ret (.inl ⟨rfl,rfl,fun h=>ho h.1⟩)
 | inl v=>
  have hus:Us n l:=ho
  simp only
  have hv:Zdm l=some l:=rfl
  rw [hv]
  simp only [Option.bind_some]
  have hsl:=Zjb l
  refine Ok.chk hlen (Ok.bind (Zk4 hm hus hlen (sortI l) [] fuel [] [] [] rfl (by omega) (Zqp m l) (fun x h=>by have:gd [] x=0:=rfl; omega) (fun d h=>by cases h) ⟨fun i h=>by simp at h,fun d h=>by cases h⟩ (by simp)) fun o ho=>?_)
  cases o with
  | inr r=>obtain⟨rfl,ho⟩:=ho; exact Ok.ret (.inl ⟨rfl,rfl,fun h=>ho h.2⟩)
  | inl o=>
   obtain⟨s,R,out⟩:=o
   obtain⟨g,k,ho,hol⟩:=ho
   refine Ok.ret (.inr ⟨rfl,hus,hol,gd R,fun d hd=>?_,ho⟩)
   obtain⟨h1,h2⟩:=g.known d (k d hd)
   exact⟨fun b hb hbd=>(h1 b hb hbd).2,h2⟩
theorem Least.rank {m:List (List Bool)} {l:List Int} {ρ:Int→Int} (h:Least m l ρ) (h0:∀ d∈l,0≤ρ d):∃ f,Rank m l f:=
 ⟨fun d=>(ρ d).toNat,fun b hb d hd hbd=>by
  have h1:=(h d hd).1 b hb hbd
  have h2:=h0 b hb
  show (ρ b).toNat<(ρ d).toNat
  omega⟩
end Go.AM
set_option maxRecDepth 100000
namespace Go.AM
open Go
theorem has_L1 {l:List Int} (hlen:l.length≤1000000) (v:Int):∀(rest pre:List Int) (fu:Nat),l=pre++rest→rest.length<fu→Zcv l v fu (pre.length:Int)=some (if v∈rest then .inr true else .inl ())
 | [],pre,fu + 1,hp,_=>by
  rw [Zcv,if_neg (by rw [hp]; simp),if_neg (by simp)]
 | b :: rest,pre,fu + 1,hp,hf=>by
  have hpl:pre.length<l.length:=by rw [hp]; simp
  have hidx:AM.idx l (pre.length:Int)=some b:=by rw [hp]; exact idx_at pre b rest
  rw [Zcv,if_pos (by simp; exact hpl),hidx]
  simp only [Option.bind_some]
  by_cases h:b=v
  ·rw [if_pos (by simp [h]),if_pos (by simp [h])]
  ·rw [if_neg (by simp [h]),wi64 (x:=(pre.length:Int) + 1) (by omega) (by omega),show (pre.length:Int) + 1=((pre++[b]).length:Int) by simp,
    has_L1 hlen v rest (pre++[b]) fu (by rw [hp]; simp) (by simp at hf; omega)]
   have:v ≠ b:=fun h2=>h h2.symm
   simp [this]
theorem has_eq {l:List Int} (hlen:l.length≤1000000) (v:Int):Zc8 l v=some (decide (v∈l)):=by
 unfold Zc8
 obtain⟨fu',hfu⟩:=Zcx 1000000 (by omega)
 have:=has_L1 hlen v l [] fuel rfl (by omega)
 simp only [List.length_nil,Int.natCast_zero] at this
 rw [this]
 by_cases h:v∈l <;> simp [h]
theorem Zpi {n:Int} {m:List (List Bool)} (hm:Sq n m) (hn:n≤1000) {d:Int} (hd:d<n):∀(k fu:Nat) (i:Int),n - i≤k→k<fu→0≤i→i≤n→Zb0 m d fu i=some (.inl ())
 | 0,fu + 1,i,hk,hf,hi,hin=>by
  have:=hm.1
  rw [Zb0,if_neg (by simp; omega)]
 | k + 1,fu + 1,i,hk,hf,hi,hin=>by
  have h1:=hm.1
  rw [Zb0]
  by_cases h:i<n
  ·rw [if_pos (by simp; omega),(Zgw hm ⟨hi,h⟩).1]
   simp only [Option.bind_some]
   have:=(Zgw hm ⟨hi,h⟩).2
   rw [if_neg (by simp only [ge_iff_le,decide_eq_true_eq]; omega),wi64 (x:=i + 1) (by omega) (by omega)]
   exact Zpi hm hn hd k fu (i + 1) (by omega) (by omega) (by omega) (by omega)
  ·rw [if_neg (by simp; omega)]
def RUsableOk (n:Int) (l:List Int):Unit ⊕ Bool→Prop
 | .inl _=>Us n l
 | .inr r=>r=false∧¬ Us n l
theorem Znc {n:Int} {m:List (List Bool)} {l:List Int} (hm:Sq n m) (hn:n≤1000) (hlen:l.length≤65536):∀(rest pre:List Int) (fu:Nat),l=pre++rest→rest.length<fu→Us n pre →
  Ok (Zb1 m l fu (pre.length:Int)) (RUsableOk n l)
 | [],pre,fu + 1,hp,_,hu=>by
  rw [Zb1,if_neg (by rw [hp]; simp)]
  exact Ok.ret (by rw [hp,List.append_nil]; exact hu)
 | d :: rest,pre,fu + 1,hp,hf,hu=>by
  have hd:d∈l:=by rw [hp]; simp
  have hpl:pre.length<l.length:=by rw [hp]; simp
  have hidx:AM.idx l (pre.length:Int)=some d:=by rw [hp]; exact idx_at pre d rest
  have h1:=hm.1
  rw [Zb1,if_pos (by simp; exact hpl),hidx]
  simp only [Option.bind_some]
  have htk:List.drop (Int.toNat 0) (List.take (Int.toNat (pre.length:Int)) l)=pre:=by rw [hp]; simp
  rw [htk,has_eq (by omega) d]
  have hinner:(if (decide (d<0) || decide (d ≥ (m.length:Int)))=true then some true else if 0≤(0:Int)∧(0:Int)≤(pre.length:Int)∧(pre.length:Int)≤(l.length:Int) then (some (decide (d∈pre))).bind fun r41=>some r41 else none) =
    some (decide (d<0) || decide (d ≥ (m.length:Int)) || decide (d∈pre)):=by
   by_cases h2:(decide (d<0) || decide (d ≥ (m.length:Int)))=true
   ·rw [if_pos h2,h2]; rfl
   ·rw [if_neg h2,if_pos ⟨Int.le_refl _,by omega,by omega⟩]
    simp only [Bool.not_eq_true] at h2
    rw [h2]; rfl
  rw [hinner]
  simp only [Option.bind_some]
  refine Ok.ite (fun h=>Ok.ret ⟨rfl,fun hus=>?_⟩) fun h=>?_
  ·simp only [ge_iff_le,Bool.or_eq_true,decide_eq_true_eq] at h
   have:=hus.2 d hd
   rcases h with (h | h) | h
   ·omega
   ·omega
   ·have hnd:=hus.1
    rw [hp,List.nodup_append] at hnd
    exact hnd.2.2 d h d (by simp) rfl
  ·simp only [ge_iff_le,Bool.or_eq_true,decide_eq_true_eq,not_or] at h
   obtain⟨fu',hfu⟩:=Zcx 1000 (by omega)
   rw [Zpi hm hn (d:=d) (by omega) 1000 fuel 0 (by omega) (by omega) (Int.le_refl _) (by omega)]
   simp only [Option.bind_some]
   rw [wi64 (x:=(pre.length:Int) + 1) (by omega) (by omega),show (pre.length:Int) + 1=((pre++[d]).length:Int) by simp]
   refine Znc hm hn hlen rest (pre++[d]) fu (by rw [hp]; simp) (by simp at hf; omega) ⟨?_,fun x hx=>?_⟩
   ·rw [List.nodup_append]
    exact⟨hu.1,by simp,fun a ha b hb=>by rw [List.mem_singleton.1 hb]; rintro rfl; exact h.2 ha⟩
   ·rcases List.mem_append.1 hx with hx | hx
    ·exact hu.2 x hx
    ·rw [List.mem_singleton.1 hx]; exact⟨by omega,by omega⟩
theorem Zqr {n:Int} {m:List (List Bool)} {l:List Int} (hm:Sq n m) (hn:n≤1000) (hlen:l.length≤65536):Ok (Zd3 m l) fun r=>r=true ↔ Us n l:=by
 unfold Zd3
 obtain⟨fu',hfu⟩:=Zcx 65540 (by omega)
 refine Ok.bind (Znc hm hn hlen l [] fuel rfl (by omega) ⟨List.nodup_nil,fun d h=>by cases h⟩) fun o ho=>?_
 cases o with
 | inl v=>exact Ok.ret ⟨fun _=>ho,fun _=>rfl⟩
 | inr r=>obtain⟨rfl,ho⟩:=ho; exact Ok.ret ⟨fun h=>(by cases h),fun h=>absurd h ho⟩
def free (m:List (List Bool)) (l done:List Int) (d:Int):Bool:=l.all fun b=>!bef m b d || decide (b∈done)
theorem Zqc {n:Int} {m:List (List Bool)} {l done:List Int} (hm:Sq n m) (hl:∀ x∈l,0≤x∧x<n) (hlen:l.length≤65536) (hdn:done.length≤1000000) {d:Int} (hd:0≤d∧d<n):∀(rest pre:List Int) (fu:Nat) (v:Bool),l=pre++rest→rest.length<fu →
  Zb2 m l done d fu v (pre.length:Int)=some (v && free m rest done d)
 | [],pre,fu + 1,v,hp,_=>by
  rw [Zb2,if_neg (by rw [hp]; simp)]
  simp [free]
 | b :: rest,pre,fu + 1,v,hp,hf=>by
  have hb:b∈l:=by rw [hp]; simp
  have hpl:pre.length<l.length:=by rw [hp]; simp
  have hidx:AM.idx l (pre.length:Int)=some b:=by rw [hp]; exact idx_at pre b rest
  rw [Zb2,if_pos (by simp; exact hpl),hidx]
  simp only [Option.bind_some]
  rw [(Zgw hm (hl b hb)).1]
  simp only [Option.bind_some]
  rw [Zno hm (hl b hb) hd]
  simp only [Option.bind_some]
  rw [has_eq hdn b]
  simp only [Option.bind_some]
  have e:(if v=true then (if (!bef m b d)=true then some true else some (decide (b∈done))).bind fun v1205=>some v1205 else some false)=some (v && (!bef m b d || decide (b∈done))):=by
   cases v <;> cases h:bef m b d <;> simp
  rw [e]
  simp only [Option.bind_some]
  rw [wi64 (x:=(pre.length:Int) + 1) (by omega) (by omega),show (pre.length:Int) + 1=((pre++[b]).length:Int) by simp,
   Zqc hm hl hlen hdn hd rest (pre++[b]) fu _ (by rw [hp]; simp) (by simp at hf; omega)]
  simp [free,Bool.and_assoc]
end Go.AM
set_option maxRecDepth 100000
namespace Go.AM
open Go
theorem Zht:∀(a b:List Int),a.Nodup→(∀ x∈a,x∈b)→a.length≤b.length
 | [],_,_,_=>Nat.zero_le _
 | x :: a,b,hn,hs=>by
  have hx:x∈b:=hs x List.mem_cons_self
  have hna:=List.nodup_cons.1 hn
  have:=Zht a (b.erase x) hna.2 fun y hy=>(List.mem_erase_of_ne (by rintro rfl; exact hna.1 hy)).2 (hs y (List.mem_cons_of_mem _ hy))
  have h1:=List.length_erase_of_mem hx
  have h2:0<b.length:=List.length_pos_of_mem hx
  simp only [List.length_cons]
  omega
def RoundOk (n:Int) (m:List (List Bool)) (l done:List Int) (r:List Int):Prop:=
 r.Nodup∧∀ x,x∈r ↔ (0≤x∧x<n)∧x∈l∧x ∉ done∧free m l done x=true
theorem Zpj {n:Int} {m:List (List Bool)} {l done:List Int} (hm:Sq n m) (hn:n≤1000) (hl:∀ x∈l,0≤x∧x<n) (hlen:l.length≤65536) (hdn:done.length≤1000000):∀(k fu:Nat) (acc:List Int) (i:Int),n - i≤k→k<fu→0≤i→i≤n →
  acc.Nodup→(∀ x,x∈acc ↔ (0≤x∧x<i)∧x∈l∧x ∉ done∧free m l done x=true)→(acc.length:Int)≤i→Ok (Zb3 m l done fu acc i) (RoundOk n m l done)
 | 0,fu + 1,acc,i,hk,hf,hi,hin,hnd,hacc,_=>by
  have h1:=hm.1
  have:i=n:=by omega
  subst this
  rw [Zb3,if_neg (by simp; omega)]
  exact Ok.ret ⟨hnd,hacc⟩
 | k + 1,fu + 1,acc,i,hk,hf,hi,hin,hnd,hacc,hal=>by
  have h1:=hm.1
  rw [Zb3]
  refine Ok.ite (fun h=>?_) fun h=>?_
  ·simp only [decide_eq_true_eq] at h
   rw [has_eq (by omega) i]
   simp only [Option.bind_some]
   rw [has_eq hdn i]
   have e:(if (!decide (i∈l))=true then some true else (some (decide (i∈done))).bind fun r1157=>some r1157)=some (!decide (i∈l) || decide (i∈done)):=by
    by_cases h2:i∈l <;> simp [h2]
   rw [e]
   simp only [Option.bind_some]
   refine Ok.bind (p:=fun r=>r.Nodup∧(∀ x,x∈r ↔ (0≤x∧x<i + 1)∧x∈l∧x ∉ done∧free m l done x=true)∧(r.length:Int)≤i + 1) ?_ fun r hr=>?_
   ·have hskip:¬ (i∈l∧i ∉ done∧free m l done i=true)→Ok (some acc) fun r=>r.Nodup∧(∀ x,x∈r ↔ (0≤x∧x<i + 1)∧x∈l∧x ∉ done∧free m l done x=true)∧(r.length:Int)≤i + 1:=fun hno=>by
     refine Ok.ret ⟨hnd,fun x=>?_,by omega⟩
     rw [hacc x]
     constructor
     ·rintro⟨⟨a,b⟩,c⟩; exact⟨⟨a,by omega⟩,c⟩
     ·rintro⟨⟨a,b⟩,c⟩
      refine⟨⟨a,?_⟩,c⟩
      by_cases hx:x=i
      ·subst hx; exact absurd c hno
      ·omega
    refine Ok.ite (fun h2=>hskip fun h3=>?_) fun h2=>?_
    ·simp only [Bool.or_eq_true,Bool.not_eq_true',decide_eq_false_iff_not,decide_eq_true_eq] at h2
     rcases h2 with h2 | h2
     ·exact h2 h3.1
     ·exact h3.2.1 h2
    ·simp only [Bool.or_eq_true,Bool.not_eq_true',decide_eq_false_iff_not,decide_eq_true_eq,not_or,Decidable.not_not] at h2
     obtain⟨fu',hfu⟩:=Zcx 65540 (by omega)
     have hf3:=Zqc hm hl hlen hdn (d:=i) ⟨hi,by omega⟩ l [] fuel true rfl (by omega)
     simp only [List.length_nil,Int.natCast_zero,Bool.true_and] at hf3
     rw [hf3]
     simp only [Option.bind_some]
     refine Ok.ite (fun h3=>?_) fun h3=>hskip fun h4=>h3 h4.2.2
     refine Ok.chk (by simp; unfold lim; omega) (Ok.ret ⟨?_,fun x=>?_,by simp; omega⟩)
     ·rw [List.nodup_append]
      refine⟨hnd,by simp,fun a ha b hb=>?_⟩
      rw [List.mem_singleton.1 hb]
      have:=((hacc a).1 ha).1
      omega
     ·rw [List.mem_append,hacc x,List.mem_singleton]
      constructor
      ·rintro(⟨⟨a,b⟩,c⟩ | rfl)
       ·exact⟨⟨a,by omega⟩,c⟩
       ·exact⟨⟨hi,by omega⟩,h2.1,h2.2,h3⟩
      ·rintro⟨⟨a,b⟩,c⟩
       by_cases hx:x=i
       ·exact .inr hx
       ·exact .inl ⟨⟨a,by omega⟩,c⟩
   ·rw [wi64 (x:=i + 1) (by omega) (by omega)]
    exact Zpj hm hn hl hlen hdn k fu r (i + 1) (by omega) (by omega) (by omega) (by omega) hr.1 hr.2.1 hr.2.2
  ·simp only [decide_eq_true_eq] at h
   have:i=n:=by omega
   subst this
   exact Ok.ret ⟨hnd,hacc⟩
def RRoundsOk (m:List (List Bool)) (l:List Int):(List (List Int) × List Int) ⊕ (List (List Int) × Bool)→Prop
 | .inl _=>∃ f,Rank m l f
 | .inr r=>r.2=false∧¬ ∃ f,Rank m l f
theorem Znd {n:Int} {m:List (List Bool)} {l:List Int} (hm:Sq n m) (hn0:0≤n) (hn:n≤1000) (hus:Us n l) (hlen:l.length≤65536):∀(k fu:Nat) (out:List (List Int)) (done:List Int),l.length - done.length≤k→k<fu→done.Nodup→(∀ x∈done,x∈l)→out.length≤done.length →
  (∃ f:Int→Nat,∀ d∈done,f d<out.length∧∀ b∈l,bef m b d=true→b∈done∧f b<f d)→Ok (Zcq m l fu out done) (RRoundsOk m l)
 | k,fu + 1,out,done,hk,hf,hnd,hsub,hol,⟨f,hr⟩=>by
  have hdl:=Zht done l hnd hsub
  rw [Zcq]
  refine Ok.ite (fun h=>?_) fun h=>?_
  ·simp only [decide_eq_true_eq] at h
   obtain⟨fu',hfu⟩:=Zcx 1000 (by omega)
   refine Ok.bind (Zpj hm hn hus.2 hlen (by omega) 1000 fuel [] 0 (by omega) (by omega) (Int.le_refl _) hn0 List.nodup_nil (fun x=>⟨fun h=>(by cases h),fun h=>by omega⟩) (by simp)) fun r hro=>?_
   refine Ok.ite (fun h2=>Ok.ret ⟨rfl,?_⟩) fun h2=>?_
   ·
    have hre:r=[]:=by simpa using h2
    subst hre
    rintro⟨g,hg⟩
    have key:∀(q:Nat) (x:Int),g x≤q→x∈l→x∈done:=by
     intro q
     induction q with
     | zero=>
      intro x hx hxl
      refine Decidable.byContradiction fun hxd=>?_
      have:free m l done x=false:=by
       rw [Bool.eq_false_iff]; intro hfr
       have:=(hro.2 x).2 ⟨hus.2 x hxl,hxl,hxd,hfr⟩
       cases this
      obtain⟨b,hb,hbx⟩:=List.all_eq_false.1 this
      simp only [Bool.not_eq_true,Bool.or_eq_false_iff,Bool.not_eq_false',decide_eq_false_iff_not] at hbx
      have:=hg b hb x hxl hbx.1
      omega
     | succ q ih=>
      intro x hx hxl
      refine Decidable.byContradiction fun hxd=>?_
      have:free m l done x=false:=by
       rw [Bool.eq_false_iff]; intro hfr
       have:=(hro.2 x).2 ⟨hus.2 x hxl,hxl,hxd,hfr⟩
       cases this
      obtain⟨b,hb,hbx⟩:=List.all_eq_false.1 this
      simp only [Bool.not_eq_true,Bool.or_eq_false_iff,Bool.not_eq_false',decide_eq_false_iff_not] at hbx
      have:=hg b hb x hxl hbx.1
      exact hbx.2 (ih b (by omega) hb)
    have:=Zht l done hus.1 fun x hx=>key (g x) x (Nat.le_refl _) hx
    omega
   ·have hrl:0<r.length:=by
     cases r with
     | nil=>exact absurd rfl h2
     | cons _ _=>simp
    have hnd2:(done++r).Nodup:=by
     rw [List.nodup_append]
     exact⟨hnd,hro.1,fun a ha b hb hab=>((hro.2 b).1 hb).2.2.1 (hab ▸ ha)⟩
    have hsub2:∀ x∈done++r,x∈l:=fun x hx=>by
     rcases List.mem_append.1 hx with hx | hx
     ·exact hsub x hx
     ·exact((hro.2 x).1 hx).2.1
    have hdl2:=Zht _ l hnd2 hsub2
    simp only [List.length_append] at hdl2
    refine Ok.chk (by simp; unfold lim; omega) (Ok.chk (by unfold lim; omega) ?_)
    cases k with
    | zero=>omega
    | succ k=>
    refine Znd hm hn0 hn hus hlen k fu _ _ (by simp; omega) (by omega) hnd2 hsub2 (by simp; omega) ⟨fun d=>if d∈done then f d else out.length,fun d hd=>?_⟩
    show (if d∈done then f d else out.length)<_∧∀ b∈l,bef m b d=true→b∈done++r∧(if b∈done then f b else out.length)<(if d∈done then f d else out.length)
    rcases List.mem_append.1 hd with hd | hd
    ·rw [if_pos hd]
     refine⟨by have:=(hr d hd).1; simp; omega,fun b hb hbd=>?_⟩
     obtain⟨q1,q2⟩:=(hr d hd).2 b hb hbd
     exact⟨List.mem_append_left _ q1,by rw [if_pos q1]; exact q2⟩
    ·have hdd:=((hro.2 d).1 hd).2.2
     rw [if_neg hdd.1]
     refine⟨by simp,fun b hb hbd=>?_⟩
     have:=List.all_eq_true.1 hdd.2 b hb
     simp only [hbd,Bool.not_true,Bool.false_or,decide_eq_true_eq] at this
     exact⟨List.mem_append_left _ this,by rw [if_pos this]; exact(hr b this).1⟩
  ·simp only [decide_eq_true_eq] at h
   refine Ok.ret ⟨f,fun b hb d hd hbd=>?_⟩
   have hdd:d∈done:=Decidable.byContradiction fun hdd=>by
    have:=Zht (d :: done) l (List.nodup_cons.2 ⟨hdd,hnd⟩) fun x hx=>by
     rcases List.mem_cons.1 hx with rfl | hx
     ·exact hd
     ·exact hsub x hx
    simp only [List.length_cons] at this
    omega
   exact((hr d hdd).2 b hb hbd).2
theorem Zqs {n:Int} {m:List (List Bool)} {l:List Int} (hm:Sq n m) (hn0:0≤n) (hn:n≤1000) (hlen:l.length≤65536):Ok (Zd4 m l) fun r=>r.2=true ↔ (Us n l∧∃ f,Rank m l f):=by
 unfold Zd4
 obtain⟨fu',hfu⟩:=Zcx 65540 (by omega)
 refine Ok.bind (Zqr hm hn hlen) fun u hu=>?_
 cases u with
 | false=>exact Ok.ret ⟨fun h=>(by cases h),fun h=>absurd (hu.2 h.1) (by simp)⟩
 | true=>
  have hus:=hu.1 rfl
  refine Ok.bind (Znd hm hn0 hn hus hlen 65536 fuel [] [] (by simp; omega) (by omega) List.nodup_nil (fun x h=>by cases h) (Nat.le_refl _) ⟨fun _=>0,fun d h=>by cases h⟩) fun o ho=>?_
  cases o with
  | inl v=>exact Ok.ret ⟨fun _=>⟨hus,ho⟩,fun _=>rfl⟩
  | inr r=>exact Ok.ret ⟨fun h=>absurd h (by rw [ho.1]; simp),fun h=>absurd h.2 ho.2⟩
end Go.AM
set_option maxRecDepth 100000
namespace Go.AM
open Go
theorem Zpk:∀(k fu:Nat) (v:List Int) (i:Int),(v.length:Int) - i≤k→k<fu→0≤i→i≤v.length→v.length≤1000→(∀ j:Nat,(j:Int)<i→v.getD j 0=-1) →
  Ok (Zap fu v i) fun w=>w.length=v.length∧∀ j:Nat,j<v.length→w.getD j 0=-1
 | 0,fu + 1,v,i,hk,hf,hi,hin,hv,hr=>by
  rw [Zap,if_neg (by simp; omega)]
  exact Ok.ret ⟨rfl,fun j hj=>hr j (by omega)⟩
 | k + 1,fu + 1,v,i,hk,hf,hi,hin,hv,hr=>by
  rw [Zap]
  refine Ok.ite (fun h=>?_) fun h=>Ok.ret ⟨rfl,fun j hj=>hr j (by simp at h; omega)⟩
  simp only [decide_eq_true_eq] at h
  refine Ok.bind (Ok.idx (p:=fun _=>True) hi h fun _ _=>trivial) fun x _=>?_
  rw [wi64 (x:=i + 1) (by omega) (by omega)]
  refine(Zpk k fu _ (i + 1) (by simp; omega) (by omega) (by omega) (by simp; omega) (by simpa using hv) fun j hj=>?_).mono fun w hw=>by simpa using hw
  by_cases hje:i.toNat=j
  ·subst hje
   have:i.toNat<v.length:=by omega
   simp [this]
  ·have:=hr j (by omega)
   simp only [List.getD_eq_getElem?_getD] at this ⊢
   rw [List.getElem?_set_ne hje]; exact this
def At (n:Int) (at_:List Int) (S:List Int) (ρ:Int→Int):Prop:=(at_.length:Int)=n∧∀ x,0≤x→x<n→at_.getD x.toNat 0=if x∈S then ρ x else -1
theorem At.idx {n:Int} {a S:List Int} {ρ:Int→Int} (h:At n a S ρ) {x:Int} (h0:0≤x) (h1:x<n):AM.idx a x=some (if x∈S then ρ x else -1):=by
 have hl:=h.1
 have hx:x.toNat<a.length:=by omega
 rw [← h.2 x h0 h1]
 simp [AM.idx,h0,hx]
theorem At.set {n:Int} {a S:List Int} {ρ:Int→Int} (h:At n a S ρ) {d:Int} (h0:0≤d) (h1:d<n):At n (a.set d.toNat (ρ d)) (S++[d]) ρ:=by
 have hl:=h.1
 refine⟨by simpa using h.1,fun x hx0 hx1=>?_⟩
 by_cases hxd:x=d
 ·subst hxd
  have hx:x.toNat<a.length:=by omega
  simp [hx]
 ·have hne:d.toNat ≠ x.toNat:=by omega
  have:=h.2 x hx0 hx1
  simp only [List.getD_eq_getElem?_getD] at this ⊢
  rw [List.getElem?_set_ne hne,this]
  simp [hxd]
theorem Zrj {n:Int} {ρ:Int→Int} {r:List (List Int) × Bool} {i:Int} {row:List Int} (hi:AM.idx r.1 i=some row) (hn:∀ d∈row,(0≤d∧d<n)∧ρ d=i) {S0:List Int} (hnd:(S0++row).Nodup) (hlen:(S0++row).length≤65536) :
  ∀(rest pre:List Int) (fu:Nat) (a:List Int),row=pre++rest→rest.length<fu→At n a (S0++pre) ρ →
   Ok (Zaq r i fu a ((S0++pre).length:Int) (pre.length:Int)) fun o=>∃ a',o=.inl (a',((S0++row).length:Int))∧At n a' (S0++row) ρ
 | [],pre,fu + 1,a,hp,_,ha=>by
  rw [Zaq,hi]
  simp only [Option.bind_some]
  rw [if_neg (by rw [hp]; simp)]
  rw [hp,List.append_nil]
  exact Ok.ret ⟨a,rfl,ha⟩
 | d :: rest,pre,fu + 1,a,hp,hf,ha=>by
  have hd:d∈row:=by rw [hp]; simp
  have hpl:pre.length<row.length:=by rw [hp]; simp
  have hidx:AM.idx row (pre.length:Int)=some d:=by rw [hp]; exact idx_at pre d rest
  obtain⟨⟨h0,h1⟩,hρ⟩:=hn d hd
  have hnS:d ∉ S0++pre:=fun hmem=>by
   rw [hp,← List.append_assoc,List.nodup_append] at hnd
   exact hnd.2.2 d hmem d (by simp) rfl
  have hl:=ha.1
  have hid:=ha.idx h0 h1
  rw [if_neg hnS] at hid
  rw [Zaq,hi]
  simp only [Option.bind_some]
  rw [if_pos (by simp; exact hpl)]
  simp only [hidx,Option.bind_some]
  have hb:(decide (d<0) || decide (d ≥ (a.length:Int)))=false:=by simp; omega
  rw [hb]
  simp only [Bool.false_eq_true,if_false,hid,Option.bind_some]
  rw [if_neg (by simp)]
  have hcl:(S0++pre).length + 1≤65536:=by rw [hp] at hlen; simp at hlen ⊢; omega
  rw [wi64 (x:=(pre.length:Int) + 1) (by simp at hcl; omega) (by simp at hcl; omega),wi64 (x:=((S0++pre).length:Int) + 1) (by omega) (by omega),
   show (pre.length:Int) + 1=((pre++[d]).length:Int) by simp,show ((S0++pre).length:Int) + 1=((S0++(pre++[d])).length:Int) by simp; omega]
  have:=ha.set h0 h1
  rw [hρ,List.append_assoc] at this
  exact Zrj hi hn hnd hlen rest (pre++[d]) fu _ (by rw [hp]; simp) (by simp at hf; omega) this
theorem Zqd {n:Int} {ρ:Int→Int} {r:List (List Int) × Bool} (hn:∀(i:Nat) (h:i<r.1.length),∀ d∈r.1[i],(0≤d∧d<n)∧ρ d=(i:Int)) (hnd:r.1.flatten.Nodup) (hlen:r.1.flatten.length≤65536) (hol:r.1.length≤65540) :
  ∀(rest pre:List (List Int)) (fu:Nat) (a:List Int),r.1=pre++rest→rest.length<fu→At n a pre.flatten ρ →
   Ok (Zz r fu a (pre.flatten.length:Int) (pre.length:Int)) fun o=>∃ a',o=.inl (a',(r.1.flatten.length:Int))∧At n a' r.1.flatten ρ
 | [],pre,fu + 1,a,hp,_,ha=>by
  rw [Zz,if_neg (by rw [hp]; simp)]
  rw [hp,List.append_nil]
  exact Ok.ret ⟨a,rfl,ha⟩
 | row :: rest,pre,fu + 1,a,hp,hf,ha=>by
  have hpl:pre.length<r.1.length:=by rw [hp]; simp
  have hidx:AM.idx r.1 (pre.length:Int)=some row:=by rw [hp]; exact idx_at pre row rest
  have hget:r.1[pre.length]=row:=by simp [hp]
  have hfl:r.1.flatten=(pre.flatten++row)++rest.flatten:=by rw [hp]; simp
  rw [Zz,if_pos (by simp; exact hpl)]
  have hrl:row.length≤65536:=by rw [hfl] at hlen; simp at hlen; omega
  obtain⟨fu',hfu⟩:=Zcx 65540 (by omega)
  have h3:=Zrj (n:=n) (ρ:=ρ) (S0:=pre.flatten) hidx (fun d hd=>hn pre.length hpl d (by rw [hget]; exact hd)) (by rw [hfl,List.nodup_append] at hnd; exact hnd.1) (by rw [hfl] at hlen; simp at hlen ⊢; omega) row [] fuel a rfl (by omega) (by simpa using ha)
  simp only [List.append_nil,List.length_nil,Int.natCast_zero] at h3
  refine Ok.bind h3 fun o ho=>?_
  obtain⟨a',rfl,ha'⟩:=ho
  simp only
  rw [wi64 (x:=(pre.length:Int) + 1) (by omega) (by omega),show (pre.length:Int) + 1=((pre++[row]).length:Int) by simp]
  have e:(pre++[row]).flatten=pre.flatten++row:=by simp
  have:=Zqd hn hnd hlen hol rest (pre++[row]) fu a' (by rw [hp]; simp) (by simp at hf; omega) (by rw [e]; exact ha')
  rw [e] at this
  exact this
theorem Zne {ρ:Int→Int} {sl:List Int} (hs:sl.Nodup):∀(out pre:List (List Int)),(∀(i:Nat) (h:i<(pre++out).length),(pre++out)[i]=sl.filter (fun d=>ρ d == (i:Int)))→pre.flatten.Nodup→(∀ x∈pre.flatten,ρ x<pre.length)→(pre++out).flatten.Nodup
 | [],pre,_,hn,_=>by rw [List.append_nil]; exact hn
 | row :: out,pre,hr,hn,hlt=>by
  have hrow:row=sl.filter (fun d=>ρ d == (pre.length:Int)):=by
   have:=hr pre.length (by simp)
   simpa using this
  have e:pre++row :: out=(pre++[row])++out:=by simp
  rw [e]
  refine Zne hs out (pre++[row]) (by rw [← e]; exact hr) ?_ fun x hx=>?_
  ·rw [List.flatten_append,List.nodup_append]
   refine⟨hn,by simp only [List.flatten_cons,List.flatten_nil,List.append_nil]; rw [hrow]; exact hs.filter _,fun x hx y hy hxy=>?_⟩
   have h1:=hlt x hx
   simp only [List.flatten_cons,List.flatten_nil,List.append_nil] at hy
   rw [hrow,List.mem_filter] at hy
   have:=hy.2
   simp only [beq_iff_eq] at this
   rw [hxy] at h1
   omega
  ·rw [List.flatten_append,List.mem_append] at hx
   rcases hx with hx | hx
   ·have:=hlt x hx; simp; omega
   ·simp only [List.flatten_cons,List.flatten_nil,List.append_nil] at hx
    rw [hrow,List.mem_filter] at hx
    have:=hx.2
    simp only [beq_iff_eq] at this
    simp; omega
end Go.AM
set_option maxRecDepth 100000
namespace Go.AM
open Go
theorem Zpl {n:Int} {r3:List (List Bool) × List Int × Zj} {a:List Int} {ρ:Int→Int} (hm:Sq n r3.1) (hl:∀ x∈r3.2.1,0≤x∧x<n) (hlen:r3.2.1.length≤65536) (ha:∀ x∈r3.2.1,AM.idx a x=some (ρ x)) {i d:Int} (hi:AM.idx r3.2.1 i=some d) (hd:d∈r3.2.1)
  (hb:∀ b∈r3.2.1,bef r3.1 b d=true→ρ b + 1≤ρ d) (h0:0≤ρ d) (h1:ρ d≤65540):∀(rest pre:List Int) (fu:Nat) (c:Bool),r3.2.1=pre++rest→rest.length<fu →
   Zar r3 a i fu c (pre.length:Int)=some (.inl (c || rest.any fun b=>bef r3.1 b d && (ρ b == ρ d - 1)))
 | [],pre,fu + 1,c,hp,_=>by
  rw [Zar,if_neg (by rw [hp]; simp)]
  simp
 | b :: rest,pre,fu + 1,c,hp,hf=>by
  have hbl:b∈r3.2.1:=by rw [hp]; simp
  have hpl:pre.length<r3.2.1.length:=by rw [hp]; simp
  have hidx:AM.idx r3.2.1 (pre.length:Int)=some b:=by rw [hp]; exact idx_at pre b rest
  rw [Zar,if_pos (by simp; exact hpl)]
  simp only [hidx,hi,Option.bind_some,(Zgw hm (hl b hbl)).1,Zno hm (hl b hbl) (hl d hd),ha b hbl,ha d hd]
  rw [wi64 (x:=(pre.length:Int) + 1) (by omega) (by omega),wi64 (x:=ρ d - 1) (by omega) (by omega),show (pre.length:Int) + 1=((pre++[b]).length:Int) by simp]
  have ih:=fun c'=>Zpl hm hl hlen ha hi hd hb h0 h1 rest (pre++[b]) fu c' (by rw [hp]; simp) (by simp at hf; omega)
  cases hbd:bef r3.1 b d with
  | false=>
   simp only [Bool.not_false,if_true,Option.bind_some]
   rw [ih c]
   simp [hbd]
  | true=>
   have:=hb b hbl hbd
   simp only [Bool.not_true,Bool.false_eq_true,if_false]
   rw [if_neg (by simp; omega)]
   have e:(if c=true then some true else some (ρ b == ρ d - 1))=some (c || (ρ b == ρ d - 1)):=by cases c <;> simp
   rw [e]
   simp only [Option.bind_some]
   rw [ih]
   simp [hbd,Bool.or_assoc]
theorem all_L4 {n:Int} {r3:List (List Bool) × List Int × Zj} {a:List Int} {ρ:Int→Int} (hm:Sq n r3.1) (hl:∀ x∈r3.2.1,0≤x∧x<n) (hlen:r3.2.1.length≤65536) (ha:∀ x∈r3.2.1,AM.idx a x=some (ρ x))
  (hle:Least r3.1 r3.2.1 ρ) (hρ:∀ d∈r3.2.1,0≤ρ d∧ρ d≤65540):∀(rest pre:List Int) (fu:Nat),r3.2.1=pre++rest→rest.length<fu →
   Zas r3 a fu (pre.length:Int)=some (.inl ())
 | [],pre,fu + 1,hp,_=>by
  rw [Zas,if_neg (by rw [hp]; simp)]
 | d :: rest,pre,fu + 1,hp,hf=>by
  have hd:d∈r3.2.1:=by rw [hp]; simp
  have hpl:pre.length<r3.2.1.length:=by rw [hp]; simp
  have hidx:AM.idx r3.2.1 (pre.length:Int)=some d:=by rw [hp]; exact idx_at pre d rest
  obtain⟨fu',hfu⟩:=Zcx 65540 (by omega)
  obtain⟨h1,h2⟩:=hle d hd
  rw [Zas,if_pos (by simp; exact hpl)]
  simp only [hidx,Option.bind_some,ha d hd]
  have h5:=Zpl hm hl hlen ha hidx hd h1 (hρ d hd).1 (hρ d hd).2 r3.2.1 [] fuel (ρ d == 0) rfl (by omega)
  simp only [List.length_nil,Int.natCast_zero] at h5
  rw [h5]
  simp only [Option.bind_some]
  have hc:((ρ d == 0) || r3.2.1.any fun b=>bef r3.1 b d && (ρ b == ρ d - 1))=true:=by
   rcases h2 with h2 | ⟨b,hb,hbd,h2⟩
   ·simp [h2]
   ·rw [Bool.or_eq_true]
    refine .inr (List.any_eq_true.2 ⟨b,hb,?_⟩)
    rw [hbd]
    simp; omega
  rw [hc]
  simp only [Bool.not_true,Bool.false_eq_true,if_false]
  rw [wi64 (x:=(pre.length:Int) + 1) (by omega) (by omega),show (pre.length:Int) + 1=((pre++[d]).length:Int) by simp]
  exact all_L4 hm hl hlen ha hle hρ rest (pre++[d]) fu (by rw [hp]; simp) (by simp at hf; omega)
theorem Zln {a0:List Int} (h0:Zmd a0):Zct a0=some true:=by
 have hsane:Zfl=some true:=rfl
 suffices hT:Ok (Zct a0) (·=true) from hT.eq
 unfold Zct
 refine Ok.bind (New_ok (Zsd h0)) fun t ht=>?_
 refine Ok.bind (Zpt ht) fun r3 h3=>?_
 obtain⟨n,hn1,hn6,hm,hlen⟩:=h3
 have hlen':r3.2.1.length≤65536:=by omega
 refine Ok.bind (Zqq hm (by omega) hlen') fun r hr=>?_
 refine Ok.bind (Zqs hm (by omega) (by omega) hlen') fun q hq=>?_
 have hm1:=hm.1
 have heq:r.2=q.2:=by
  rcases hr with ⟨h1,_,h3⟩ | ⟨h1,h2,_,ρ,h4,h5⟩
  ·rw [h1]
   cases hq2:q.2 with
   | false=>rfl
   | true=>exact absurd (hq.1 hq2) h3
  ·rw [h1]
   refine(hq.2 ⟨h2,h4.rank fun d hd=>(h5.top d ((Zd6 _).mem_iff.2 hd)).1⟩).symm
 rw [if_neg (by rw [heq]; simp)]
 obtain⟨fu',hfu⟩:=Zcx 65550 (by omega)
 refine Ok.chk ⟨by omega,by unfold lim; omega⟩ ?_
 refine Ok.bind (Zpk 1000 fuel _ 0 (by simp; omega) (by omega) (Int.le_refl _) (by omega) (by simp; omega) fun j hj=>by omega) fun v hv=>?_
 obtain⟨hv1,hv2⟩:=hv
 have hv1':(v.length:Int)=n:=by rw [hv1]; simp; omega
 rcases hr with ⟨h1,h2,h3⟩ | ⟨h1,hus,hol,ρ,hle,hout⟩
 ·have hL2:Zz r fuel v 0 0=some (.inl (v,0)):=by
   rw [hfu,Zz,if_neg (by rw [h2]; simp)]
  rw [hL2]
  simp only [Option.bind_some,h1,h2,hsane,Bool.not_false,if_true]
  exact Ok.ret rfl
 ·have hsn:(sortI r3.2.1).Nodup:=(Zd6 _).nodup_iff.2 hus.1
  have hfn:r.1.flatten.Nodup:=Zne (ρ:=ρ) hsn r.1 [] (fun i h=>hout.row i h) List.nodup_nil (fun x h=>by cases h)
  have hmem:∀ x,x∈r.1.flatten ↔ x∈r3.2.1:=fun x=>by
   rw [List.mem_flatten]
   constructor
   ·rintro⟨row,hrow,hx⟩
    obtain⟨i,hi,rfl⟩:=List.getElem_of_mem hrow
    rw [hout.row i hi,List.mem_filter] at hx
    exact(Zd6 _).mem_iff.1 hx.1
   ·intro hx
    have hxs:=(Zd6 r3.2.1).mem_iff.2 hx
    have ht:=hout.top x hxs
    have hi:(ρ x).toNat<r.1.length:=by omega
    refine⟨r.1[(ρ x).toNat],List.getElem_mem hi,?_⟩
    rw [hout.row _ hi,List.mem_filter]
    exact⟨hxs,by simp; omega⟩
  have hfl:r.1.flatten.length=r3.2.1.length:=Nat.le_antisymm (Zht _ _ hfn fun x hx=>(hmem x).1 hx) (Zht _ _ hus.1 fun x hx=>(hmem x).2 hx)
  have hstart:At n v [].flatten ρ:=⟨hv1',fun x hx0 hx1=>by
   rw [hv2 x.toNat (by simp at hv1 ⊢; omega)]; simp⟩
  have hrows:∀(i:Nat) (h:i<r.1.length),∀ d∈r.1[i],(0≤d∧d<n)∧ρ d=(i:Int):=fun i h d hd=>by
   rw [hout.row i h,List.mem_filter] at hd
   exact⟨hus.2 d ((Zd6 _).mem_iff.1 hd.1),by simpa using hd.2⟩
  refine Ok.bind (Zqd hrows hfn (by omega) hol r.1 [] fuel v rfl (by omega) hstart) fun o ho=>?_
  obtain⟨a,rfl,ha⟩:=ho
  have hρ:∀ d∈r3.2.1,0≤ρ d∧ρ d≤65540:=fun d hd=>by have:=hout.top d ((Zd6 _).mem_iff.2 hd); omega
  have hidx:∀ x∈r3.2.1,AM.idx a x=some (ρ x):=fun x hx=>by
   rw [ha.idx (hus.2 x hx).1 (hus.2 x hx).2,if_pos ((hmem x).2 hx)]
  have h4:=all_L4 hm hus.2 hlen' hidx hle hρ r3.2.1 [] fuel rfl (by omega)
  simp only [List.length_nil,Int.natCast_zero] at h4
  simp only [h1,Bool.not_true,Bool.false_eq_true,if_false]
  rw [h4]
  simp only [Option.bind_some,hfl,hsane,beq_self_eq_true,if_true]
  exact Ok.ret rfl
end Go.AM

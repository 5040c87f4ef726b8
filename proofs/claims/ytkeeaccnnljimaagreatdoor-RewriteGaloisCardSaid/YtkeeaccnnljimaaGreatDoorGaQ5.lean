/- Parts of a proof, printed short. No condition. -/
import Derived.Test.YtkeeaccnnljimaaGreatDoorProg
import Derived.Test.YtkeeaccnnljimaaGreatDoorGaQ4
set_option maxRecDepth 100000
namespace Go.AM
open Go Go.Proofs
def Zf6 (a1:(List Int)) (s0:List Value) (r:(Int × Int)):PV→List Blk→Prop:=fun p K=>p=(.tup [(i64 r.1),(i64 r.2)])∧K=[.cells (cel Zb a1 s0)]
theorem Zf7 (a0:Nat) (a1:(List Int)) (s0:List Value) (a2:Int) (a3:Int) (r:(Int × Int)) (hF:Zbh a0 a1 a2 a3=some r):ACall Tryz.prog glob 163 [(.vw 0 0 a0),(i64 a2),(i64 a3)] [.cells (cel Zb a1 s0)] (Zf6 a1 s0 r):=by
 refine ACall.body Tryz.func163 rfl (by kernel_rfl) ?_
 unfold Zbh at hF
 refine .seq (.rg0 [] [(0,(.vw 0 0 a0)),(1,(i64 a2)),(2,(i64 a3))] ?_)
 refine .seq (.rg0 [] [(0,(.vw 0 0 a0)),(1,(i64 a2)),(8,(i64 (IntKind.wrap .i64 (a3 - a2))))] ?_)
 refine .seq (.rg [] [(0,(.vw 0 0 a0)),(1,(i64 a2)),(8,(i64 (IntKind.wrap .i64 (a3 - a2)))),(9,(.ptr 1 0))] [.cells (cel Zb a1 s0),.cells (Z3 (0:Int))] ?_)
 refine .seq (.rg0 [] [(0,(.vw 0 0 a0)),(1,(i64 a2)),(8,(i64 (IntKind.wrap .i64 (a3 - a2)))),(9,(.ptr 1 0)),(10,(i64 (IntKind.wrap .i64 (a2 + (IntKind.wrap .i64 ((IntKind.wrap .i64 (Int.tdiv (IntKind.wrap .i64 (a3 - a2)) (4:Int))) * (1:Int)))))))] ?_)
 refine .seq (.rg0 [] [(0,(.vw 0 0 a0)),(1,(i64 a2)),(8,(i64 (IntKind.wrap .i64 (a3 - a2)))),(9,(.ptr 1 0)),(10,(i64 (IntKind.wrap .i64 (a2 + (IntKind.wrap .i64 ((IntKind.wrap .i64 (Int.tdiv (IntKind.wrap .i64 (a3 - a2)) (4:Int))) * (1:Int))))))),(11,(i64 (IntKind.wrap .i64 (a2 + (IntKind.wrap .i64 ((IntKind.wrap .i64 (Int.tdiv (IntKind.wrap .i64 (a3 - a2)) (4:Int))) * (2:Int)))))))] ?_)
 refine .seq (.rg0 [] [(0,(.vw 0 0 a0)),(8,(i64 (IntKind.wrap .i64 (a3 - a2)))),(9,(.ptr 1 0)),(10,(i64 (IntKind.wrap .i64 (a2 + (IntKind.wrap .i64 ((IntKind.wrap .i64 (Int.tdiv (IntKind.wrap .i64 (a3 - a2)) (4:Int))) * (1:Int))))))),(11,(i64 (IntKind.wrap .i64 (a2 + (IntKind.wrap .i64 ((IntKind.wrap .i64 (Int.tdiv (IntKind.wrap .i64 (a3 - a2)) (4:Int))) * (2:Int))))))),(12,(i64 (IntKind.wrap .i64 (a2 + (IntKind.wrap .i64 ((IntKind.wrap .i64 (Int.tdiv (IntKind.wrap .i64 (a3 - a2)) (4:Int))) * (3:Int)))))))] ?_)
 obtain ⟨o26,h27,hF⟩:=bindb hF
 refine AWP.seq ?_
 refine AWP.mid (fun e st H=>(e=.normal∧∃ (v24:Int),∃ (v25:Int),o26=(v24,v25)∧st=[(9,(.ptr 1 0)),(11,(i64 v25))]∧H=[.cells (cel Zb a1 s0),.cells (Z3 v24)])) ?_ ?_
 ·clear hF
  have hF:=h27
  refine .seq (.rg0 [] [(0,(.vw 0 0 a0)),(8,(i64 (IntKind.wrap .i64 (a3 - a2)))),(9,(.ptr 1 0)),(10,(i64 (IntKind.wrap .i64 (a2 + (IntKind.wrap .i64 ((IntKind.wrap .i64 (Int.tdiv (IntKind.wrap .i64 (a3 - a2)) (4:Int))) * (1:Int))))))),(11,(i64 (IntKind.wrap .i64 (a2 + (IntKind.wrap .i64 ((IntKind.wrap .i64 (Int.tdiv (IntKind.wrap .i64 (a3 - a2)) (4:Int))) * (2:Int))))))),(12,(i64 (IntKind.wrap .i64 (a2 + (IntKind.wrap .i64 ((IntKind.wrap .i64 (Int.tdiv (IntKind.wrap .i64 (a3 - a2)) (4:Int))) * (3:Int))))))),(32,(vb (decide ((IntKind.wrap .i64 (a3 - a2)) ≥ (8:Int)))))] ?_)
  refine AWP.cif hF (fun h50 hF=>?_) (fun h50 hF=>?_)
  ·obtain ⟨o39,h40,hF⟩:=bindb hF
   refine AWP.seq ?_
   refine AWP.mid (fun e st H=>(e=.normal∧∃ (v35:Int),∃ (v36:Int),∃ (v37:Int),∃ (v38:Int),o39=(v35,v36,v37,v38)∧st=[(0,(.vw 0 0 a0)),(9,(.ptr 1 0)),(10,(i64 v36)),(11,(i64 v37)),(12,(i64 v38))]∧H=[.cells (cel Zb a1 s0),.cells (Z3 v35)])) ?_ ?_
   ·clear hF
    have hF:=h40
    refine .seq (.rg0 [] [(0,(.vw 0 0 a0)),(9,(.ptr 1 0)),(10,(i64 (IntKind.wrap .i64 (a2 + (IntKind.wrap .i64 ((IntKind.wrap .i64 (Int.tdiv (IntKind.wrap .i64 (a3 - a2)) (4:Int))) * (1:Int))))))),(11,(i64 (IntKind.wrap .i64 (a2 + (IntKind.wrap .i64 ((IntKind.wrap .i64 (Int.tdiv (IntKind.wrap .i64 (a3 - a2)) (4:Int))) * (2:Int))))))),(12,(i64 (IntKind.wrap .i64 (a2 + (IntKind.wrap .i64 ((IntKind.wrap .i64 (Int.tdiv (IntKind.wrap .i64 (a3 - a2)) (4:Int))) * (3:Int))))))),(34,(vb (decide ((IntKind.wrap .i64 (a3 - a2)) ≥ (50:Int)))))] ?_)
    refine AWP.cif hF (fun h47 hF=>?_) (fun h47 hF=>?_)
    ·refine AWP.seq ?_
     obtain ⟨r41,h42,hF⟩:=bindb hF
     refine AWP.rg [(2,.callC Tryz.func174 [] (closedH.c (cel_closed (row:=Zb) (fun _=>rfl) a1 s0) (closedH.c (cs:=Z3 (0:Int)) rfl closedH.n)) (closedH.c (cel_closed (row:=Zb) (fun _=>rfl) a1 s0) (closedH.c (cs:=Z3 r41.2) rfl closedH.n)) (Zcp a0 a1 s0 (IntKind.wrap .i64 (a2 + (IntKind.wrap .i64 ((IntKind.wrap .i64 (Int.tdiv (IntKind.wrap .i64 (a3 - a2)) (4:Int))) * (1:Int))))) (0:Int) r41 h42))] [(0,(.vw 0 0 a0)),(9,(.ptr 1 0)),(10,(i64 r41.1)),(11,(i64 (IntKind.wrap .i64 (a2 + (IntKind.wrap .i64 ((IntKind.wrap .i64 (Int.tdiv (IntKind.wrap .i64 (a3 - a2)) (4:Int))) * (2:Int))))))),(12,(i64 (IntKind.wrap .i64 (a2 + (IntKind.wrap .i64 ((IntKind.wrap .i64 (Int.tdiv (IntKind.wrap .i64 (a3 - a2)) (4:Int))) * (3:Int)))))))] [.cells (cel Zb a1 s0),.cells (Z3 r41.2)] ?_
     refine AWP.seq ?_
     obtain ⟨r43,h44,hF⟩:=bindb hF
     refine AWP.rg [(2,.callC Tryz.func174 [] (closedH.c (cel_closed (row:=Zb) (fun _=>rfl) a1 s0) (closedH.c (cs:=Z3 r41.2) rfl closedH.n)) (closedH.c (cel_closed (row:=Zb) (fun _=>rfl) a1 s0) (closedH.c (cs:=Z3 r43.2) rfl closedH.n)) (Zcp a0 a1 s0 (IntKind.wrap .i64 (a2 + (IntKind.wrap .i64 ((IntKind.wrap .i64 (Int.tdiv (IntKind.wrap .i64 (a3 - a2)) (4:Int))) * (2:Int))))) r41.2 r43 h44))] [(0,(.vw 0 0 a0)),(9,(.ptr 1 0)),(10,(i64 r41.1)),(11,(i64 r43.1)),(12,(i64 (IntKind.wrap .i64 (a2 + (IntKind.wrap .i64 ((IntKind.wrap .i64 (Int.tdiv (IntKind.wrap .i64 (a3 - a2)) (4:Int))) * (3:Int)))))))] [.cells (cel Zb a1 s0),.cells (Z3 r43.2)] ?_
     obtain ⟨r45,h46,hF⟩:=bindb hF
     refine AWP.rg [(2,.callC Tryz.func174 [] (closedH.c (cel_closed (row:=Zb) (fun _=>rfl) a1 s0) (closedH.c (cs:=Z3 r43.2) rfl closedH.n)) (closedH.c (cel_closed (row:=Zb) (fun _=>rfl) a1 s0) (closedH.c (cs:=Z3 r45.2) rfl closedH.n)) (Zcp a0 a1 s0 (IntKind.wrap .i64 (a2 + (IntKind.wrap .i64 ((IntKind.wrap .i64 (Int.tdiv (IntKind.wrap .i64 (a3 - a2)) (4:Int))) * (3:Int))))) r43.2 r45 h46))] [(0,(.vw 0 0 a0)),(9,(.ptr 1 0)),(10,(i64 r41.1)),(11,(i64 r43.1)),(12,(i64 r45.1))] [.cells (cel Zb a1 s0),.cells (Z3 r45.2)] ?_
     refine LeQ.start ?_
     refine LeQ.pk [0,9,10,11,12] 2 ?_
     exact ⟨rfl,r45.2,r41.1,r43.1,r45.1,(someb hF).symm,by kernel_rfl,by kernel_rfl⟩
    ·refine AWP.skip ?_
     refine LeQ.start ?_
     refine LeQ.pk [0,9,10,11,12] 2 ?_
     exact ⟨rfl,(0:Int),(IntKind.wrap .i64 (a2 + (IntKind.wrap .i64 ((IntKind.wrap .i64 (Int.tdiv (IntKind.wrap .i64 (a3 - a2)) (4:Int))) * (1:Int))))),(IntKind.wrap .i64 (a2 + (IntKind.wrap .i64 ((IntKind.wrap .i64 (Int.tdiv (IntKind.wrap .i64 (a3 - a2)) (4:Int))) * (2:Int))))),(IntKind.wrap .i64 (a2 + (IntKind.wrap .i64 ((IntKind.wrap .i64 (Int.tdiv (IntKind.wrap .i64 (a3 - a2)) (4:Int))) * (3:Int))))),(someb hF).symm,by kernel_rfl,by kernel_rfl⟩
   ·rintro _ _ _ ⟨rfl,v35,v36,v37,v38,rfl,rfl,rfl⟩
    obtain ⟨r48,h49,hF⟩:=bindb hF
    refine AWP.rg [(4,.callC Tryz.func175 [] (closedH.c (cel_closed (row:=Zb) (fun _=>rfl) a1 s0) (closedH.c (cs:=Z3 v35) rfl closedH.n)) (closedH.c (cel_closed (row:=Zb) (fun _=>rfl) a1 s0) (closedH.c (cs:=Z3 r48.2) rfl closedH.n)) (Ze6 a0 a1 s0 v36 v37 v38 v35 r48 h49))] [(9,(.ptr 1 0)),(11,(i64 r48.1))] [.cells (cel Zb a1 s0),.cells (Z3 r48.2)] ?_
    refine LeQ.start ?_
    refine LeQ.pk [9,11] 2 ?_
    exact ⟨rfl,r48.2,r48.1,(someb hF).symm,by kernel_rfl,by kernel_rfl⟩
  ·refine AWP.skip ?_
   refine LeQ.start ?_
   refine LeQ.pk [9,11] 2 ?_
   exact ⟨rfl,(0:Int),(IntKind.wrap .i64 (a2 + (IntKind.wrap .i64 ((IntKind.wrap .i64 (Int.tdiv (IntKind.wrap .i64 (a3 - a2)) (4:Int))) * (2:Int))))),(someb hF).symm,by kernel_rfl,by kernel_rfl⟩
 ·rintro _ _ _ ⟨rfl,v24,v25,rfl,rfl,rfl⟩
  refine .seq (.rg0 [] [(11,(i64 v25)),(49,(i64 v24))] ?_)
  refine AWP.block ?_
  refine .seq (.rg0 [] [(11,(i64 v25)),(49,(i64 v24)),(51,(vb (v24 == (0:Int))))] ?_)
  refine AWP.cif hF (fun h52 hF=>?_) (fun h52 hF=>?_)
  ·refine .seq (.rg0 [] [(6,(i64 v25)),(7,(i64 (1:Int)))] ?_)
   refine AWP.ret ?_
   have hr:=someb hF
   subst hr
   exact (FnQ.f0 1 (.inr rfl))
  ·refine .seq (.rg0 [] [(11,(i64 v25)),(54,(vb (v24 == (12:Int))))] ?_)
   refine AWP.cif hF (fun h51 hF=>?_) (fun h51 hF=>?_)
   ·refine .seq (.rg0 [] [(6,(i64 v25)),(7,(i64 (2:Int)))] ?_)
    refine AWP.ret ?_
    have hr:=someb hF
    subst hr
    exact (FnQ.f0 1 (.inr rfl))
   ·refine .seq (.rg0 [] [(6,(i64 v25)),(7,(i64 (0:Int)))] ?_)
    refine AWP.ret ?_
    have hr:=someb hF
    subst hr
    exact (FnQ.f0 1 (.inr rfl))
def Zf1 (s0:List Value) (r:(List Int)):PV→List Blk→Prop:=fun p K=>p=(.tup [])∧K=[.cells (cel Zb r s0)]
theorem Zf2 (a0:Nat) (a1:(List Int)) (s0:List Value) (a2:Int) (a3:Int) (r:(List Int)) (hF:Zau a0 a1 a2 a3=some r):ACall Tryz.prog glob 164 [(.vw 0 0 a0),(i64 a2),(i64 a3)] [.cells (cel Zb a1 s0)] (Zf1 s0 r):=by
 refine ACall.body Tryz.func164 rfl (by kernel_rfl) ?_
 unfold Zau at hF
 refine .seq (.rg0 [] [(0,(.vw 0 0 a0)),(2,(i64 a3)),(6,(i64 a2))] ?_)
 refine .seq (.rg0 [] [(0,(.vw 0 0 a0)),(6,(i64 a2)),(7,(i64 (IntKind.wrap .i64 (a3 - (1:Int)))))] ?_)
 obtain ⟨v24,h25,hF⟩:=bindb hF
 refine AWP.mid (fun e st H=>e=.normal∧st=[]∧H=[.cells (cel Zb v24 s0)]) ?_ ?_
 ·clear hF
  refine AWP.kp [0,6,7] 1 ?_
  refine AWP.bround (fun n st H=>∃ (v12:(List Int)),∃ (v13:Int),∃ (v14:Int),Z8 a0 n v12 v13 v14=some v24∧st=[(0,(.vw 0 0 a0)),(6,(i64 v13)),(7,(i64 v14))]∧H=[.cells (cel Zb v12 s0)]) fuel ⟨a1,a2,(IntKind.wrap .i64 (a3 - (1:Int))),h25,by kernel_rfl,by kernel_rfl⟩ ?_
  rintro n26 st H ⟨v12,v13,v14,hF,rfl,rfl⟩
  cases n26 with
  | zero=>exact noneb hF
  | succ n26=>
   rw [Z8] at hF
   refine AWP.seq ?_
   refine .seq (.rg0 [] [(0,(.vw 0 0 a0)),(6,(i64 v13)),(7,(i64 v14)),(13,(vb (decide (v13<v14))))] ?_)
   refine AWP.cif hF (fun h35 hF=>?_) (fun h35 hF=>?_)
   ·refine AWP.skip ?_
    refine AWP.block ?_
    refine AWP.seq ?_
    obtain ⟨x27,h28,hF⟩:=bindb hF
    obtain ⟨x29,h30,hF⟩:=bindb hF
    obtain ⟨x31,h32,hF⟩:=bindb hF
    obtain ⟨x33,h34,hF⟩:=bindb hF
    refine AWP.dr [(6,.idxV (idxn_lt h28)),(7,.ldV Zb (s:=1) (fun _=>rfl) s0 (idxn_idx h28) (0 + Int.toNat v14 * 1) (Nat.zero_add _) []),(10,.idxV (idxn_lt h30)),(11,.ldV Zb (s:=1) (fun _=>rfl) s0 (idxn_idx h30) (0 + Int.toNat v13 * 1) (Nat.zero_add _) []),(12,.idxV (idxn_lt h32)),(13,.stV Zb (s:=1) (fun _=>rfl) s0 (idxn_idx h32) x27 (0 + Int.toNat v13 * 1) (Nat.zero_add _) []),(14,.idxV (idxn_lt h34)),(15,.stV Zb (s:=1) (fun _=>rfl) s0 (idxn_idx h34) x29 (0 + Int.toNat v14 * 1) (Nat.zero_add _) [])] 14 [] [13] [] [(0,(.vw 0 0 a0)),(6,(i64 v13)),(7,(i64 v14))] [.cells (cel Zb (List.set (List.set v12 (Int.toNat v13) x27) (Int.toNat v14) x29) s0)] ?_
    refine .seq (.rg0 [] [(0,(.vw 0 0 a0)),(6,(i64 (IntKind.wrap .i64 (v13 + (1:Int))))),(7,(i64 v14))] ?_)
    refine AWP.rg0 [] [(0,(.vw 0 0 a0)),(6,(i64 (IntKind.wrap .i64 (v13 + (1:Int))))),(7,(i64 (IntKind.wrap .i64 (v14 - (1:Int)))))] ?_
    refine LeQ.start ?_
    refine LeQ.pk [0,6,7] 1 ?_
    exact ⟨n26,Nat.lt_succ_self _,(List.set (List.set v12 (Int.toNat v13) x27) (Int.toNat v14) x29),(IntKind.wrap .i64 (v13 + (1:Int))),(IntKind.wrap .i64 (v14 - (1:Int))),hF,by kernel_rfl,by kernel_rfl⟩
   ·refine AWP.exit ?_
    refine LeQ.start ?_
    refine LeQ.pk [] 1 ?_
    have hr:=someb hF
    subst hr
    exact ⟨rfl,by kernel_rfl,by kernel_rfl⟩
 ·rintro _ _ _ ⟨rfl,rfl,rfl⟩
  have hr:=someb hF
  subst hr
  exact (FnQ.f0 1 (.inl rfl))
def Zc9 (s0:List Value) (r:(Bool × (List Int))):PV→List Blk→Prop:=fun p K=>p=(vb r.1)∧K=[.cells (cel Zb r.2 s0)]
abbrev Zda (s0:List Value) (r:(Bool × (List Int))):Exit→St→List Blk→Prop:=FnQ Tryz.prog Tryz.f165.results 1 (Zc9 s0 r)
theorem Ze9 (a0:Nat) (a1:(List Int)) (s0:List Value) (a2:Int) (a3:Int) (r:(Bool × (List Int))) (hF:Z9 a0 a1 a2 a3=some r):ACall Tryz.prog glob 165 [(.vw 0 0 a0),(i64 a2),(i64 a3)] [.cells (cel Zb a1 s0)] (Zc9 s0 r):=by
 refine ACall.body Tryz.func165 rfl (by kernel_rfl) ?_
 unfold Z9 at hF
 refine .seq (.rg0 [] [(0,(.vw 0 0 a0)),(1,(i64 a2)),(2,(i64 a3))] ?_)
 refine .seq (.rg0 [] [(0,(.vw 0 0 a0)),(1,(i64 a2)),(2,(i64 a3)),(7,(i64 (IntKind.wrap .i64 (a2 + (1:Int)))))] ?_)
 refine AWP.seq ?_
 refine .seq (.rg0 [] [(0,(.vw 0 0 a0)),(1,(i64 a2)),(2,(i64 a3)),(7,(i64 (IntKind.wrap .i64 (a2 + (1:Int))))),(8,(i64 (0:Int)))] ?_)
 obtain ⟨o847,h848,hF⟩:=bindb hF
 refine AWP.mid (fun e st H=>(e=.normal∧∃ (v846:(List Int)),o847=(.inl v846)∧st=[]∧H=[.cells (cel Zb v846 s0)])∨(e=.ret∧∃ (r:(Bool × (List Int))),o847=(.inr r)∧Zda s0 r e st H)) ?_ ?_
 ·clear hF
  refine AWP.kp [0,1,2,7,8] 1 ?_
  refine AWP.bround (fun n st H=>∃ (v423:(List Int)),∃ (v424:Int),∃ (v425:Int),Zx a0 a2 a3 n v423 v424 v425=some o847∧st=[(0,(.vw 0 0 a0)),(1,(i64 a2)),(2,(i64 a3)),(7,(i64 v424)),(8,(i64 v425))]∧H=[.cells (cel Zb v423 s0)]) fuel ⟨a1,(IntKind.wrap .i64 (a2 + (1:Int))),(0:Int),h848,by kernel_rfl,by kernel_rfl⟩ ?_
  rintro n849 st H ⟨v423,v424,v425,hF,rfl,rfl⟩
  cases n849 with
  | zero=>exact noneb hF
  | succ n849=>
   rw [Zx] at hF
   refine AWP.seq ?_
   refine .seq (.rg0 [] [(0,(.vw 0 0 a0)),(1,(i64 a2)),(2,(i64 a3)),(7,(i64 v424)),(8,(i64 v425)),(14,(vb (decide (v425<(5:Int)))))] ?_)
   refine AWP.cif hF (fun h1269 hF=>?_) (fun h1269 hF=>?_)
   ·refine AWP.skip ?_
    obtain ⟨o1059,h1060,hF⟩:=bindb hF
    refine AWP.seq ?_
    refine AWP.mid (fun e st H=>(e=.normal∧∃ (v1057:(List Int)),∃ (v1058:Int),o1059=(.inl (v1057,v1058))∧st=[(0,(.vw 0 0 a0)),(1,(i64 a2)),(2,(i64 a3)),(7,(i64 v1058)),(8,(i64 v425))]∧H=[.cells (cel Zb v1057 s0)])∨(e=.ret∧∃ (r:(Bool × (List Int))),o1059=(.inr r)∧Zda s0 r e st H)) ?_ ?_
    ·clear hF
     have hF:=h1060
     refine AWP.block ?_
     refine AWP.seq ?_
     obtain ⟨v1075,h1076,hF⟩:=bindb hF
     refine AWP.mid (fun e st H=>e=.normal∧st=[(0,(.vw 0 0 a0)),(1,(i64 a2)),(2,(i64 a3)),(7,(i64 v1075)),(8,(i64 v425))]∧H=[.cells (cel Zb v423 s0)]) ?_ ?_
     ·clear hF
      refine AWP.kp [0,1,2,7,8] 1 ?_
      refine AWP.bround (fun n st H=>∃ (v1061:Int),Zv a0 a3 v423 n v1061=some v1075∧st=[(0,(.vw 0 0 a0)),(1,(i64 a2)),(2,(i64 a3)),(7,(i64 v1061)),(8,(i64 v425))]∧H=[.cells (cel Zb v423 s0)]) fuel ⟨v424,h1076,by kernel_rfl,by kernel_rfl⟩ ?_
      rintro n1077 st H ⟨v1061,hF,rfl,rfl⟩
      cases n1077 with
      | zero=>exact noneb hF
      | succ n1077=>
       rw [Zv] at hF
       refine AWP.seq ?_
       refine AWP.seq ?_
       obtain ⟨b1078,h1079,hF⟩:=bindb hF
       replace h1079:=someb h1079
       obtain ⟨v1086,h1087,hF⟩:=bindb hF
       refine AWP.to [(0,(.vw 0 0 a0)),(1,(i64 a2)),(2,(i64 a3)),(7,(i64 v1061)),(8,(i64 v425)),(32,(vb v1086))] [.cells (cel Zb v423 s0)] ?_ ?_
       ·cases b1078 with
        | false=>
         have h1088:=someb (ifF h1087 rfl)
         subst h1088
         exact AWP.drT [(3,.bool h1079)] 16 [] [] []
        | true=>
         have h1089:=ifT h1087 rfl
         obtain ⟨x1080,h1081,h1089⟩:=bindb h1089
         obtain ⟨x1082,h1083,h1089⟩:=bindb h1089
         obtain ⟨r1084,h1085,h1089⟩:=bindb h1089
         replace h1089:=someb h1089
         subst h1089
         exact AWP.drT [(3,.bool h1079),(6,.idxV (idxn_lt h1081)),(7,.ldV Zb (s:=1) (fun _=>rfl) s0 (idxn_idx h1081) (0 + Int.toNat v1061 * 1) (Nat.zero_add _) []),(11,.idxV (idxn_lt h1083)),(12,.ldV Zb (s:=1) (fun _=>rfl) s0 (idxn_idx h1083) (0 + Int.toNat (IntKind.wrap .i64 (v1061 - (1:Int))) * 1) (Nat.zero_add _) []),(13,.call Tryz.func166 [] (Zaq x1080 x1082 r1084 h1085))] 16 [] [] []
       refine AWP.cif hF (fun h1090 hF=>?_) (fun h1090 hF=>?_)
       ·refine AWP.skip ?_
        refine AWP.block ?_
        refine AWP.rg0 [] [(0,(.vw 0 0 a0)),(1,(i64 a2)),(2,(i64 a3)),(7,(i64 (IntKind.wrap .i64 (v1061 + (1:Int))))),(8,(i64 v425))] ?_
        refine LeQ.start ?_
        refine LeQ.pk [0,1,2,7,8] 1 ?_
        exact ⟨n1077,Nat.lt_succ_self _,(IntKind.wrap .i64 (v1061 + (1:Int))),hF,by kernel_rfl,by kernel_rfl⟩
       ·refine AWP.exit ?_
        refine LeQ.start ?_
        refine LeQ.pk [0,1,2,7,8] 1 ?_
        have hr:=someb hF
        subst hr
        exact ⟨rfl,by kernel_rfl,by kernel_rfl⟩
     ·rintro _ _ _ ⟨rfl,rfl,rfl⟩
      refine AWP.seq ?_
      refine .seq (.rg0 [] [(0,(.vw 0 0 a0)),(1,(i64 a2)),(2,(i64 a3)),(7,(i64 v1075)),(8,(i64 v425)),(37,(vb (v1075 == a3)))] ?_)
      refine AWP.cif hF (fun h1267 hF=>?_) (fun h1267 hF=>?_)
      ·refine .seq (.rg0 [] [(6,(vb true))] ?_)
       refine AWP.ret ?_
       exact LeQ.of (.inr ⟨rfl,(true,v423),(someb hF).symm,(FnQ.f0 1 (.inr rfl))⟩)
      ·refine AWP.skip ?_
       refine AWP.seq ?_
       refine .seq (.rg0 [] [(0,(.vw 0 0 a0)),(1,(i64 a2)),(2,(i64 a3)),(7,(i64 v1075)),(8,(i64 v425)),(41,(vb (decide ((IntKind.wrap .i64 (a3 - a2))<(50:Int)))))] ?_)
       refine AWP.cif hF (fun h1266 hF=>?_) (fun h1266 hF=>?_)
       ·refine .seq (.rg0 [] [(6,(vb false))] ?_)
        refine AWP.ret ?_
        exact LeQ.of (.inr ⟨rfl,(false,v423),(someb hF).symm,(FnQ.f0 1 (.inr rfl))⟩)
       ·refine AWP.skip ?_
        refine AWP.seq ?_
        obtain ⟨x1091,h1092,hF⟩:=bindb hF
        obtain ⟨x1093,h1094,hF⟩:=bindb hF
        obtain ⟨x1095,h1096,hF⟩:=bindb hF
        obtain ⟨x1097,h1098,hF⟩:=bindb hF
        refine AWP.dr [(8,.idxV (idxn_lt h1092)),(9,.ldV Zb (s:=1) (fun _=>rfl) s0 (idxn_idx h1092) (0 + Int.toNat (IntKind.wrap .i64 (v1075 - (1:Int))) * 1) (Nat.zero_add _) []),(12,.idxV (idxn_lt h1094)),(13,.ldV Zb (s:=1) (fun _=>rfl) s0 (idxn_idx h1094) (0 + Int.toNat v1075 * 1) (Nat.zero_add _) []),(14,.idxV (idxn_lt h1096)),(15,.stV Zb (s:=1) (fun _=>rfl) s0 (idxn_idx h1096) x1091 (0 + Int.toNat v1075 * 1) (Nat.zero_add _) []),(16,.idxV (idxn_lt h1098)),(17,.stV Zb (s:=1) (fun _=>rfl) s0 (idxn_idx h1098) x1093 (0 + Int.toNat (IntKind.wrap .i64 (v1075 - (1:Int))) * 1) (Nat.zero_add _) [])] 16 [] [15] [] [(0,(.vw 0 0 a0)),(1,(i64 a2)),(2,(i64 a3)),(7,(i64 v1075)),(8,(i64 v425))] [.cells (cel Zb (List.set (List.set v423 (Int.toNat v1075) x1091) (Int.toNat (IntKind.wrap .i64 (v1075 - (1:Int)))) x1093) s0)] ?_
        obtain ⟨v1154,h1155,hF⟩:=bindb hF
        refine AWP.seq ?_
        refine AWP.mid (fun e st H=>e=.normal∧st=[(0,(.vw 0 0 a0)),(1,(i64 a2)),(2,(i64 a3)),(7,(i64 v1075)),(8,(i64 v425))]∧H=[.cells (cel Zb v1154 s0)]) ?_ ?_
        ·clear hF
         have hF:=h1155
         refine .seq (.rg0 [] [(0,(.vw 0 0 a0)),(1,(i64 a2)),(2,(i64 a3)),(7,(i64 v1075)),(8,(i64 v425)),(61,(vb (decide ((IntKind.wrap .i64 (v1075 - a2)) ≥ (2:Int)))))] ?_)
         refine AWP.cif hF (fun h1210 hF=>?_) (fun h1210 hF=>?_)
         ·refine .seq (.rg0 [] [(0,(.vw 0 0 a0)),(1,(i64 a2)),(2,(i64 a3)),(7,(i64 v1075)),(8,(i64 v425)),(9,(i64 (IntKind.wrap .i64 (v1075 - (1:Int)))))] ?_)
          obtain ⟨v1191,h1192,hF⟩:=bindb hF
          refine AWP.mid (fun e st H=>e=.normal∧st=[(0,(.vw 0 0 a0)),(1,(i64 a2)),(2,(i64 a3)),(7,(i64 v1075)),(8,(i64 v425))]∧H=[.cells (cel Zb v1191 s0)]) ?_ ?_
          ·clear hF
           refine AWP.kp [0,1,2,7,8,9] 1 ?_
           refine AWP.bround (fun n st H=>∃ (v1173:(List Int)),∃ (v1174:Int),Zr a0 n v1173 v1174=some v1191∧st=[(0,(.vw 0 0 a0)),(1,(i64 a2)),(2,(i64 a3)),(7,(i64 v1075)),(8,(i64 v425)),(9,(i64 v1174))]∧H=[.cells (cel Zb v1173 s0)]) fuel ⟨(List.set (List.set v423 (Int.toNat v1075) x1091) (Int.toNat (IntKind.wrap .i64 (v1075 - (1:Int)))) x1093),(IntKind.wrap .i64 (v1075 - (1:Int))),h1192,by kernel_rfl,by kernel_rfl⟩ ?_
           rintro n1193 st H ⟨v1173,v1174,hF,rfl,rfl⟩
           cases n1193 with
           | zero=>exact noneb hF
           | succ n1193=>
            rw [Zr] at hF
            refine AWP.seq ?_
            refine .seq (.rg0 [] [(0,(.vw 0 0 a0)),(1,(i64 a2)),(2,(i64 a3)),(7,(i64 v1075)),(8,(i64 v425)),(9,(i64 v1174)),(65,(vb (decide (v1174 ≥ (1:Int)))))] ?_)
            refine AWP.cif hF (fun h1209 hF=>?_) (fun h1209 hF=>?_)
            ·refine AWP.skip ?_
             refine AWP.seq ?_
             refine AWP.block ?_
             refine AWP.seq ?_
             refine AWP.seq ?_
             obtain ⟨x1194,h1195,hF⟩:=bindb hF
             obtain ⟨x1196,h1197,hF⟩:=bindb hF
             obtain ⟨r1198,h1199,hF⟩:=bindb hF
             refine AWP.dr [(2,.idxV (idxn_lt h1195)),(3,.ldV Zb (s:=1) (fun _=>rfl) s0 (idxn_idx h1195) (0 + Int.toNat v1174 * 1) (Nat.zero_add _) []),(7,.idxV (idxn_lt h1197)),(8,.ldV Zb (s:=1) (fun _=>rfl) s0 (idxn_idx h1197) (0 + Int.toNat (IntKind.wrap .i64 (v1174 - (1:Int))) * 1) (Nat.zero_add _) []),(9,.call Tryz.func166 [] (Zaq x1194 x1196 r1198 h1199))] 11 [] [] [] [(0,(.vw 0 0 a0)),(1,(i64 a2)),(2,(i64 a3)),(7,(i64 v1075)),(8,(i64 v425)),(9,(i64 v1174)),(78,(vb (!r1198)))] [.cells (cel Zb v1173 s0)] ?_
             refine AWP.cif hF (fun h1208 hF=>?_) (fun h1208 hF=>?_)
             ·refine AWP.exit ?_
              refine LeQ.start ?_
              refine LeQ.pk [0,1,2,7,8] 1 ?_
              have hr:=someb hF
              subst hr
              exact ⟨rfl,by kernel_rfl,by kernel_rfl⟩
             ·refine AWP.skip ?_
              obtain ⟨x1200,h1201,hF⟩:=bindb hF
              obtain ⟨x1202,h1203,hF⟩:=bindb hF
              obtain ⟨x1204,h1205,hF⟩:=bindb hF
              obtain ⟨x1206,h1207,hF⟩:=bindb hF
              refine AWP.dr [(8,.idxV (idxn_lt h1201)),(9,.ldV Zb (s:=1) (fun _=>rfl) s0 (idxn_idx h1201) (0 + Int.toNat (IntKind.wrap .i64 (v1174 - (1:Int))) * 1) (Nat.zero_add _) []),(12,.idxV (idxn_lt h1203)),(13,.ldV Zb (s:=1) (fun _=>rfl) s0 (idxn_idx h1203) (0 + Int.toNat v1174 * 1) (Nat.zero_add _) []),(14,.idxV (idxn_lt h1205)),(15,.stV Zb (s:=1) (fun _=>rfl) s0 (idxn_idx h1205) x1200 (0 + Int.toNat v1174 * 1) (Nat.zero_add _) []),(16,.idxV (idxn_lt h1207)),(17,.stV Zb (s:=1) (fun _=>rfl) s0 (idxn_idx h1207) x1202 (0 + Int.toNat (IntKind.wrap .i64 (v1174 - (1:Int))) * 1) (Nat.zero_add _) [])] 16 [] [15] [] [(0,(.vw 0 0 a0)),(1,(i64 a2)),(2,(i64 a3)),(7,(i64 v1075)),(8,(i64 v425)),(9,(i64 v1174))] [.cells (cel Zb (List.set (List.set v1173 (Int.toNat v1174) x1200) (Int.toNat (IntKind.wrap .i64 (v1174 - (1:Int)))) x1202) s0)] ?_
              refine AWP.rg0 [] [(0,(.vw 0 0 a0)),(1,(i64 a2)),(2,(i64 a3)),(7,(i64 v1075)),(8,(i64 v425)),(9,(i64 (IntKind.wrap .i64 (v1174 - (1:Int)))))] ?_
              refine LeQ.start ?_
              refine LeQ.pk [0,1,2,7,8,9] 1 ?_
              exact ⟨n1193,Nat.lt_succ_self _,(List.set (List.set v1173 (Int.toNat v1174) x1200) (Int.toNat (IntKind.wrap .i64 (v1174 - (1:Int)))) x1202),(IntKind.wrap .i64 (v1174 - (1:Int))),hF,by kernel_rfl,by kernel_rfl⟩
            ·refine AWP.exit ?_
             refine LeQ.start ?_
             refine LeQ.pk [0,1,2,7,8] 1 ?_
             have hr:=someb hF
             subst hr
             exact ⟨rfl,by kernel_rfl,by kernel_rfl⟩
          ·rintro _ _ _ ⟨rfl,rfl,rfl⟩
           refine LeQ.start ?_
           refine LeQ.pk [0,1,2,7,8] 1 ?_
           have hr:=someb hF
           subst hr
           exact ⟨rfl,by kernel_rfl,by kernel_rfl⟩
         ·refine AWP.skip ?_
          refine LeQ.start ?_
          refine LeQ.pk [0,1,2,7,8] 1 ?_
          have hr:=someb hF
          subst hr
          exact ⟨rfl,by kernel_rfl,by kernel_rfl⟩
        ·rintro _ _ _ ⟨rfl,rfl,rfl⟩
         refine .seq (.rg0 [] [(0,(.vw 0 0 a0)),(1,(i64 a2)),(2,(i64 a3)),(7,(i64 v1075)),(8,(i64 v425)),(98,(vb (decide ((IntKind.wrap .i64 (a3 - v1075)) ≥ (2:Int)))))] ?_)
         refine AWP.cif hF (fun h1265 hF=>?_) (fun h1265 hF=>?_)
         ·refine .seq (.rg0 [] [(0,(.vw 0 0 a0)),(1,(i64 a2)),(2,(i64 a3)),(7,(i64 v1075)),(8,(i64 v425)),(10,(i64 (IntKind.wrap .i64 (v1075 + (1:Int)))))] ?_)
          obtain ⟨v1246,h1247,hF⟩:=bindb hF
          refine AWP.mid (fun e st H=>e=.normal∧st=[(0,(.vw 0 0 a0)),(1,(i64 a2)),(2,(i64 a3)),(7,(i64 v1075)),(8,(i64 v425))]∧H=[.cells (cel Zb v1246 s0)]) ?_ ?_
          ·clear hF
           refine AWP.kp [0,1,2,7,8,10] 1 ?_
           refine AWP.bround (fun n st H=>∃ (v1228:(List Int)),∃ (v1229:Int),Zw a0 a3 n v1228 v1229=some v1246∧st=[(0,(.vw 0 0 a0)),(1,(i64 a2)),(2,(i64 a3)),(7,(i64 v1075)),(8,(i64 v425)),(10,(i64 v1229))]∧H=[.cells (cel Zb v1228 s0)]) fuel ⟨v1154,(IntKind.wrap .i64 (v1075 + (1:Int))),h1247,by kernel_rfl,by kernel_rfl⟩ ?_
           rintro n1248 st H ⟨v1228,v1229,hF,rfl,rfl⟩
           cases n1248 with
           | zero=>exact noneb hF
           | succ n1248=>
            rw [Zw] at hF
            refine AWP.seq ?_
            refine .seq (.rg0 [] [(0,(.vw 0 0 a0)),(1,(i64 a2)),(2,(i64 a3)),(7,(i64 v1075)),(8,(i64 v425)),(10,(i64 v1229)),(103,(vb (decide (v1229<a3))))] ?_)
            refine AWP.cif hF (fun h1264 hF=>?_) (fun h1264 hF=>?_)
            ·refine AWP.skip ?_
             refine AWP.seq ?_
             refine AWP.block ?_
             refine AWP.seq ?_
             refine AWP.seq ?_
             obtain ⟨x1249,h1250,hF⟩:=bindb hF
             obtain ⟨x1251,h1252,hF⟩:=bindb hF
             obtain ⟨r1253,h1254,hF⟩:=bindb hF
             refine AWP.dr [(2,.idxV (idxn_lt h1250)),(3,.ldV Zb (s:=1) (fun _=>rfl) s0 (idxn_idx h1250) (0 + Int.toNat v1229 * 1) (Nat.zero_add _) []),(7,.idxV (idxn_lt h1252)),(8,.ldV Zb (s:=1) (fun _=>rfl) s0 (idxn_idx h1252) (0 + Int.toNat (IntKind.wrap .i64 (v1229 - (1:Int))) * 1) (Nat.zero_add _) []),(9,.call Tryz.func166 [] (Zaq x1249 x1251 r1253 h1254))] 11 [] [] [] [(0,(.vw 0 0 a0)),(1,(i64 a2)),(2,(i64 a3)),(7,(i64 v1075)),(8,(i64 v425)),(10,(i64 v1229)),(116,(vb (!r1253)))] [.cells (cel Zb v1228 s0)] ?_
             refine AWP.cif hF (fun h1263 hF=>?_) (fun h1263 hF=>?_)
             ·refine AWP.exit ?_
              refine LeQ.start ?_
              refine LeQ.pk [0,1,2,7,8] 1 ?_
              have hr:=someb hF
              subst hr
              exact ⟨rfl,by kernel_rfl,by kernel_rfl⟩
             ·refine AWP.skip ?_
              obtain ⟨x1255,h1256,hF⟩:=bindb hF
              obtain ⟨x1257,h1258,hF⟩:=bindb hF
              obtain ⟨x1259,h1260,hF⟩:=bindb hF
              obtain ⟨x1261,h1262,hF⟩:=bindb hF
              refine AWP.dr [(8,.idxV (idxn_lt h1256)),(9,.ldV Zb (s:=1) (fun _=>rfl) s0 (idxn_idx h1256) (0 + Int.toNat (IntKind.wrap .i64 (v1229 - (1:Int))) * 1) (Nat.zero_add _) []),(12,.idxV (idxn_lt h1258)),(13,.ldV Zb (s:=1) (fun _=>rfl) s0 (idxn_idx h1258) (0 + Int.toNat v1229 * 1) (Nat.zero_add _) []),(14,.idxV (idxn_lt h1260)),(15,.stV Zb (s:=1) (fun _=>rfl) s0 (idxn_idx h1260) x1255 (0 + Int.toNat v1229 * 1) (Nat.zero_add _) []),(16,.idxV (idxn_lt h1262)),(17,.stV Zb (s:=1) (fun _=>rfl) s0 (idxn_idx h1262) x1257 (0 + Int.toNat (IntKind.wrap .i64 (v1229 - (1:Int))) * 1) (Nat.zero_add _) [])] 16 [] [15] [] [(0,(.vw 0 0 a0)),(1,(i64 a2)),(2,(i64 a3)),(7,(i64 v1075)),(8,(i64 v425)),(10,(i64 v1229))] [.cells (cel Zb (List.set (List.set v1228 (Int.toNat v1229) x1255) (Int.toNat (IntKind.wrap .i64 (v1229 - (1:Int)))) x1257) s0)] ?_
              refine AWP.rg0 [] [(0,(.vw 0 0 a0)),(1,(i64 a2)),(2,(i64 a3)),(7,(i64 v1075)),(8,(i64 v425)),(10,(i64 (IntKind.wrap .i64 (v1229 + (1:Int)))))] ?_
              refine LeQ.start ?_
              refine LeQ.pk [0,1,2,7,8,10] 1 ?_
              exact ⟨n1248,Nat.lt_succ_self _,(List.set (List.set v1228 (Int.toNat v1229) x1255) (Int.toNat (IntKind.wrap .i64 (v1229 - (1:Int)))) x1257),(IntKind.wrap .i64 (v1229 + (1:Int))),hF,by kernel_rfl,by kernel_rfl⟩
            ·refine AWP.exit ?_
             refine LeQ.start ?_
             refine LeQ.pk [0,1,2,7,8] 1 ?_
             have hr:=someb hF
             subst hr
             exact ⟨rfl,by kernel_rfl,by kernel_rfl⟩
          ·rintro _ _ _ ⟨rfl,rfl,rfl⟩
           refine LeQ.start ?_
           refine LeQ.pk [0,1,2,7,8] 1 ?_
           exact (.inl ⟨rfl,v1246,v1075,(someb hF).symm,by kernel_rfl,by kernel_rfl⟩)
         ·refine AWP.skip ?_
          refine LeQ.start ?_
          refine LeQ.pk [0,1,2,7,8] 1 ?_
          exact (.inl ⟨rfl,v1154,v1075,(someb hF).symm,by kernel_rfl,by kernel_rfl⟩)
    ·rintro _ _ _ (⟨rfl,v1057,v1058,rfl,rfl,rfl⟩ | ⟨rfl,r1268,rfl,hq⟩)
     ·refine AWP.rg0 [] [(0,(.vw 0 0 a0)),(1,(i64 a2)),(2,(i64 a3)),(7,(i64 v1058)),(8,(i64 (IntKind.wrap .i64 (v425 + (1:Int)))))] ?_
      refine LeQ.start ?_
      refine LeQ.pk [0,1,2,7,8] 1 ?_
      exact ⟨n849,Nat.lt_succ_self _,v1057,v1058,(IntKind.wrap .i64 (v425 + (1:Int))),hF,by kernel_rfl,by kernel_rfl⟩
     ·exact LeQ.of (.inr ⟨rfl,r1268,(someb hF).symm,hq⟩)
   ·refine AWP.exit ?_
    refine LeQ.start ?_
    refine LeQ.pk [] 1 ?_
    exact (.inl ⟨rfl,v423,(someb hF).symm,by kernel_rfl,by kernel_rfl⟩)
 ·rintro _ _ _ (⟨rfl,v846,rfl,rfl,rfl⟩ | ⟨rfl,r1270,rfl,hq⟩)
  ·refine .seq (.rg0 [] [(6,(vb false))] ?_)
   refine AWP.ret ?_
   have hr:=someb hF
   subst hr
   exact (FnQ.f0 1 (.inr rfl))
  ·have hr:=someb hF
   subst hr
   exact hq
def Zfq (s0:List Value) (r:(Int × (List Int))):PV→List Blk→Prop:=fun p K=>p=(i64 r.1)∧K=[.cells (cel Zb r.2 s0)]
theorem Zfr (a0:Nat) (a1:(List Int)) (s0:List Value) (a2:Int) (a3:Int) (a4:Int) (r:(Int × (List Int))) (hF:Za9 a0 a1 a2 a3 a4=some r):ACall Tryz.prog glob 167 [(.vw 0 0 a0),(i64 a2),(i64 a3),(i64 a4)] [.cells (cel Zb a1 s0)] (Zfq s0 r):=by
 refine ACall.body Tryz.func167 rfl (by kernel_rfl) ?_
 unfold Za9 at hF
 refine .seq (.rg0 [] [(0,(.vw 0 0 a0)),(1,(i64 a2)),(2,(i64 a3)),(3,(i64 a4))] ?_)
 refine AWP.seq ?_
 obtain ⟨x1,h2,hF⟩:=bindb hF
 obtain ⟨x3,h4,hF⟩:=bindb hF
 obtain ⟨x5,h6,hF⟩:=bindb hF
 obtain ⟨x7,h8,hF⟩:=bindb hF
 refine AWP.dr [(6,.idxV (idxn_lt h2)),(7,.ldV Zb (s:=1) (fun _=>rfl) s0 (idxn_idx h2) (0 + Int.toNat a4 * 1) (Nat.zero_add _) []),(10,.idxV (idxn_lt h4)),(11,.ldV Zb (s:=1) (fun _=>rfl) s0 (idxn_idx h4) (0 + Int.toNat a2 * 1) (Nat.zero_add _) []),(12,.idxV (idxn_lt h6)),(13,.stV Zb (s:=1) (fun _=>rfl) s0 (idxn_idx h6) x1 (0 + Int.toNat a2 * 1) (Nat.zero_add _) []),(14,.idxV (idxn_lt h8)),(15,.stV Zb (s:=1) (fun _=>rfl) s0 (idxn_idx h8) x3 (0 + Int.toNat a4 * 1) (Nat.zero_add _) [])] 14 [] [13] [] [(0,(.vw 0 0 a0)),(1,(i64 a2)),(2,(i64 a3))] [.cells (cel Zb (List.set (List.set a1 (Int.toNat a2) x1) (Int.toNat a4) x3) s0)] ?_
 refine .seq (.rg0 [] [(0,(.vw 0 0 a0)),(1,(i64 a2)),(9,(i64 (IntKind.wrap .i64 (a2 + (1:Int))))),(10,(i64 (IntKind.wrap .i64 (a3 - (1:Int)))))] ?_)
 refine AWP.seq ?_
 obtain ⟨o154,h155,hF⟩:=bindb hF
 refine AWP.mid (fun e st H=>(e=.normal∧∃ (v152:(List Int)),∃ (v153:Int),o154=(v152,v153)∧st=[(9,(i64 v153))]∧H=[.cells (cel Zb v152 s0)])) ?_ ?_
 ·clear hF
  refine AWP.kp [0,1,9,10] 1 ?_
  refine AWP.bround (fun n st H=>∃ (v80:(List Int)),∃ (v81:Int),∃ (v82:Int),Z4 a0 a2 n v80 v81 v82=some o154∧st=[(0,(.vw 0 0 a0)),(1,(i64 a2)),(9,(i64 v81)),(10,(i64 v82))]∧H=[.cells (cel Zb v80 s0)]) fuel ⟨(List.set (List.set a1 (Int.toNat a2) x1) (Int.toNat a4) x3),(IntKind.wrap .i64 (a2 + (1:Int))),(IntKind.wrap .i64 (a3 - (1:Int))),h155,by kernel_rfl,by kernel_rfl⟩ ?_
  rintro n156 st H ⟨v80,v81,v82,hF,rfl,rfl⟩
  cases n156 with
  | zero=>exact noneb hF
  | succ n156=>
   rw [Z4] at hF
   refine AWP.block ?_
   refine AWP.seq ?_
   obtain ⟨v171,h172,hF⟩:=bindb hF
   refine AWP.mid (fun e st H=>e=.normal∧st=[(0,(.vw 0 0 a0)),(1,(i64 a2)),(9,(i64 v171)),(10,(i64 v82))]∧H=[.cells (cel Zb v80 s0)]) ?_ ?_
   ·clear hF
    refine AWP.kp [0,1,9,10] 1 ?_
    refine AWP.bround (fun n st H=>∃ (v157:Int),Zae a0 a2 v80 v82 n v157=some v171∧st=[(0,(.vw 0 0 a0)),(1,(i64 a2)),(9,(i64 v157)),(10,(i64 v82))]∧H=[.cells (cel Zb v80 s0)]) fuel ⟨v81,h172,by kernel_rfl,by kernel_rfl⟩ ?_
    rintro n173 st H ⟨v157,hF,rfl,rfl⟩
    cases n173 with
    | zero=>exact noneb hF
    | succ n173=>
     rw [Zae] at hF
     refine AWP.seq ?_
     refine AWP.seq ?_
     obtain ⟨b174,h175,hF⟩:=bindb hF
     replace h175:=someb h175
     obtain ⟨v182,h183,hF⟩:=bindb hF
     refine AWP.to [(0,(.vw 0 0 a0)),(1,(i64 a2)),(9,(i64 v157)),(10,(i64 v82)),(43,(vb v182))] [.cells (cel Zb v80 s0)] ?_ ?_
     ·cases b174 with
      | false=>
       have h184:=someb (ifF h183 rfl)
       subst h184
       exact AWP.drT [(3,.bool h175)] 15 [] [] []
      | true=>
       have h185:=ifT h183 rfl
       obtain ⟨x176,h177,h185⟩:=bindb h185
       obtain ⟨x178,h179,h185⟩:=bindb h185
       obtain ⟨r180,h181,h185⟩:=bindb h185
       replace h185:=someb h185
       subst h185
       exact AWP.drT [(3,.bool h175),(6,.idxV (idxn_lt h177)),(7,.ldV Zb (s:=1) (fun _=>rfl) s0 (idxn_idx h177) (0 + Int.toNat a2 * 1) (Nat.zero_add _) []),(10,.idxV (idxn_lt h179)),(11,.ldV Zb (s:=1) (fun _=>rfl) s0 (idxn_idx h179) (0 + Int.toNat v157 * 1) (Nat.zero_add _) []),(12,.call Tryz.func166 [] (Zaq x176 x178 r180 h181))] 15 [] [] []
     refine AWP.cif hF (fun h186 hF=>?_) (fun h186 hF=>?_)
     ·refine AWP.skip ?_
      refine AWP.block ?_
      refine AWP.rg0 [] [(0,(.vw 0 0 a0)),(1,(i64 a2)),(9,(i64 (IntKind.wrap .i64 (v157 + (1:Int))))),(10,(i64 v82))] ?_
      refine LeQ.start ?_
      refine LeQ.pk [0,1,9,10] 1 ?_
      exact ⟨n173,Nat.lt_succ_self _,(IntKind.wrap .i64 (v157 + (1:Int))),hF,by kernel_rfl,by kernel_rfl⟩
     ·refine AWP.exit ?_
      refine LeQ.start ?_
      refine LeQ.pk [0,1,9,10] 1 ?_
      have hr:=someb hF
      subst hr
      exact ⟨rfl,by kernel_rfl,by kernel_rfl⟩
   ·rintro _ _ _ ⟨rfl,rfl,rfl⟩
    refine AWP.seq ?_
    obtain ⟨v201,h202,hF⟩:=bindb hF
    refine AWP.mid (fun e st H=>e=.normal∧st=[(0,(.vw 0 0 a0)),(1,(i64 a2)),(9,(i64 v171)),(10,(i64 v201))]∧H=[.cells (cel Zb v80 s0)]) ?_ ?_
    ·clear hF
     refine AWP.kp [0,1,9,10] 1 ?_
     refine AWP.bround (fun n st H=>∃ (v187:Int),Zaf a0 a2 v80 v171 n v187=some v201∧st=[(0,(.vw 0 0 a0)),(1,(i64 a2)),(9,(i64 v171)),(10,(i64 v187))]∧H=[.cells (cel Zb v80 s0)]) fuel ⟨v82,h202,by kernel_rfl,by kernel_rfl⟩ ?_
     rintro n203 st H ⟨v187,hF,rfl,rfl⟩
     cases n203 with
     | zero=>exact noneb hF
     | succ n203=>
      rw [Zaf] at hF
      refine AWP.seq ?_
      refine AWP.seq ?_
      obtain ⟨b204,h205,hF⟩:=bindb hF
      replace h205:=someb h205
      obtain ⟨v212,h213,hF⟩:=bindb hF
      refine AWP.to [(0,(.vw 0 0 a0)),(1,(i64 a2)),(9,(i64 v171)),(10,(i64 v187)),(59,(vb v212))] [.cells (cel Zb v80 s0)] ?_ ?_
      ·cases b204 with
       | false=>
        have h214:=someb (ifF h213 rfl)
        subst h214
        exact AWP.drT [(3,.bool h205)] 14 [] [] []
       | true=>
        have h215:=ifT h213 rfl
        obtain ⟨x206,h207,h215⟩:=bindb h215
        obtain ⟨x208,h209,h215⟩:=bindb h215
        obtain ⟨r210,h211,h215⟩:=bindb h215
        replace h215:=someb h215
        subst h215
        exact AWP.drT [(3,.bool h205),(6,.idxV (idxn_lt h207)),(7,.ldV Zb (s:=1) (fun _=>rfl) s0 (idxn_idx h207) (0 + Int.toNat a2 * 1) (Nat.zero_add _) []),(10,.idxV (idxn_lt h209)),(11,.ldV Zb (s:=1) (fun _=>rfl) s0 (idxn_idx h209) (0 + Int.toNat v187 * 1) (Nat.zero_add _) []),(12,.call Tryz.func166 [] (Zaq x206 x208 r210 h211))] 14 [] [] []
      refine AWP.cif hF (fun h216 hF=>?_) (fun h216 hF=>?_)
      ·refine AWP.skip ?_
       refine AWP.block ?_
       refine AWP.rg0 [] [(0,(.vw 0 0 a0)),(1,(i64 a2)),(9,(i64 v171)),(10,(i64 (IntKind.wrap .i64 (v187 - (1:Int)))))] ?_
       refine LeQ.start ?_
       refine LeQ.pk [0,1,9,10] 1 ?_
       exact ⟨n203,Nat.lt_succ_self _,(IntKind.wrap .i64 (v187 - (1:Int))),hF,by kernel_rfl,by kernel_rfl⟩
      ·refine AWP.exit ?_
       refine LeQ.start ?_
       refine LeQ.pk [0,1,9,10] 1 ?_
       have hr:=someb hF
       subst hr
       exact ⟨rfl,by kernel_rfl,by kernel_rfl⟩
    ·rintro _ _ _ ⟨rfl,rfl,rfl⟩
     refine AWP.seq ?_
     refine .seq (.rg0 [] [(0,(.vw 0 0 a0)),(1,(i64 a2)),(9,(i64 v171)),(10,(i64 v201)),(64,(vb (decide (v171 > v201))))] ?_)
     refine AWP.cif hF (fun h225 hF=>?_) (fun h225 hF=>?_)
     ·refine AWP.exit ?_
      refine LeQ.start ?_
      refine LeQ.pk [9] 1 ?_
      exact ⟨rfl,v80,v171,(someb hF).symm,by kernel_rfl,by kernel_rfl⟩
     ·refine AWP.skip ?_
      refine AWP.seq ?_
      obtain ⟨x217,h218,hF⟩:=bindb hF
      obtain ⟨x219,h220,hF⟩:=bindb hF
      obtain ⟨x221,h222,hF⟩:=bindb hF
      obtain ⟨x223,h224,hF⟩:=bindb hF
      refine AWP.dr [(6,.idxV (idxn_lt h218)),(7,.ldV Zb (s:=1) (fun _=>rfl) s0 (idxn_idx h218) (0 + Int.toNat v201 * 1) (Nat.zero_add _) []),(10,.idxV (idxn_lt h220)),(11,.ldV Zb (s:=1) (fun _=>rfl) s0 (idxn_idx h220) (0 + Int.toNat v171 * 1) (Nat.zero_add _) []),(12,.idxV (idxn_lt h222)),(13,.stV Zb (s:=1) (fun _=>rfl) s0 (idxn_idx h222) x217 (0 + Int.toNat v171 * 1) (Nat.zero_add _) []),(14,.idxV (idxn_lt h224)),(15,.stV Zb (s:=1) (fun _=>rfl) s0 (idxn_idx h224) x219 (0 + Int.toNat v201 * 1) (Nat.zero_add _) [])] 14 [] [13] [] [(0,(.vw 0 0 a0)),(1,(i64 a2)),(9,(i64 v171)),(10,(i64 v201))] [.cells (cel Zb (List.set (List.set v80 (Int.toNat v171) x217) (Int.toNat v201) x219) s0)] ?_
      refine .seq (.rg0 [] [(0,(.vw 0 0 a0)),(1,(i64 a2)),(9,(i64 (IntKind.wrap .i64 (v171 + (1:Int))))),(10,(i64 v201))] ?_)
      refine AWP.rg0 [] [(0,(.vw 0 0 a0)),(1,(i64 a2)),(9,(i64 (IntKind.wrap .i64 (v171 + (1:Int))))),(10,(i64 (IntKind.wrap .i64 (v201 - (1:Int)))))] ?_
      refine LeQ.start ?_
      refine LeQ.pk [0,1,9,10] 1 ?_
      exact ⟨n156,Nat.lt_succ_self _,(List.set (List.set v80 (Int.toNat v171) x217) (Int.toNat v201) x219),(IntKind.wrap .i64 (v171 + (1:Int))),(IntKind.wrap .i64 (v201 - (1:Int))),hF,by kernel_rfl,by kernel_rfl⟩
 ·rintro _ _ _ ⟨rfl,v152,v153,rfl,rfl,rfl⟩
  refine .seq (.rg0 [] [(8,(i64 v153))] ?_)
  refine AWP.ret ?_
  have hr:=someb hF
  subst hr
  exact (FnQ.f0 1 (.inr rfl))
def Zgf (s0:List Value) (r:(Int × Bool × (List Int))):PV→List Blk→Prop:=fun p K=>p=(.tup [(i64 r.1),(vb r.2.1)])∧K=[.cells (cel Zb r.2.2 s0)]
theorem Zgg (a0:Nat) (a1:(List Int)) (s0:List Value) (a2:Int) (a3:Int) (a4:Int) (r:(Int × Bool × (List Int))) (hF:Zbq a0 a1 a2 a3 a4=some r):ACall Tryz.prog glob 168 [(.vw 0 0 a0),(i64 a2),(i64 a3),(i64 a4)] [.cells (cel Zb a1 s0)] (Zgf s0 r):=by
 refine ACall.body Tryz.func168 rfl (by kernel_rfl) ?_
 unfold Zbq at hF
 refine .seq (.rg0 [] [(0,(.vw 0 0 a0)),(1,(i64 a2)),(2,(i64 a3)),(3,(i64 a4))] ?_)
 refine AWP.seq ?_
 obtain ⟨x1,h2,hF⟩:=bindb hF
 obtain ⟨x3,h4,hF⟩:=bindb hF
 obtain ⟨x5,h6,hF⟩:=bindb hF
 obtain ⟨x7,h8,hF⟩:=bindb hF
 refine AWP.dr [(6,.idxV (idxn_lt h2)),(7,.ldV Zb (s:=1) (fun _=>rfl) s0 (idxn_idx h2) (0 + Int.toNat a4 * 1) (Nat.zero_add _) []),(10,.idxV (idxn_lt h4)),(11,.ldV Zb (s:=1) (fun _=>rfl) s0 (idxn_idx h4) (0 + Int.toNat a2 * 1) (Nat.zero_add _) []),(12,.idxV (idxn_lt h6)),(13,.stV Zb (s:=1) (fun _=>rfl) s0 (idxn_idx h6) x1 (0 + Int.toNat a2 * 1) (Nat.zero_add _) []),(14,.idxV (idxn_lt h8)),(15,.stV Zb (s:=1) (fun _=>rfl) s0 (idxn_idx h8) x3 (0 + Int.toNat a4 * 1) (Nat.zero_add _) [])] 14 [] [13] [] [(0,(.vw 0 0 a0)),(1,(i64 a2)),(2,(i64 a3))] [.cells (cel Zb (List.set (List.set a1 (Int.toNat a2) x1) (Int.toNat a4) x3) s0)] ?_
 refine .seq (.rg0 [] [(0,(.vw 0 0 a0)),(1,(i64 a2)),(10,(i64 (IntKind.wrap .i64 (a2 + (1:Int))))),(11,(i64 (IntKind.wrap .i64 (a3 - (1:Int)))))] ?_)
 refine AWP.seq ?_
 obtain ⟨v23,h24,hF⟩:=bindb hF
 refine AWP.mid (fun e st H=>e=.normal∧st=[(0,(.vw 0 0 a0)),(1,(i64 a2)),(10,(i64 v23)),(11,(i64 (IntKind.wrap .i64 (a3 - (1:Int)))))]∧H=[.cells (cel Zb (List.set (List.set a1 (Int.toNat a2) x1) (Int.toNat a4) x3) s0)]) ?_ ?_
 ·clear hF
  refine AWP.kp [0,1,10,11] 1 ?_
  refine AWP.bround (fun n st H=>∃ (v9:Int),Zav a0 a1 a2 a3 a4 x1 x3 n v9=some v23∧st=[(0,(.vw 0 0 a0)),(1,(i64 a2)),(10,(i64 v9)),(11,(i64 (IntKind.wrap .i64 (a3 - (1:Int)))))]∧H=[.cells (cel Zb (List.set (List.set a1 (Int.toNat a2) x1) (Int.toNat a4) x3) s0)]) fuel ⟨(IntKind.wrap .i64 (a2 + (1:Int))),h24,by kernel_rfl,by kernel_rfl⟩ ?_
  rintro n25 st H ⟨v9,hF,rfl,rfl⟩
  cases n25 with
  | zero=>exact noneb hF
  | succ n25=>
   rw [Zav] at hF
   refine AWP.seq ?_
   refine AWP.seq ?_
   obtain ⟨b26,h27,hF⟩:=bindb hF
   replace h27:=someb h27
   obtain ⟨v34,h35,hF⟩:=bindb hF
   refine AWP.to [(0,(.vw 0 0 a0)),(1,(i64 a2)),(10,(i64 v9)),(11,(i64 (IntKind.wrap .i64 (a3 - (1:Int))))),(43,(vb v34))] [.cells (cel Zb (List.set (List.set a1 (Int.toNat a2) x1) (Int.toNat a4) x3) s0)] ?_ ?_
   ·cases b26 with
    | false=>
     have h36:=someb (ifF h35 rfl)
     subst h36
     exact AWP.drT [(3,.bool h27)] 14 [] [] []
    | true=>
     have h37:=ifT h35 rfl
     obtain ⟨x28,h29,h37⟩:=bindb h37
     obtain ⟨x30,h31,h37⟩:=bindb h37
     obtain ⟨r32,h33,h37⟩:=bindb h37
     replace h37:=someb h37
     subst h37
     exact AWP.drT [(3,.bool h27),(6,.idxV (idxn_lt h29)),(7,.ldV Zb (s:=1) (fun _=>rfl) s0 (idxn_idx h29) (0 + Int.toNat v9 * 1) (Nat.zero_add _) []),(10,.idxV (idxn_lt h31)),(11,.ldV Zb (s:=1) (fun _=>rfl) s0 (idxn_idx h31) (0 + Int.toNat a2 * 1) (Nat.zero_add _) []),(12,.call Tryz.func166 [] (Zaq x28 x30 r32 h33))] 14 [] [] []
   refine AWP.cif hF (fun h38 hF=>?_) (fun h38 hF=>?_)
   ·refine AWP.skip ?_
    refine AWP.block ?_
    refine AWP.rg0 [] [(0,(.vw 0 0 a0)),(1,(i64 a2)),(10,(i64 (IntKind.wrap .i64 (v9 + (1:Int))))),(11,(i64 (IntKind.wrap .i64 (a3 - (1:Int)))))] ?_
    refine LeQ.start ?_
    refine LeQ.pk [0,1,10,11] 1 ?_
    exact ⟨n25,Nat.lt_succ_self _,(IntKind.wrap .i64 (v9 + (1:Int))),hF,by kernel_rfl,by kernel_rfl⟩
   ·refine AWP.exit ?_
    refine LeQ.start ?_
    refine LeQ.pk [0,1,10,11] 1 ?_
    have hr:=someb hF
    subst hr
    exact ⟨rfl,by kernel_rfl,by kernel_rfl⟩
 ·rintro _ _ _ ⟨rfl,rfl,rfl⟩
  refine AWP.seq ?_
  obtain ⟨v53,h54,hF⟩:=bindb hF
  refine AWP.mid (fun e st H=>e=.normal∧st=[(0,(.vw 0 0 a0)),(1,(i64 a2)),(10,(i64 v23)),(11,(i64 v53))]∧H=[.cells (cel Zb (List.set (List.set a1 (Int.toNat a2) x1) (Int.toNat a4) x3) s0)]) ?_ ?_
  ·clear hF
   refine AWP.kp [0,1,10,11] 1 ?_
   refine AWP.bround (fun n st H=>∃ (v39:Int),Zaw a0 a1 a2 a4 x1 x3 v23 n v39=some v53∧st=[(0,(.vw 0 0 a0)),(1,(i64 a2)),(10,(i64 v23)),(11,(i64 v39))]∧H=[.cells (cel Zb (List.set (List.set a1 (Int.toNat a2) x1) (Int.toNat a4) x3) s0)]) fuel ⟨(IntKind.wrap .i64 (a3 - (1:Int))),h54,by kernel_rfl,by kernel_rfl⟩ ?_
   rintro n55 st H ⟨v39,hF,rfl,rfl⟩
   cases n55 with
   | zero=>exact noneb hF
   | succ n55=>
    rw [Zaw] at hF
    refine AWP.seq ?_
    refine AWP.seq ?_
    obtain ⟨b56,h57,hF⟩:=bindb hF
    replace h57:=someb h57
    obtain ⟨v64,h65,hF⟩:=bindb hF
    refine AWP.to [(0,(.vw 0 0 a0)),(1,(i64 a2)),(10,(i64 v23)),(11,(i64 v39)),(60,(vb v64))] [.cells (cel Zb (List.set (List.set a1 (Int.toNat a2) x1) (Int.toNat a4) x3) s0)] ?_ ?_
    ·cases b56 with
     | false=>
      have h66:=someb (ifF h65 rfl)
      subst h66
      exact AWP.drT [(3,.bool h57)] 15 [] [] []
     | true=>
      have h67:=ifT h65 rfl
      obtain ⟨x58,h59,h67⟩:=bindb h67
      obtain ⟨x60,h61,h67⟩:=bindb h67
      obtain ⟨r62,h63,h67⟩:=bindb h67
      replace h67:=someb h67
      subst h67
      exact AWP.drT [(3,.bool h57),(6,.idxV (idxn_lt h59)),(7,.ldV Zb (s:=1) (fun _=>rfl) s0 (idxn_idx h59) (0 + Int.toNat v39 * 1) (Nat.zero_add _) []),(10,.idxV (idxn_lt h61)),(11,.ldV Zb (s:=1) (fun _=>rfl) s0 (idxn_idx h61) (0 + Int.toNat a2 * 1) (Nat.zero_add _) []),(12,.call Tryz.func166 [] (Zaq x58 x60 r62 h63))] 15 [] [] []
    refine AWP.cif hF (fun h68 hF=>?_) (fun h68 hF=>?_)
    ·refine AWP.skip ?_
     refine AWP.block ?_
     refine AWP.rg0 [] [(0,(.vw 0 0 a0)),(1,(i64 a2)),(10,(i64 v23)),(11,(i64 (IntKind.wrap .i64 (v39 - (1:Int)))))] ?_
     refine LeQ.start ?_
     refine LeQ.pk [0,1,10,11] 1 ?_
     exact ⟨n55,Nat.lt_succ_self _,(IntKind.wrap .i64 (v39 - (1:Int))),hF,by kernel_rfl,by kernel_rfl⟩
    ·refine AWP.exit ?_
     refine LeQ.start ?_
     refine LeQ.pk [0,1,10,11] 1 ?_
     have hr:=someb hF
     subst hr
     exact ⟨rfl,by kernel_rfl,by kernel_rfl⟩
  ·rintro _ _ _ ⟨rfl,rfl,rfl⟩
   refine AWP.seq ?_
   refine .seq (.rg0 [] [(0,(.vw 0 0 a0)),(1,(i64 a2)),(10,(i64 v23)),(11,(i64 v53)),(65,(vb (decide (v23 > v53))))] ?_)
   refine AWP.cif hF (fun h310 hF=>?_) (fun h310 hF=>?_)
   ·refine AWP.seq ?_
    obtain ⟨x69,h70,hF⟩:=bindb hF
    obtain ⟨x71,h72,hF⟩:=bindb hF
    obtain ⟨x73,h74,hF⟩:=bindb hF
    obtain ⟨x75,h76,hF⟩:=bindb hF
    refine AWP.dr [(6,.idxV (idxn_lt h70)),(7,.ldV Zb (s:=1) (fun _=>rfl) s0 (idxn_idx h70) (0 + Int.toNat a2 * 1) (Nat.zero_add _) []),(10,.idxV (idxn_lt h72)),(11,.ldV Zb (s:=1) (fun _=>rfl) s0 (idxn_idx h72) (0 + Int.toNat v53 * 1) (Nat.zero_add _) []),(12,.idxV (idxn_lt h74)),(13,.stV Zb (s:=1) (fun _=>rfl) s0 (idxn_idx h74) x69 (0 + Int.toNat v53 * 1) (Nat.zero_add _) []),(14,.idxV (idxn_lt h76)),(15,.stV Zb (s:=1) (fun _=>rfl) s0 (idxn_idx h76) x71 (0 + Int.toNat a2 * 1) (Nat.zero_add _) [])] 14 [] [13] [] [(11,(i64 v53))] [.cells (cel Zb (List.set (List.set (List.set (List.set a1 (Int.toNat a2) x1) (Int.toNat a4) x3) (Int.toNat v53) x69) (Int.toNat a2) x71) s0)] ?_
    refine .seq (.rg0 [] [(8,(i64 v53)),(9,(vb true))] ?_)
    refine AWP.ret ?_
    have hr:=someb hF
    subst hr
    exact (FnQ.f0 1 (.inr rfl))
   ·refine AWP.skip ?_
    refine AWP.seq ?_
    obtain ⟨x77,h78,hF⟩:=bindb hF
    obtain ⟨x79,h80,hF⟩:=bindb hF
    obtain ⟨x81,h82,hF⟩:=bindb hF
    obtain ⟨x83,h84,hF⟩:=bindb hF
    refine AWP.dr [(6,.idxV (idxn_lt h78)),(7,.ldV Zb (s:=1) (fun _=>rfl) s0 (idxn_idx h78) (0 + Int.toNat v53 * 1) (Nat.zero_add _) []),(10,.idxV (idxn_lt h80)),(11,.ldV Zb (s:=1) (fun _=>rfl) s0 (idxn_idx h80) (0 + Int.toNat v23 * 1) (Nat.zero_add _) []),(12,.idxV (idxn_lt h82)),(13,.stV Zb (s:=1) (fun _=>rfl) s0 (idxn_idx h82) x77 (0 + Int.toNat v23 * 1) (Nat.zero_add _) []),(14,.idxV (idxn_lt h84)),(15,.stV Zb (s:=1) (fun _=>rfl) s0 (idxn_idx h84) x79 (0 + Int.toNat v53 * 1) (Nat.zero_add _) [])] 14 [] [13] [] [(0,(.vw 0 0 a0)),(1,(i64 a2)),(10,(i64 v23)),(11,(i64 v53))] [.cells (cel Zb (List.set (List.set (List.set (List.set a1 (Int.toNat a2) x1) (Int.toNat a4) x3) (Int.toNat v23) x77) (Int.toNat v53) x79) s0)] ?_
    refine .seq (.rg0 [] [(0,(.vw 0 0 a0)),(1,(i64 a2)),(10,(i64 (IntKind.wrap .i64 (v23 + (1:Int))))),(11,(i64 v53))] ?_)
    refine .seq (.rg0 [] [(0,(.vw 0 0 a0)),(1,(i64 a2)),(10,(i64 (IntKind.wrap .i64 (v23 + (1:Int))))),(11,(i64 (IntKind.wrap .i64 (v53 - (1:Int)))))] ?_)
    refine AWP.seq ?_
    obtain ⟨o230,h231,hF⟩:=bindb hF
    refine AWP.mid (fun e st H=>(e=.normal∧∃ (v228:(List Int)),∃ (v229:Int),o230=(v228,v229)∧st=[(0,(.vw 0 0 a0)),(1,(i64 a2)),(11,(i64 v229))]∧H=[.cells (cel Zb v228 s0)])) ?_ ?_
    ·clear hF
     refine AWP.kp [0,1,10,11] 1 ?_
     refine AWP.bround (fun n st H=>∃ (v156:(List Int)),∃ (v157:Int),∃ (v158:Int),Zag a0 a2 n v156 v157 v158=some o230∧st=[(0,(.vw 0 0 a0)),(1,(i64 a2)),(10,(i64 v157)),(11,(i64 v158))]∧H=[.cells (cel Zb v156 s0)]) fuel ⟨(List.set (List.set (List.set (List.set a1 (Int.toNat a2) x1) (Int.toNat a4) x3) (Int.toNat v23) x77) (Int.toNat v53) x79),(IntKind.wrap .i64 (v23 + (1:Int))),(IntKind.wrap .i64 (v53 - (1:Int))),h231,by kernel_rfl,by kernel_rfl⟩ ?_
     rintro n232 st H ⟨v156,v157,v158,hF,rfl,rfl⟩
     cases n232 with
     | zero=>exact noneb hF
     | succ n232=>
      rw [Zag] at hF
      refine AWP.block ?_
      refine AWP.seq ?_
      obtain ⟨v247,h248,hF⟩:=bindb hF
      refine AWP.mid (fun e st H=>e=.normal∧st=[(0,(.vw 0 0 a0)),(1,(i64 a2)),(10,(i64 v247)),(11,(i64 v158))]∧H=[.cells (cel Zb v156 s0)]) ?_ ?_
      ·clear hF
       refine AWP.kp [0,1,10,11] 1 ?_
       refine AWP.bround (fun n st H=>∃ (v233:Int),Zax a0 a2 v156 v158 n v233=some v247∧st=[(0,(.vw 0 0 a0)),(1,(i64 a2)),(10,(i64 v233)),(11,(i64 v158))]∧H=[.cells (cel Zb v156 s0)]) fuel ⟨v157,h248,by kernel_rfl,by kernel_rfl⟩ ?_
       rintro n249 st H ⟨v233,hF,rfl,rfl⟩
       cases n249 with
       | zero=>exact noneb hF
       | succ n249=>
        rw [Zax] at hF
        refine AWP.seq ?_
        refine AWP.seq ?_
        obtain ⟨b250,h251,hF⟩:=bindb hF
        replace h251:=someb h251
        obtain ⟨v258,h259,hF⟩:=bindb hF
        refine AWP.to [(0,(.vw 0 0 a0)),(1,(i64 a2)),(10,(i64 v233)),(11,(i64 v158)),(112,(vb v258))] [.cells (cel Zb v156 s0)] ?_ ?_
        ·cases b250 with
         | false=>
          have h260:=someb (ifF h259 rfl)
          subst h260
          exact AWP.drT [(3,.bool h251)] 14 [] [] []
         | true=>
          have h261:=ifT h259 rfl
          obtain ⟨x252,h253,h261⟩:=bindb h261
          obtain ⟨x254,h255,h261⟩:=bindb h261
          obtain ⟨r256,h257,h261⟩:=bindb h261
          replace h261:=someb h261
          subst h261
          exact AWP.drT [(3,.bool h251),(6,.idxV (idxn_lt h253)),(7,.ldV Zb (s:=1) (fun _=>rfl) s0 (idxn_idx h253) (0 + Int.toNat v233 * 1) (Nat.zero_add _) []),(10,.idxV (idxn_lt h255)),(11,.ldV Zb (s:=1) (fun _=>rfl) s0 (idxn_idx h255) (0 + Int.toNat a2 * 1) (Nat.zero_add _) []),(12,.call Tryz.func166 [] (Zaq x252 x254 r256 h257))] 14 [] [] []
        refine AWP.cif hF (fun h262 hF=>?_) (fun h262 hF=>?_)
        ·refine AWP.skip ?_
         refine AWP.block ?_
         refine AWP.rg0 [] [(0,(.vw 0 0 a0)),(1,(i64 a2)),(10,(i64 (IntKind.wrap .i64 (v233 + (1:Int))))),(11,(i64 v158))] ?_
         refine LeQ.start ?_
         refine LeQ.pk [0,1,10,11] 1 ?_
         exact ⟨n249,Nat.lt_succ_self _,(IntKind.wrap .i64 (v233 + (1:Int))),hF,by kernel_rfl,by kernel_rfl⟩
        ·refine AWP.exit ?_
         refine LeQ.start ?_
         refine LeQ.pk [0,1,10,11] 1 ?_
         have hr:=someb hF
         subst hr
         exact ⟨rfl,by kernel_rfl,by kernel_rfl⟩
      ·rintro _ _ _ ⟨rfl,rfl,rfl⟩
       refine AWP.seq ?_
       obtain ⟨v277,h278,hF⟩:=bindb hF
       refine AWP.mid (fun e st H=>e=.normal∧st=[(0,(.vw 0 0 a0)),(1,(i64 a2)),(10,(i64 v247)),(11,(i64 v277))]∧H=[.cells (cel Zb v156 s0)]) ?_ ?_
       ·clear hF
        refine AWP.kp [0,1,10,11] 1 ?_
        refine AWP.bround (fun n st H=>∃ (v263:Int),Zay a0 a2 v156 v247 n v263=some v277∧st=[(0,(.vw 0 0 a0)),(1,(i64 a2)),(10,(i64 v247)),(11,(i64 v263))]∧H=[.cells (cel Zb v156 s0)]) fuel ⟨v158,h278,by kernel_rfl,by kernel_rfl⟩ ?_
        rintro n279 st H ⟨v263,hF,rfl,rfl⟩
        cases n279 with
        | zero=>exact noneb hF
        | succ n279=>
         rw [Zay] at hF
         refine AWP.seq ?_
         refine AWP.seq ?_
         obtain ⟨b280,h281,hF⟩:=bindb hF
         replace h281:=someb h281
         obtain ⟨v288,h289,hF⟩:=bindb hF
         refine AWP.to [(0,(.vw 0 0 a0)),(1,(i64 a2)),(10,(i64 v247)),(11,(i64 v263)),(129,(vb v288))] [.cells (cel Zb v156 s0)] ?_ ?_
         ·cases b280 with
          | false=>
           have h290:=someb (ifF h289 rfl)
           subst h290
           exact AWP.drT [(3,.bool h281)] 15 [] [] []
          | true=>
           have h291:=ifT h289 rfl
           obtain ⟨x282,h283,h291⟩:=bindb h291
           obtain ⟨x284,h285,h291⟩:=bindb h291
           obtain ⟨r286,h287,h291⟩:=bindb h291
           replace h291:=someb h291
           subst h291
           exact AWP.drT [(3,.bool h281),(6,.idxV (idxn_lt h283)),(7,.ldV Zb (s:=1) (fun _=>rfl) s0 (idxn_idx h283) (0 + Int.toNat v263 * 1) (Nat.zero_add _) []),(10,.idxV (idxn_lt h285)),(11,.ldV Zb (s:=1) (fun _=>rfl) s0 (idxn_idx h285) (0 + Int.toNat a2 * 1) (Nat.zero_add _) []),(12,.call Tryz.func166 [] (Zaq x282 x284 r286 h287))] 15 [] [] []
         refine AWP.cif hF (fun h292 hF=>?_) (fun h292 hF=>?_)
         ·refine AWP.skip ?_
          refine AWP.block ?_
          refine AWP.rg0 [] [(0,(.vw 0 0 a0)),(1,(i64 a2)),(10,(i64 v247)),(11,(i64 (IntKind.wrap .i64 (v263 - (1:Int)))))] ?_
          refine LeQ.start ?_
          refine LeQ.pk [0,1,10,11] 1 ?_
          exact ⟨n279,Nat.lt_succ_self _,(IntKind.wrap .i64 (v263 - (1:Int))),hF,by kernel_rfl,by kernel_rfl⟩
         ·refine AWP.exit ?_
          refine LeQ.start ?_
          refine LeQ.pk [0,1,10,11] 1 ?_
          have hr:=someb hF
          subst hr
          exact ⟨rfl,by kernel_rfl,by kernel_rfl⟩
       ·rintro _ _ _ ⟨rfl,rfl,rfl⟩
        refine AWP.seq ?_
        refine .seq (.rg0 [] [(0,(.vw 0 0 a0)),(1,(i64 a2)),(10,(i64 v247)),(11,(i64 v277)),(134,(vb (decide (v247 > v277))))] ?_)
        refine AWP.cif hF (fun h301 hF=>?_) (fun h301 hF=>?_)
        ·refine AWP.exit ?_
         refine LeQ.start ?_
         refine LeQ.pk [0,1,11] 1 ?_
         exact ⟨rfl,v156,v277,(someb hF).symm,by kernel_rfl,by kernel_rfl⟩
        ·refine AWP.skip ?_
         refine AWP.seq ?_
         obtain ⟨x293,h294,hF⟩:=bindb hF
         obtain ⟨x295,h296,hF⟩:=bindb hF
         obtain ⟨x297,h298,hF⟩:=bindb hF
         obtain ⟨x299,h300,hF⟩:=bindb hF
         refine AWP.dr [(6,.idxV (idxn_lt h294)),(7,.ldV Zb (s:=1) (fun _=>rfl) s0 (idxn_idx h294) (0 + Int.toNat v277 * 1) (Nat.zero_add _) []),(10,.idxV (idxn_lt h296)),(11,.ldV Zb (s:=1) (fun _=>rfl) s0 (idxn_idx h296) (0 + Int.toNat v247 * 1) (Nat.zero_add _) []),(12,.idxV (idxn_lt h298)),(13,.stV Zb (s:=1) (fun _=>rfl) s0 (idxn_idx h298) x293 (0 + Int.toNat v247 * 1) (Nat.zero_add _) []),(14,.idxV (idxn_lt h300)),(15,.stV Zb (s:=1) (fun _=>rfl) s0 (idxn_idx h300) x295 (0 + Int.toNat v277 * 1) (Nat.zero_add _) [])] 14 [] [13] [] [(0,(.vw 0 0 a0)),(1,(i64 a2)),(10,(i64 v247)),(11,(i64 v277))] [.cells (cel Zb (List.set (List.set v156 (Int.toNat v247) x293) (Int.toNat v277) x295) s0)] ?_
         refine .seq (.rg0 [] [(0,(.vw 0 0 a0)),(1,(i64 a2)),(10,(i64 (IntKind.wrap .i64 (v247 + (1:Int))))),(11,(i64 v277))] ?_)
         refine AWP.rg0 [] [(0,(.vw 0 0 a0)),(1,(i64 a2)),(10,(i64 (IntKind.wrap .i64 (v247 + (1:Int))))),(11,(i64 (IntKind.wrap .i64 (v277 - (1:Int)))))] ?_
         refine LeQ.start ?_
         refine LeQ.pk [0,1,10,11] 1 ?_
         exact ⟨n232,Nat.lt_succ_self _,(List.set (List.set v156 (Int.toNat v247) x293) (Int.toNat v277) x295),(IntKind.wrap .i64 (v247 + (1:Int))),(IntKind.wrap .i64 (v277 - (1:Int))),hF,by kernel_rfl,by kernel_rfl⟩
    ·rintro _ _ _ ⟨rfl,v228,v229,rfl,rfl,rfl⟩
     refine AWP.seq ?_
     obtain ⟨x302,h303,hF⟩:=bindb hF
     obtain ⟨x304,h305,hF⟩:=bindb hF
     obtain ⟨x306,h307,hF⟩:=bindb hF
     obtain ⟨x308,h309,hF⟩:=bindb hF
     refine AWP.dr [(6,.idxV (idxn_lt h303)),(7,.ldV Zb (s:=1) (fun _=>rfl) s0 (idxn_idx h303) (0 + Int.toNat a2 * 1) (Nat.zero_add _) []),(10,.idxV (idxn_lt h305)),(11,.ldV Zb (s:=1) (fun _=>rfl) s0 (idxn_idx h305) (0 + Int.toNat v229 * 1) (Nat.zero_add _) []),(12,.idxV (idxn_lt h307)),(13,.stV Zb (s:=1) (fun _=>rfl) s0 (idxn_idx h307) x302 (0 + Int.toNat v229 * 1) (Nat.zero_add _) []),(14,.idxV (idxn_lt h309)),(15,.stV Zb (s:=1) (fun _=>rfl) s0 (idxn_idx h309) x304 (0 + Int.toNat a2 * 1) (Nat.zero_add _) [])] 14 [] [13] [] [(11,(i64 v229))] [.cells (cel Zb (List.set (List.set v228 (Int.toNat v229) x302) (Int.toNat a2) x304) s0)] ?_
     refine .seq (.rg0 [] [(8,(i64 v229)),(9,(vb false))] ?_)
     refine AWP.ret ?_
     have hr:=someb hF
     subst hr
     exact (FnQ.f0 1 (.inr rfl))
def Zdm (s0:List Value) (r:(List Int)):PV→List Blk→Prop:=fun p K=>p=(.tup [])∧K=[.cells (cel Zb r s0)]
abbrev Ze4 (s0:List Value) (r:(List Int)):Exit→St→List Blk→Prop:=FnQ Tryz.prog Tryz.f157.results 1 (Zdm s0 r)
theorem Zgh:∀ (nr:Nat) (a0:Nat) (a1:(List Int)) (s0:List Value) (a2:Int) (a3:Int) (a4:Int) (r:(List Int)) (hF:Zq nr a0 a1 a2 a3 a4=some r),ACall Tryz.prog glob 157 [(.vw 0 0 a0),(i64 a2),(i64 a3),(i64 a4)] [.cells (cel Zb a1 s0)] (Zdm s0 r):=by
 intro nr
 induction nr with
 | zero=>intro a0 a1 s0 a2 a3 a4 r hF; exact noneb (by rw [Zq] at hF; exact hF)
 | succ nr ih=>
  intro a0 a1 s0 a2 a3 a4 r hF
  refine ACall.body Tryz.func157 rfl (by kernel_rfl) ?_
  rw [Zq] at hF
  refine .seq (.rg0 [] [(0,(.vw 0 0 a0)),(1,(i64 a2)),(2,(i64 a3)),(3,(i64 a4)),(8,(vb true))] ?_)
  refine .seq (.rg0 [] [(0,(.vw 0 0 a0)),(1,(i64 a2)),(2,(i64 a3)),(3,(i64 a4)),(8,(vb true)),(9,(vb true))] ?_)
  obtain ⟨o154,h155,hF⟩:=bindb hF
  refine AWP.mid (fun e st H=>(e=.ret∧∃ (r:(List Int)),o154=r∧Ze4 s0 r e st H)) ?_ ?_
  ·clear hF
   refine AWP.kp [0,1,2,3,8,9] 1 ?_
   refine AWP.bround (fun n st H=>∃ (v77:(List Int)),∃ (v78:Int),∃ (v79:Int),∃ (v80:Int),∃ (v81:Bool),∃ (v82:Bool),Zab a0 (Zq nr) n v77 v78 v79 v80 v81 v82=some o154∧st=[(0,(.vw 0 0 a0)),(1,(i64 v78)),(2,(i64 v79)),(3,(i64 v80)),(8,(vb v81)),(9,(vb v82))]∧H=[.cells (cel Zb v77 s0)]) fuel ⟨a1,a2,a3,a4,true,true,h155,by kernel_rfl,by kernel_rfl⟩ ?_
   rintro n156 st H ⟨v77,v78,v79,v80,v81,v82,hF,rfl,rfl⟩
   cases n156 with
   | zero=>exact noneb hF
   | succ n156=>
    rw [Zab] at hF
    refine AWP.block ?_
    refine .seq (.rg0 [] [(0,(.vw 0 0 a0)),(1,(i64 v78)),(2,(i64 v79)),(3,(i64 v80)),(8,(vb v81)),(9,(vb v82)),(10,(i64 (IntKind.wrap .i64 (v79 - v78))))] ?_)
    refine AWP.seq ?_
    refine .seq (.rg0 [] [(0,(.vw 0 0 a0)),(1,(i64 v78)),(2,(i64 v79)),(3,(i64 v80)),(8,(vb v81)),(9,(vb v82)),(10,(i64 (IntKind.wrap .i64 (v79 - v78)))),(23,(vb (decide ((IntKind.wrap .i64 (v79 - v78))≤(12:Int)))))] ?_)
    refine AWP.cif hF (fun h227 hF=>?_) (fun h227 hF=>?_)
    ·refine AWP.seq ?_
     obtain ⟨r157,h158,hF⟩:=bindb hF
     refine AWP.rg [(3,.callC Tryz.func160 [] (closedH.c (cel_closed (row:=Zb) (fun _=>rfl) v77 s0) closedH.n) (closedH.c (cel_closed (row:=Zb) (fun _=>rfl) r157 s0) closedH.n) (Zfu a0 v77 s0 v78 v79 r157 h158))] [] [.cells (cel Zb r157 s0)] ?_
     refine AWP.ret ?_
     exact LeQ.of ⟨rfl,r157,(someb hF).symm,(FnQ.f0 1 (.inr rfl))⟩
    ·refine AWP.skip ?_
     refine AWP.seq ?_
     refine .seq (.rg0 [] [(0,(.vw 0 0 a0)),(1,(i64 v78)),(2,(i64 v79)),(3,(i64 v80)),(8,(vb v81)),(9,(vb v82)),(10,(i64 (IntKind.wrap .i64 (v79 - v78)))),(29,(vb (v80 == (0:Int))))] ?_)
     refine AWP.cif hF (fun h226 hF=>?_) (fun h226 hF=>?_)
     ·refine AWP.seq ?_
      obtain ⟨r159,h160,hF⟩:=bindb hF
      refine AWP.rg [(3,.callC Tryz.func161 [] (closedH.c (cel_closed (row:=Zb) (fun _=>rfl) v77 s0) closedH.n) (closedH.c (cel_closed (row:=Zb) (fun _=>rfl) r159 s0) closedH.n) (Zgo a0 v77 s0 v78 v79 r159 h160))] [] [.cells (cel Zb r159 s0)] ?_
      refine AWP.ret ?_
      exact LeQ.of ⟨rfl,r159,(someb hF).symm,(FnQ.f0 1 (.inr rfl))⟩
     ·refine AWP.skip ?_
      obtain ⟨o166,h167,hF⟩:=bindb hF
      refine AWP.seq ?_
      refine AWP.mid (fun e st H=>(e=.normal∧∃ (v164:(List Int)),∃ (v165:Int),o166=(v164,v165)∧st=[(0,(.vw 0 0 a0)),(1,(i64 v78)),(2,(i64 v79)),(3,(i64 v165)),(8,(vb v81)),(9,(vb v82)),(10,(i64 (IntKind.wrap .i64 (v79 - v78))))]∧H=[.cells (cel Zb v164 s0)])) ?_ ?_
      ·clear hF
       have hF:=h167
       refine .seq (.rg0 [] [(0,(.vw 0 0 a0)),(1,(i64 v78)),(2,(i64 v79)),(3,(i64 v80)),(8,(vb v81)),(9,(vb v82)),(10,(i64 (IntKind.wrap .i64 (v79 - v78)))),(35,(vb (!v81)))] ?_)
       refine AWP.cif hF (fun h170 hF=>?_) (fun h170 hF=>?_)
       ·refine AWP.seq ?_
        obtain ⟨r168,h169,hF⟩:=bindb hF
        refine AWP.rg [(3,.callC Tryz.func162 [] (closedH.c (cel_closed (row:=Zb) (fun _=>rfl) v77 s0) closedH.n) (closedH.c (cel_closed (row:=Zb) (fun _=>rfl) r168 s0) closedH.n) (Zfw a0 v77 s0 v78 v79 r168 h169))] [(0,(.vw 0 0 a0)),(1,(i64 v78)),(2,(i64 v79)),(3,(i64 v80)),(8,(vb v81)),(9,(vb v82)),(10,(i64 (IntKind.wrap .i64 (v79 - v78))))] [.cells (cel Zb r168 s0)] ?_
        refine AWP.rg0 [] [(0,(.vw 0 0 a0)),(1,(i64 v78)),(2,(i64 v79)),(3,(i64 (IntKind.wrap .i64 (v80 - (1:Int))))),(8,(vb v81)),(9,(vb v82)),(10,(i64 (IntKind.wrap .i64 (v79 - v78))))] ?_
        refine LeQ.start ?_
        refine LeQ.pk [0,1,2,3,8,9,10] 1 ?_
        exact ⟨rfl,r168,(IntKind.wrap .i64 (v80 - (1:Int))),(someb hF).symm,by kernel_rfl,by kernel_rfl⟩
       ·refine AWP.skip ?_
        refine LeQ.start ?_
        refine LeQ.pk [0,1,2,3,8,9,10] 1 ?_
        exact ⟨rfl,v77,v80,(someb hF).symm,by kernel_rfl,by kernel_rfl⟩
      ·rintro _ _ _ ⟨rfl,v164,v165,rfl,rfl,rfl⟩
       refine AWP.seq ?_
       obtain ⟨r171,h172,hF⟩:=bindb hF
       refine AWP.rg0 [(3,.callC Tryz.func163 [] (closedH.c (cel_closed (row:=Zb) (fun _=>rfl) v164 s0) closedH.n) (closedH.c (cel_closed (row:=Zb) (fun _=>rfl) v164 s0) closedH.n) (Zf7 a0 v164 s0 v78 v79 r171 h172))] [(0,(.vw 0 0 a0)),(1,(i64 v78)),(2,(i64 v79)),(3,(i64 v165)),(8,(vb v81)),(9,(vb v82)),(10,(i64 (IntKind.wrap .i64 (v79 - v78)))),(11,(i64 r171.1)),(12,(i64 r171.2))] ?_
       obtain ⟨o179,h180,hF⟩:=bindb hF
       refine AWP.seq ?_
       refine AWP.mid (fun e st H=>(e=.normal∧∃ (v176:(List Int)),∃ (v177:Int),∃ (v178:Int),o179=(v176,v177,v178)∧st=[(0,(.vw 0 0 a0)),(1,(i64 v78)),(2,(i64 v79)),(3,(i64 v165)),(8,(vb v81)),(9,(vb v82)),(10,(i64 (IntKind.wrap .i64 (v79 - v78)))),(11,(i64 v177)),(12,(i64 v178))]∧H=[.cells (cel Zb v176 s0)])) ?_ ?_
       ·clear hF
        have hF:=h180
        refine .seq (.rg0 [] [(0,(.vw 0 0 a0)),(1,(i64 v78)),(2,(i64 v79)),(3,(i64 v165)),(8,(vb v81)),(9,(vb v82)),(10,(i64 (IntKind.wrap .i64 (v79 - v78)))),(11,(i64 r171.1)),(12,(i64 r171.2)),(50,(vb (r171.2 == (2:Int))))] ?_)
        refine AWP.cif hF (fun h183 hF=>?_) (fun h183 hF=>?_)
        ·refine AWP.seq ?_
         obtain ⟨r181,h182,hF⟩:=bindb hF
         refine AWP.rg [(3,.callC Tryz.func164 [] (closedH.c (cel_closed (row:=Zb) (fun _=>rfl) v164 s0) closedH.n) (closedH.c (cel_closed (row:=Zb) (fun _=>rfl) r181 s0) closedH.n) (Zf2 a0 v164 s0 v78 v79 r181 h182))] [(0,(.vw 0 0 a0)),(1,(i64 v78)),(2,(i64 v79)),(3,(i64 v165)),(8,(vb v81)),(9,(vb v82)),(10,(i64 (IntKind.wrap .i64 (v79 - v78)))),(11,(i64 r171.1))] [.cells (cel Zb r181 s0)] ?_
         refine .seq (.rg0 [] [(0,(.vw 0 0 a0)),(1,(i64 v78)),(2,(i64 v79)),(3,(i64 v165)),(8,(vb v81)),(9,(vb v82)),(10,(i64 (IntKind.wrap .i64 (v79 - v78)))),(11,(i64 (IntKind.wrap .i64 ((IntKind.wrap .i64 (v79 - (1:Int))) - (IntKind.wrap .i64 (r171.1 - v78))))))] ?_)
         refine AWP.rg0 [] [(0,(.vw 0 0 a0)),(1,(i64 v78)),(2,(i64 v79)),(3,(i64 v165)),(8,(vb v81)),(9,(vb v82)),(10,(i64 (IntKind.wrap .i64 (v79 - v78)))),(11,(i64 (IntKind.wrap .i64 ((IntKind.wrap .i64 (v79 - (1:Int))) - (IntKind.wrap .i64 (r171.1 - v78)))))),(12,(i64 (1:Int)))] ?_
         refine LeQ.start ?_
         refine LeQ.pk [0,1,2,3,8,9,10,11,12] 1 ?_
         exact ⟨rfl,r181,(IntKind.wrap .i64 ((IntKind.wrap .i64 (v79 - (1:Int))) - (IntKind.wrap .i64 (r171.1 - v78)))),(1:Int),(someb hF).symm,by kernel_rfl,by kernel_rfl⟩
        ·refine AWP.skip ?_
         refine LeQ.start ?_
         refine LeQ.pk [0,1,2,3,8,9,10,11,12] 1 ?_
         exact ⟨rfl,v164,r171.1,r171.2,(someb hF).symm,by kernel_rfl,by kernel_rfl⟩
       ·rintro _ _ _ ⟨rfl,v176,v177,v178,rfl,rfl,rfl⟩
        obtain ⟨o193,h194,hF⟩:=bindb hF
        refine AWP.seq ?_
        refine AWP.mid (fun e st H=>(e=.normal∧∃ (v192:(List Int)),o193=(.inl v192)∧st=[(0,(.vw 0 0 a0)),(1,(i64 v78)),(2,(i64 v79)),(3,(i64 v165)),(8,(vb v81)),(9,(vb v82)),(10,(i64 (IntKind.wrap .i64 (v79 - v78)))),(11,(i64 v177))]∧H=[.cells (cel Zb v192 s0)])∨(e=.ret∧∃ (r:(List Int)),o193=(.inr r)∧Ze4 s0 r e st H)) ?_ ?_
        ·clear hF
         have hF:=h194
         refine AWP.seq ?_
         obtain ⟨b195,h196,hF⟩:=bindb hF
         replace h196:=someb h196
         obtain ⟨b197,h198,hF⟩:=bindb hF
         replace h198:=someb h198
         refine AWP.to [(0,(.vw 0 0 a0)),(1,(i64 v78)),(2,(i64 v79)),(3,(i64 v165)),(8,(vb v81)),(9,(vb v82)),(10,(i64 (IntKind.wrap .i64 (v79 - v78)))),(11,(i64 v177)),(68,(vb (b197 && (v178 == (1:Int)))))] [.cells (cel Zb v176 s0)] ?_ ?_
         ·cases b195 with
          | false=>
           subst h198
           exact AWP.rgT [(1,.bool h196)]
          | true=>
           cases b197 with
           | false=>
            exact AWP.rgT [(1,.bool h196),(4,.bool h198)]
           | true=>
            exact AWP.rgT [(1,.bool h196),(4,.bool h198)]
         refine AWP.cif hF (fun h202 hF=>?_) (fun h202 hF=>?_)
         ·refine AWP.seq ?_
          obtain ⟨r199,h200,hF⟩:=bindb hF
          refine AWP.rg [(3,.callC Tryz.func165 [] (closedH.c (cel_closed (row:=Zb) (fun _=>rfl) v176 s0) closedH.n) (closedH.c (cel_closed (row:=Zb) (fun _=>rfl) r199.2 s0) closedH.n) (Ze9 a0 v176 s0 v78 v79 r199 h200))] [(0,(.vw 0 0 a0)),(1,(i64 v78)),(2,(i64 v79)),(3,(i64 v165)),(8,(vb v81)),(9,(vb v82)),(10,(i64 (IntKind.wrap .i64 (v79 - v78)))),(11,(i64 v177)),(72,(vb r199.1))] [.cells (cel Zb r199.2 s0)] ?_
          refine AWP.cif hF (fun h201 hF=>?_) (fun h201 hF=>?_)
          ·refine AWP.ret ?_
           exact LeQ.of (.inr ⟨rfl,r199.2,(someb hF).symm,(FnQ.f0 1 (.inr rfl))⟩)
          ·refine AWP.skip ?_
           refine LeQ.start ?_
           refine LeQ.pk [0,1,2,3,8,9,10,11] 1 ?_
           exact (.inl ⟨rfl,r199.2,(someb hF).symm,by kernel_rfl,by kernel_rfl⟩)
         ·refine AWP.skip ?_
          refine LeQ.start ?_
          refine LeQ.pk [0,1,2,3,8,9,10,11] 1 ?_
          exact (.inl ⟨rfl,v176,(someb hF).symm,by kernel_rfl,by kernel_rfl⟩)
        ·rintro _ _ _ (⟨rfl,v192,rfl,rfl,rfl⟩ | ⟨rfl,r225,rfl,hq⟩)
         ·refine AWP.seq ?_
          refine AWP.seq ?_
          obtain ⟨b203,h204,hF⟩:=bindb hF
          replace h204:=someb h204
          obtain ⟨v211,h212,hF⟩:=bindb hF
          refine AWP.to [(0,(.vw 0 0 a0)),(1,(i64 v78)),(2,(i64 v79)),(3,(i64 v165)),(8,(vb v81)),(9,(vb v82)),(10,(i64 (IntKind.wrap .i64 (v79 - v78)))),(11,(i64 v177)),(87,(vb v211))] [.cells (cel Zb v192 s0)] ?_ ?_
          ·cases b203 with
           | false=>
            have h213:=someb (ifF h212 rfl)
            subst h213
            exact AWP.drT [(2,.bool h204)] 15 [] [] []
           | true=>
            have h214:=ifT h212 rfl
            obtain ⟨x205,h206,h214⟩:=bindb h214
            obtain ⟨x207,h208,h214⟩:=bindb h214
            obtain ⟨r209,h210,h214⟩:=bindb h214
            replace h214:=someb h214
            subst h214
            exact AWP.drT [(2,.bool h204),(6,.idxV (idxn_lt h206)),(7,.ldV Zb (s:=1) (fun _=>rfl) s0 (idxn_idx h206) (0 + Int.toNat (IntKind.wrap .i64 (v78 - (1:Int))) * 1) (Nat.zero_add _) []),(10,.idxV (idxn_lt h208)),(11,.ldV Zb (s:=1) (fun _=>rfl) s0 (idxn_idx h208) (0 + Int.toNat v177 * 1) (Nat.zero_add _) []),(12,.call Tryz.func166 [] (Zaq x205 x207 r209 h210))] 15 [] [] []
          refine AWP.cif hF (fun h224 hF=>?_) (fun h224 hF=>?_)
          ·refine AWP.seq ?_
           obtain ⟨r215,h216,hF⟩:=bindb hF
           refine AWP.rg [(4,.callC Tryz.func167 [] (closedH.c (cel_closed (row:=Zb) (fun _=>rfl) v192 s0) closedH.n) (closedH.c (cel_closed (row:=Zb) (fun _=>rfl) r215.2 s0) closedH.n) (Zfr a0 v192 s0 v78 v79 v177 r215 h216))] [(0,(.vw 0 0 a0)),(2,(i64 v79)),(3,(i64 v165)),(8,(vb v81)),(9,(vb v82)),(13,(i64 r215.1))] [.cells (cel Zb r215.2 s0)] ?_
           refine .seq (.rg0 [] [(0,(.vw 0 0 a0)),(1,(i64 r215.1)),(2,(i64 v79)),(3,(i64 v165)),(8,(vb v81)),(9,(vb v82))] ?_)
           refine AWP.exit ?_
           refine LeQ.start ?_
           refine LeQ.pk [0,1,2,3,8,9] 1 ?_
           exact ⟨n156,Nat.lt_succ_self _,r215.2,r215.1,v79,v165,v81,v82,hF,by kernel_rfl,by kernel_rfl⟩
          ·refine AWP.skip ?_
           refine AWP.seq ?_
           obtain ⟨r217,h218,hF⟩:=bindb hF
           refine AWP.rg [(4,.callC Tryz.func168 [] (closedH.c (cel_closed (row:=Zb) (fun _=>rfl) v192 s0) closedH.n) (closedH.c (cel_closed (row:=Zb) (fun _=>rfl) r217.2.2 s0) closedH.n) (Zgg a0 v192 s0 v78 v79 v177 r217 h218))] [(0,(.vw 0 0 a0)),(1,(i64 v78)),(2,(i64 v79)),(3,(i64 v165)),(10,(i64 (IntKind.wrap .i64 (v79 - v78)))),(14,(i64 r217.1)),(15,(vb r217.2.1))] [.cells (cel Zb r217.2.2 s0)] ?_
           refine .seq (.rg0 [] [(0,(.vw 0 0 a0)),(1,(i64 v78)),(2,(i64 v79)),(3,(i64 v165)),(9,(vb r217.2.1)),(10,(i64 (IntKind.wrap .i64 (v79 - v78)))),(14,(i64 r217.1))] ?_)
           refine .seq (.rg0 [] [(0,(.vw 0 0 a0)),(1,(i64 v78)),(2,(i64 v79)),(3,(i64 v165)),(9,(vb r217.2.1)),(10,(i64 (IntKind.wrap .i64 (v79 - v78)))),(14,(i64 r217.1)),(16,(i64 (IntKind.wrap .i64 (r217.1 - v78)))),(17,(i64 (IntKind.wrap .i64 (v79 - r217.1))))] ?_)
           refine .seq (.rg0 [] [(0,(.vw 0 0 a0)),(1,(i64 v78)),(2,(i64 v79)),(3,(i64 v165)),(9,(vb r217.2.1)),(14,(i64 r217.1)),(16,(i64 (IntKind.wrap .i64 (r217.1 - v78)))),(17,(i64 (IntKind.wrap .i64 (v79 - r217.1)))),(18,(i64 (IntKind.wrap .i64 (Int.tdiv (IntKind.wrap .i64 (v79 - v78)) (8:Int)))))] ?_)
           refine .seq (.rg0 [] [(0,(.vw 0 0 a0)),(1,(i64 v78)),(2,(i64 v79)),(3,(i64 v165)),(9,(vb r217.2.1)),(14,(i64 r217.1)),(16,(i64 (IntKind.wrap .i64 (r217.1 - v78)))),(17,(i64 (IntKind.wrap .i64 (v79 - r217.1)))),(18,(i64 (IntKind.wrap .i64 (Int.tdiv (IntKind.wrap .i64 (v79 - v78)) (8:Int))))),(113,(vb (decide ((IntKind.wrap .i64 (r217.1 - v78))<(IntKind.wrap .i64 (v79 - r217.1))))))] ?_)
           refine AWP.cif hF (fun h223 hF=>?_) (fun h223 hF=>?_)
           ·refine .seq (.rg0 [] [(0,(.vw 0 0 a0)),(1,(i64 v78)),(2,(i64 v79)),(3,(i64 v165)),(8,(vb (decide ((IntKind.wrap .i64 (r217.1 - v78)) ≥ (IntKind.wrap .i64 (Int.tdiv (IntKind.wrap .i64 (v79 - v78)) (8:Int))))))),(9,(vb r217.2.1)),(14,(i64 r217.1))] ?_)
            refine AWP.seq ?_
            obtain ⟨r219,h220,hF⟩:=bindb hF
            refine AWP.rg [(4,.callC Tryz.func157 [] (closedH.c (cel_closed (row:=Zb) (fun _=>rfl) r217.2.2 s0) closedH.n) (closedH.c (cel_closed (row:=Zb) (fun _=>rfl) r219 s0) closedH.n) (ih a0 r217.2.2 s0 v78 r217.1 v165 r219 h220))] [(0,(.vw 0 0 a0)),(2,(i64 v79)),(3,(i64 v165)),(8,(vb (decide ((IntKind.wrap .i64 (r217.1 - v78)) ≥ (IntKind.wrap .i64 (Int.tdiv (IntKind.wrap .i64 (v79 - v78)) (8:Int))))))),(9,(vb r217.2.1)),(14,(i64 r217.1))] [.cells (cel Zb r219 s0)] ?_
            refine AWP.rg0 [] [(0,(.vw 0 0 a0)),(1,(i64 (IntKind.wrap .i64 (r217.1 + (1:Int))))),(2,(i64 v79)),(3,(i64 v165)),(8,(vb (decide ((IntKind.wrap .i64 (r217.1 - v78)) ≥ (IntKind.wrap .i64 (Int.tdiv (IntKind.wrap .i64 (v79 - v78)) (8:Int))))))),(9,(vb r217.2.1))] ?_
            refine LeQ.start ?_
            refine LeQ.pk [0,1,2,3,8,9] 1 ?_
            exact ⟨n156,Nat.lt_succ_self _,r219,(IntKind.wrap .i64 (r217.1 + (1:Int))),v79,v165,(decide ((IntKind.wrap .i64 (r217.1 - v78)) ≥ (IntKind.wrap .i64 (Int.tdiv (IntKind.wrap .i64 (v79 - v78)) (8:Int))))),r217.2.1,hF,by kernel_rfl,by kernel_rfl⟩
           ·refine .seq (.rg0 [] [(0,(.vw 0 0 a0)),(1,(i64 v78)),(2,(i64 v79)),(3,(i64 v165)),(8,(vb (decide ((IntKind.wrap .i64 (v79 - r217.1)) ≥ (IntKind.wrap .i64 (Int.tdiv (IntKind.wrap .i64 (v79 - v78)) (8:Int))))))),(9,(vb r217.2.1)),(14,(i64 r217.1))] ?_)
            refine AWP.seq ?_
            obtain ⟨r221,h222,hF⟩:=bindb hF
            refine AWP.rg [(5,.callC Tryz.func157 [] (closedH.c (cel_closed (row:=Zb) (fun _=>rfl) r217.2.2 s0) closedH.n) (closedH.c (cel_closed (row:=Zb) (fun _=>rfl) r221 s0) closedH.n) (ih a0 r217.2.2 s0 (IntKind.wrap .i64 (r217.1 + (1:Int))) v79 v165 r221 h222))] [(0,(.vw 0 0 a0)),(1,(i64 v78)),(3,(i64 v165)),(8,(vb (decide ((IntKind.wrap .i64 (v79 - r217.1)) ≥ (IntKind.wrap .i64 (Int.tdiv (IntKind.wrap .i64 (v79 - v78)) (8:Int))))))),(9,(vb r217.2.1)),(14,(i64 r217.1))] [.cells (cel Zb r221 s0)] ?_
            refine AWP.rg0 [] [(0,(.vw 0 0 a0)),(1,(i64 v78)),(2,(i64 r217.1)),(3,(i64 v165)),(8,(vb (decide ((IntKind.wrap .i64 (v79 - r217.1)) ≥ (IntKind.wrap .i64 (Int.tdiv (IntKind.wrap .i64 (v79 - v78)) (8:Int))))))),(9,(vb r217.2.1))] ?_
            refine LeQ.start ?_
            refine LeQ.pk [0,1,2,3,8,9] 1 ?_
            exact ⟨n156,Nat.lt_succ_self _,r221,v78,r217.1,v165,(decide ((IntKind.wrap .i64 (v79 - r217.1)) ≥ (IntKind.wrap .i64 (Int.tdiv (IntKind.wrap .i64 (v79 - v78)) (8:Int))))),r217.2.1,hF,by kernel_rfl,by kernel_rfl⟩
         ·exact LeQ.of ⟨rfl,r225,(someb hF).symm,hq⟩
  ·rintro _ _ _ ⟨rfl,r228,rfl,hq⟩
   have hr:=someb hF
   subst hr
   exact hq
theorem Zgv (a0:Nat) (a1:(List Int)) (s0:List Value) (a2:Int) (a3:Int) (a4:Int) (r:(List Int)) (hF:Zq fuel a0 a1 a2 a3 a4=some r):ACall Tryz.prog glob 157 [(.vw 0 0 a0),(i64 a2),(i64 a3),(i64 a4)] [.cells (cel Zb a1 s0)] (Zdm s0 r):=Zgh fuel a0 a1 s0 a2 a3 a4 r hF
def Zg9 (s0:List Value) (r:(List Int)):PV→List Blk→Prop:=fun p K=>p=(.tup [])∧K=[.cells (cel Zb r s0)]
theorem Zha (a0:Nat) (a1:(List Int)) (s0:List Value) (r:(List Int)) (hF:Zca a0 a1=some r):ACall Tryz.prog glob 154 [(.vw 0 0 a0)] [.cells (cel Zb a1 s0)] (Zg9 s0 r):=by
 refine ACall.body Tryz.func154 rfl (by kernel_rfl) ?_
 unfold Zca at hF
 refine .seq (.rg0 [(1,.lenV a0)] [(0,(.vw 0 0 a0)),(2,(i64 (a0:Int)))] ?_)
 obtain ⟨r1,h2,hF⟩:=bindb hF
 obtain ⟨r3,h4,hF⟩:=bindb hF
 refine AWP.rg [(4,.call Tryz.func158 [] (Zh5 (IntKind.wrap .u64 (a0:Int)) r1 h2)),(5,.callC Tryz.func157 [] (closedH.c (cel_closed (row:=Zb) (fun _=>rfl) a1 s0) closedH.n) (closedH.c (cel_closed (row:=Zb) (fun _=>rfl) r3 s0) closedH.n) (Zgv a0 a1 s0 (0:Int) (a0:Int) r1 r3 h4))] [] [.cells (cel Zb r3 s0)] ?_
 have hr:=someb hF
 subst hr
 exact (FnQ.f0 1 (.inl rfl))
def Ze5 (s0:List Value) (r:(Nat × (List Int))):PV→List Blk→Prop:=fun p K=>p=(.vw 0 0 r.1)∧K=[.cells (cel Zb r.2 s0)]
abbrev Zgw (s0:List Value) (r:(Nat × (List Int))):Exit→St→List Blk→Prop:=FnQ Tryz.prog Tryz.f155.results 1 (Ze5 s0 r)
theorem Zgx (a0:Nat) (a1:(List Int)) (s0:List Value) (r:(Nat × (List Int))) (hF:Zbx a0 a1=some r):ACall Tryz.prog glob 155 [(.vw 0 0 a0)] [.cells (cel Zb a1 s0)] (Ze5 s0 r):=by
 refine ACall.body Tryz.func155 rfl (by kernel_rfl) ?_
 unfold Zbx at hF
 refine .seq (.rg0 [] [(0,(.vw 0 0 a0))] ?_)
 refine AWP.seq ?_
 refine .seq (.rg0 [(1,.lenV a0)] [(0,(.vw 0 0 a0)),(8,(vb (decide ((a0:Int)<(2:Int)))))] ?_)
 refine AWP.cif hF (fun h184 hF=>?_) (fun h184 hF=>?_)
 ·refine .seq (.rg0 [] [(2,(.vw 0 0 a0))] ?_)
  refine AWP.ret ?_
  have hr:=someb hF
  subst hr
  exact (FnQ.f0 1 (.inr rfl))
 ·refine AWP.skip ?_
  refine AWP.seq ?_
  refine .seq (.rg0 [] [(0,(.vw 0 0 a0)),(3,(i64 (1:Int)))] ?_)
  obtain ⟨o91,h92,hF⟩:=bindb hF
  refine AWP.mid (fun e st H=>(e=.normal∧o91=(.inl ())∧st=[(0,(.vw 0 0 a0))]∧H=[.cells (cel Zb a1 s0)])∨(e=.ret∧∃ (r:(Nat × (List Int))),o91=(.inr r)∧Zgw s0 r e st H)) ?_ ?_
  ·clear hF
   refine AWP.kp [0,3] 1 ?_
   refine AWP.bround (fun n st H=>∃ (v1:Int),Zan a0 a1 n v1=some o91∧st=[(0,(.vw 0 0 a0)),(3,(i64 v1))]∧H=[.cells (cel Zb a1 s0)]) fuel ⟨(1:Int),h92,by kernel_rfl,by kernel_rfl⟩ ?_
   rintro n93 st H ⟨v1,hF,rfl,rfl⟩
   cases n93 with
   | zero=>exact noneb hF
   | succ n93=>
    rw [Zan] at hF
    refine AWP.seq ?_
    refine .seq (.rg0 [(2,.lenV a0)] [(0,(.vw 0 0 a0)),(3,(i64 v1)),(13,(vb (decide (v1<(a0:Int)))))] ?_)
    refine AWP.cif hF (fun h182 hF=>?_) (fun h182 hF=>?_)
    ·refine AWP.skip ?_
     refine AWP.seq ?_
     refine AWP.block ?_
     refine AWP.seq ?_
     obtain ⟨x94,h95,hF⟩:=bindb hF
     obtain ⟨x96,h97,hF⟩:=bindb hF
     refine AWP.dr [(2,.idxV (idxn_lt h95)),(3,.ldV Zb (s:=1) (fun _=>rfl) s0 (idxn_idx h95) (0 + Int.toNat v1 * 1) (Nat.zero_add _) []),(7,.idxV (idxn_lt h97)),(8,.ldV Zb (s:=1) (fun _=>rfl) s0 (idxn_idx h97) (0 + Int.toNat (IntKind.wrap .i64 (v1 - (1:Int))) * 1) (Nat.zero_add _) [])] 10 [] [] [] [(0,(.vw 0 0 a0)),(3,(i64 v1)),(25,(vb (x94 == x96)))] [.cells (cel Zb a1 s0)] ?_
     refine AWP.cif hF (fun h181 hF=>?_) (fun h181 hF=>?_)
     ·refine AWP.seq ?_
      obtain ⟨h98,hF⟩:=chkb hF
      refine AWP.rg0 [(2,.sliceV h98)] [(0,(.vw 0 0 a0)),(3,(i64 v1)),(4,(.vw 0 (0 + Int.toNat v1 * 1) (Int.toNat (a0:Int) - Int.toNat v1)))] ?_
      refine AWP.seq ?_
      refine .seq (.rg0 [] [(0,(.vw 0 0 a0)),(3,(i64 v1)),(4,(.vw 0 (0 + Int.toNat v1 * 1) (Int.toNat (a0:Int) - Int.toNat v1))),(5,(i64 (1:Int)))] ?_)
      obtain ⟨o152,h153,hF⟩:=bindb hF
      refine AWP.mid (fun e st H=>(e=.normal∧∃ (v150:(List Int)),∃ (v151:Int),o152=(v150,v151)∧st=[(0,(.vw 0 0 a0)),(3,(i64 v151))]∧H=[.cells (cel Zb v150 s0)])) ?_ ?_
      ·clear hF
       refine AWP.kp [0,3,4,5] 1 ?_
       refine AWP.bround (fun n st H=>∃ (v124:(List Int)),∃ (v125:Int),∃ (v126:Int),Zam a0 v1 n v124 v125 v126=some o152∧st=[(0,(.vw 0 0 a0)),(3,(i64 v125)),(4,(.vw 0 (0 + Int.toNat v1 * 1) (Int.toNat (a0:Int) - Int.toNat v1))),(5,(i64 v126))]∧H=[.cells (cel Zb v124 s0)]) fuel ⟨a1,v1,(1:Int),h153,by kernel_rfl,by kernel_rfl⟩ ?_
       rintro n154 st H ⟨v124,v125,v126,hF,rfl,rfl⟩
       cases n154 with
       | zero=>exact noneb hF
       | succ n154=>
        rw [Zam] at hF
        refine AWP.seq ?_
        refine .seq (.rg0 [(2,.lenV (Int.toNat (a0:Int) - Int.toNat v1))] [(0,(.vw 0 0 a0)),(3,(i64 v125)),(4,(.vw 0 (0 + Int.toNat v1 * 1) (Int.toNat (a0:Int) - Int.toNat v1))),(5,(i64 v126)),(32,(vb (decide (v126<(((Int.toNat (a0:Int) - Int.toNat v1):Nat):Int)))))] ?_)
        refine AWP.cif hF (fun h177 hF=>?_) (fun h177 hF=>?_)
        ·refine AWP.skip ?_
         obtain ⟨o166,h167,hF⟩:=bindb hF
         refine AWP.seq ?_
         refine AWP.mid (fun e st H=>(e=.normal∧∃ (v164:(List Int)),∃ (v165:Int),o166=(v164,v165)∧st=[(0,(.vw 0 0 a0)),(3,(i64 v165)),(4,(.vw 0 (0 + Int.toNat v1 * 1) (Int.toNat (a0:Int) - Int.toNat v1))),(5,(i64 v126))]∧H=[.cells (cel Zb v164 s0)])) ?_ ?_
         ·clear hF
          have hF:=h167
          refine AWP.block ?_
          refine AWP.seq ?_
          obtain ⟨x168,h169,hF⟩:=bindb hF
          obtain ⟨x170,h171,hF⟩:=bindb hF
          refine AWP.dr [(2,.idxV (idxv_lt h169)),(3,.ldV Zb (s:=1) (fun _=>rfl) s0 (idxv_idx h169) ((0 + Int.toNat v1 * 1) + Int.toNat v126 * 1) (off_add h98.1 (idxv_lt h169).1 _) []),(7,.idxV (idxv_lt h171)),(8,.ldV Zb (s:=1) (fun _=>rfl) s0 (idxv_idx h171) ((0 + Int.toNat v1 * 1) + Int.toNat (IntKind.wrap .i64 (v126 - (1:Int))) * 1) (off_add h98.1 (idxv_lt h171).1 _) [])] 10 [] [] [] [(0,(.vw 0 0 a0)),(3,(i64 v125)),(4,(.vw 0 (0 + Int.toNat v1 * 1) (Int.toNat (a0:Int) - Int.toNat v1))),(5,(i64 v126)),(44,(vb (x168 != x170)))] [.cells (cel Zb v124 s0)] ?_
          refine AWP.cif hF (fun h176 hF=>?_) (fun h176 hF=>?_)
          ·refine AWP.seq ?_
           obtain ⟨x172,h173,hF⟩:=bindb hF
           obtain ⟨x174,h175,hF⟩:=bindb hF
           refine AWP.rg [(4,.idxV (idxv_lt h173)),(5,.ldV Zb (s:=1) (fun _=>rfl) s0 (idxv_idx h173) ((0 + Int.toNat v1 * 1) + Int.toNat v126 * 1) (off_add h98.1 (idxv_lt h173).1 _) []),(6,.idxV (idxn_lt h175)),(7,.stV Zb (s:=1) (fun _=>rfl) s0 (idxn_idx h175) x172 (0 + Int.toNat v125 * 1) (Nat.zero_add _) [])] [(0,(.vw 0 0 a0)),(3,(i64 v125)),(4,(.vw 0 (0 + Int.toNat v1 * 1) (Int.toNat (a0:Int) - Int.toNat v1))),(5,(i64 v126))] [.cells (cel Zb (List.set v124 (Int.toNat v125) x172) s0)] ?_
           refine AWP.rg0 [] [(0,(.vw 0 0 a0)),(3,(i64 (IntKind.wrap .i64 (v125 + (1:Int))))),(4,(.vw 0 (0 + Int.toNat v1 * 1) (Int.toNat (a0:Int) - Int.toNat v1))),(5,(i64 v126))] ?_
           refine LeQ.start ?_
           refine LeQ.pk [0,3,4,5] 1 ?_
           exact ⟨rfl,(List.set v124 (Int.toNat v125) x172),(IntKind.wrap .i64 (v125 + (1:Int))),(someb hF).symm,by kernel_rfl,by kernel_rfl⟩
          ·refine AWP.skip ?_
           refine LeQ.start ?_
           refine LeQ.pk [0,3,4,5] 1 ?_
           exact ⟨rfl,v124,v125,(someb hF).symm,by kernel_rfl,by kernel_rfl⟩
         ·rintro _ _ _ ⟨rfl,v164,v165,rfl,rfl,rfl⟩
          refine AWP.rg0 [] [(0,(.vw 0 0 a0)),(3,(i64 v165)),(4,(.vw 0 (0 + Int.toNat v1 * 1) (Int.toNat (a0:Int) - Int.toNat v1))),(5,(i64 (IntKind.wrap .i64 (v126 + (1:Int)))))] ?_
          refine LeQ.start ?_
          refine LeQ.pk [0,3,4,5] 1 ?_
          exact ⟨n154,Nat.lt_succ_self _,v164,v165,(IntKind.wrap .i64 (v126 + (1:Int))),hF,by kernel_rfl,by kernel_rfl⟩
        ·refine AWP.exit ?_
         refine LeQ.start ?_
         refine LeQ.pk [0,3] 1 ?_
         exact ⟨rfl,v124,v125,(someb hF).symm,by kernel_rfl,by kernel_rfl⟩
      ·rintro _ _ _ ⟨rfl,v150,v151,rfl,rfl,rfl⟩
       refine AWP.seq ?_
       obtain ⟨h178,hF⟩:=chkb hF
       obtain ⟨h179,hF⟩:=chkb hF
       refine AWP.rg [(2,.sliceV h178),(3,.clrV Zb (s:=1) (fun _=>rfl) (fun _=>rfl) s0 v150 (0:Int) (lo:=Int.toNat v151) (n:=(Int.toNat (a0:Int) - Int.toNat v151)) h179 (0 + Int.toNat v151 * 1) (Nat.zero_add _))] [(0,(.vw 0 0 a0)),(3,(i64 v151))] [.cells (cel Zb (List.take (Int.toNat v151) v150++List.replicate (Int.toNat (a0:Int) - Int.toNat v151) (0:Int)++List.drop (Int.toNat v151 + (Int.toNat (a0:Int) - Int.toNat v151)) v150) s0)] ?_
       refine AWP.seq ?_
       obtain ⟨h180,hF⟩:=chkb hF
       refine AWP.rg0 [(2,.sliceV h180)] [(2,(.vw 0 0 (Int.toNat v151)))] ?_
       refine AWP.ret ?_
       exact LeQ.of (.inr ⟨rfl,((Int.toNat v151),(List.take (Int.toNat v151) v150++List.replicate (Int.toNat (a0:Int) - Int.toNat v151) (0:Int)++List.drop (Int.toNat v151 + (Int.toNat (a0:Int) - Int.toNat v151)) v150)),(someb hF).symm,(FnQ.f0 1 (.inr rfl))⟩)
     ·refine AWP.skip ?_
      refine AWP.rg0 [] [(0,(.vw 0 0 a0)),(3,(i64 (IntKind.wrap .i64 (v1 + (1:Int)))))] ?_
      refine LeQ.start ?_
      refine LeQ.pk [0,3] 1 ?_
      exact ⟨n93,Nat.lt_succ_self _,(IntKind.wrap .i64 (v1 + (1:Int))),hF,by kernel_rfl,by kernel_rfl⟩
    ·refine AWP.exit ?_
     refine LeQ.start ?_
     refine LeQ.pk [0] 1 ?_
     exact (.inl ⟨rfl,(someb hF).symm,by kernel_rfl,by kernel_rfl⟩)
  ·rintro _ _ _ (⟨rfl,rfl,rfl,rfl⟩ | ⟨rfl,r183,rfl,hq⟩)
   ·refine .seq (.rg0 [] [(2,(.vw 0 0 a0))] ?_)
    refine AWP.ret ?_
    have hr:=someb hF
    subst hr
    exact (FnQ.f0 1 (.inr rfl))
   ·have hr:=someb hF
    subst hr
    exact hq
def Zd4 (r:(List Int)):PV→List Blk→Prop:=fun p K=>p=(slc 1 Zb r)∧K=[]
abbrev Zfx (r:(List Int)):Exit→St→List Blk→Prop:=FnQ Tryz.prog Tryz.f155.results 0 (Zd4 r)
theorem Zfy (r:(List Int)) (hF:Zby=some r):ACall Tryz.prog glob 155 [(slc 1 Zb ([]:(List Int)))] [] (Zd4 r):=by
 refine ACall.body Tryz.func155 rfl (by kernel_rfl) ?_
 unfold Zby at hF
 refine .seq (.rg0 [] [(0,(slc 1 Zb ([]:(List Int))))] ?_)
 refine AWP.seq ?_
 refine .seq (.rg0 [(1,.len Zb ([]:(List Int)))] [(0,(slc 1 Zb ([]:(List Int)))),(8,(vb (decide ((List.length ([]:(List Int)):Int)<(2:Int)))))] ?_)
 refine AWP.cif hF (fun h82 hF=>?_) (fun h82 hF=>?_)
 ·refine .seq (.rg0 [] [(2,(slc 1 Zb ([]:(List Int))))] ?_)
  refine AWP.ret ?_
  have hr:=someb hF
  subst hr
  exact (FnQ.f0 0 (.inr rfl))
 ·refine AWP.skip ?_
  refine AWP.seq ?_
  refine .seq (.rg0 [] [(0,(slc 1 Zb ([]:(List Int)))),(3,(i64 (1:Int)))] ?_)
  obtain ⟨o40,h41,hF⟩:=bindb hF
  refine AWP.mid (fun e st H=>(e=.normal∧o40=(.inl ())∧st=[(0,(slc 1 Zb ([]:(List Int))))]∧H=[])∨(e=.ret∧∃ (r:(List Int)),o40=(.inr r)∧Zfx r e st H)) ?_ ?_
  ·clear hF
   refine AWP.kp [0,3] 0 ?_
   refine AWP.bround (fun n st H=>∃ (v1:Int),Zbp n v1=some o40∧st=[(0,(slc 1 Zb ([]:(List Int)))),(3,(i64 v1))]∧H=[]) fuel ⟨(1:Int),h41,by kernel_rfl,by kernel_rfl⟩ ?_
   rintro n42 st H ⟨v1,hF,rfl,rfl⟩
   cases n42 with
   | zero=>exact noneb hF
   | succ n42=>
    rw [Zbp] at hF
    refine AWP.seq ?_
    refine .seq (.rg0 [(2,.len Zb ([]:(List Int)))] [(0,(slc 1 Zb ([]:(List Int)))),(3,(i64 v1)),(13,(vb (decide (v1<(List.length ([]:(List Int)):Int)))))] ?_)
    refine AWP.cif hF (fun h80 hF=>?_) (fun h80 hF=>?_)
    ·refine AWP.skip ?_
     refine AWP.seq ?_
     refine AWP.block ?_
     refine AWP.seq ?_
     obtain ⟨x43,h44,hF⟩:=bindb hF
     obtain ⟨x45,h46,hF⟩:=bindb hF
     refine AWP.dr [(2,.idx Zb h44),(7,.idx Zb h46)] 10 [] [] [] [(0,(slc 1 Zb ([]:(List Int)))),(3,(i64 v1)),(25,(vb (x43 == x45)))] [] ?_
     refine AWP.cif hF (fun h79 hF=>?_) (fun h79 hF=>?_)
     ·refine AWP.seq ?_
      obtain ⟨h47,hF⟩:=chkb hF
      refine AWP.rg0 [(2,.slice Zb ([]:(List Int)) h47)] [(0,(slc 1 Zb ([]:(List Int)))),(3,(i64 v1)),(4,(slc 1 Zb (List.drop (Int.toNat v1) (List.take (Int.toNat (List.length ([]:(List Int)):Int)) ([]:(List Int))))))] ?_
      refine AWP.seq ?_
      refine .seq (.rg0 [] [(0,(slc 1 Zb ([]:(List Int)))),(3,(i64 v1)),(4,(slc 1 Zb (List.drop (Int.toNat v1) (List.take (Int.toNat (List.length ([]:(List Int)):Int)) ([]:(List Int)))))),(5,(i64 (1:Int)))] ?_)
      obtain ⟨v63,h64,hF⟩:=bindb hF
      refine AWP.mid (fun e st H=>e=.normal∧st=[(0,(slc 1 Zb ([]:(List Int)))),(3,(i64 v63))]∧H=[]) ?_ ?_
      ·clear hF
       refine AWP.kp [0,3,4,5] 0 ?_
       refine AWP.bround (fun n st H=>∃ (v48:Int),∃ (v49:Int),Zbo v1 n v48 v49=some v63∧st=[(0,(slc 1 Zb ([]:(List Int)))),(3,(i64 v48)),(4,(slc 1 Zb (List.drop (Int.toNat v1) (List.take (Int.toNat (List.length ([]:(List Int)):Int)) ([]:(List Int)))))),(5,(i64 v49))]∧H=[]) fuel ⟨v1,(1:Int),h64,by kernel_rfl,by kernel_rfl⟩ ?_
       rintro n65 st H ⟨v48,v49,hF,rfl,rfl⟩
       cases n65 with
       | zero=>exact noneb hF
       | succ n65=>
        rw [Zbo] at hF
        refine AWP.seq ?_
        refine .seq (.rg0 [(2,.len Zb (List.drop (Int.toNat v1) (List.take (Int.toNat (List.length ([]:(List Int)):Int)) ([]:(List Int)))))] [(0,(slc 1 Zb ([]:(List Int)))),(3,(i64 v48)),(4,(slc 1 Zb (List.drop (Int.toNat v1) (List.take (Int.toNat (List.length ([]:(List Int)):Int)) ([]:(List Int)))))),(5,(i64 v49)),(32,(vb (decide (v49<(List.length (List.drop (Int.toNat v1) (List.take (Int.toNat (List.length ([]:(List Int)):Int)) ([]:(List Int)))):Int)))))] ?_)
        refine AWP.cif hF (fun h78 hF=>?_) (fun h78 hF=>?_)
        ·refine AWP.skip ?_
         obtain ⟨o71,h72,hF⟩:=bindb hF
         refine AWP.seq ?_
         refine AWP.mid (fun e st H=>(e=.normal∧o71=()∧st=[(0,(slc 1 Zb ([]:(List Int)))),(3,(i64 v48)),(4,(slc 1 Zb (List.drop (Int.toNat v1) (List.take (Int.toNat (List.length ([]:(List Int)):Int)) ([]:(List Int)))))),(5,(i64 v49))]∧H=[])) ?_ ?_
         ·clear hF
          have hF:=h72
          refine AWP.block ?_
          refine AWP.seq ?_
          obtain ⟨x73,h74,hF⟩:=bindb hF
          obtain ⟨x75,h76,hF⟩:=bindb hF
          refine AWP.dr [(2,.idx Zb h74),(7,.idx Zb h76)] 10 [] [] [] [(0,(slc 1 Zb ([]:(List Int)))),(3,(i64 v48)),(4,(slc 1 Zb (List.drop (Int.toNat v1) (List.take (Int.toNat (List.length ([]:(List Int)):Int)) ([]:(List Int)))))),(5,(i64 v49)),(44,(vb (x73 != x75)))] [] ?_
          refine AWP.cif hF (fun h77 hF=>?_) (fun h77 hF=>?_)
          ·refine AWP.seq ?_
           exact noneb hF
          ·refine AWP.skip ?_
           refine LeQ.start ?_
           refine LeQ.pk [0,3,4,5] 0 ?_
           exact ⟨rfl,(someb hF).symm,by kernel_rfl,by kernel_rfl⟩
         ·rintro _ _ _ ⟨rfl,rfl,rfl,rfl⟩
          refine AWP.rg0 [] [(0,(slc 1 Zb ([]:(List Int)))),(3,(i64 v48)),(4,(slc 1 Zb (List.drop (Int.toNat v1) (List.take (Int.toNat (List.length ([]:(List Int)):Int)) ([]:(List Int)))))),(5,(i64 (IntKind.wrap .i64 (v49 + (1:Int)))))] ?_
          refine LeQ.start ?_
          refine LeQ.pk [0,3,4,5] 0 ?_
          exact ⟨n65,Nat.lt_succ_self _,v48,(IntKind.wrap .i64 (v49 + (1:Int))),hF,by kernel_rfl,by kernel_rfl⟩
        ·refine AWP.exit ?_
         refine LeQ.start ?_
         refine LeQ.pk [0,3] 0 ?_
         have hr:=someb hF
         subst hr
         exact ⟨rfl,by kernel_rfl,by kernel_rfl⟩
      ·rintro _ _ _ ⟨rfl,rfl,rfl⟩
       refine AWP.seq ?_
       exact noneb hF
     ·refine AWP.skip ?_
      refine AWP.rg0 [] [(0,(slc 1 Zb ([]:(List Int)))),(3,(i64 (IntKind.wrap .i64 (v1 + (1:Int)))))] ?_
      refine LeQ.start ?_
      refine LeQ.pk [0,3] 0 ?_
      exact ⟨n42,Nat.lt_succ_self _,(IntKind.wrap .i64 (v1 + (1:Int))),hF,by kernel_rfl,by kernel_rfl⟩
    ·refine AWP.exit ?_
     refine LeQ.start ?_
     refine LeQ.pk [0] 0 ?_
     exact (.inl ⟨rfl,(someb hF).symm,by kernel_rfl,by kernel_rfl⟩)
  ·rintro _ _ _ (⟨rfl,rfl,rfl,rfl⟩ | ⟨rfl,r81,rfl,hq⟩)
   ·refine .seq (.rg0 [] [(2,(slc 1 Zb ([]:(List Int))))] ?_)
    refine AWP.ret ?_
    have hr:=someb hF
    subst hr
    exact (FnQ.f0 0 (.inr rfl))
   ·have hr:=someb hF
    subst hr
    exact hq
def Zj1 (r:(List Int)):PV→List Blk→Prop:=fun p K=>p=(slc 1 Zb r)∧K=[]
theorem Zgi (a0:Int) (a1:(List (List (Arr5 api_Range)))) (r:(List Int)) (hF:Zcv a0 a1=some r):ACall Tryz.prog glob 151 [(i64 a0),(slc 1 Zh a1)] [] (Zj1 r):=by
 refine ACall.body Tryz.func151 rfl (by kernel_rfl) ?_
 unfold Zcv at hF
 refine .seq (.rg0 [] [(0,(i64 a0)),(1,(slc 1 Zh a1))] ?_)
 refine AWP.seq ?_
 obtain ⟨r1,h2,hF⟩:=bindb hF
 refine AWP.rg [(1,.call Tryz.func119 [] (Zld a0 r1 h2)),(4,.m)] [(0,(i64 a0)),(1,(slc 1 Zh a1)),(5,(.own 0 (List.length [(0:Int),(IntKind.wrap .u64 ((IntKind.wrap .u64 r1) + (1:Int)))])))] [bf 1 134 Zb [(0:Int),(IntKind.wrap .u64 ((IntKind.wrap .u64 r1) + (1:Int)))] false] ?_
 refine AWP.seq ?_
 refine .seq (.rg0 [(1,.len Zh a1)] [(0,(i64 a0)),(5,(.own 0 (List.length [(0:Int),(IntKind.wrap .u64 ((IntKind.wrap .u64 r1) + (1:Int)))]))),(15,(slc 1 Zh a1)),(16,(i64 (List.length a1:Int))),(17,(i64 (0:Int)))] ?_)
 obtain ⟨v60,h61,hF⟩:=bindb hF
 refine AWP.mid (fun e st H=>e=.normal∧st=[(5,(.own 0 (List.length v60)))]∧H=[bf 1 134 Zb v60 false]) ?_ ?_
 ·clear hF
  refine AWP.kp [0,5,15,16,17] 1 ?_
  refine AWP.bround (fun n st H=>∃ (v31:(List Int)),∃ (v32:Int),Zb6 a0 a1 n v31 v32=some v60∧st=[(0,(i64 a0)),(5,(.own 0 (List.length v31))),(15,(slc 1 Zh a1)),(16,(i64 (List.length a1:Int))),(17,(i64 v32))]∧H=[bf 1 134 Zb v31 false]) fuel ⟨[(0:Int),(IntKind.wrap .u64 ((IntKind.wrap .u64 r1) + (1:Int)))],(0:Int),h61,by kernel_rfl,by kernel_rfl⟩ ?_
  rintro n62 st H ⟨v31,v32,hF,rfl,rfl⟩
  cases n62 with
  | zero=>exact noneb hF
  | succ n62=>
   rw [Zb6] at hF
   refine .seq (.rg0 [] [(0,(i64 a0)),(5,(.own 0 (List.length v31))),(15,(slc 1 Zh a1)),(16,(i64 (List.length a1:Int))),(17,(i64 v32)),(18,(vb (decide (v32<(List.length a1:Int)))))] ?_)
   refine AWP.seq ?_
   refine AWP.cif hF (fun h89 hF=>?_) (fun h89 hF=>?_)
   ·refine AWP.skip ?_
    refine AWP.seq ?_
    refine AWP.block ?_
    refine AWP.seq ?_
    obtain ⟨x63,h64,hF⟩:=bindb hF
    refine AWP.rg0 [(0,.idx Zh h64)] [(0,(i64 a0)),(5,(.own 0 (List.length v31))),(7,(slc 10 Za x63)),(15,(slc 1 Zh a1)),(16,(i64 (List.length a1:Int))),(17,(i64 v32))] ?_
    refine .seq (.rg0 [(1,.len Za x63)] [(0,(i64 a0)),(5,(.own 0 (List.length v31))),(15,(slc 1 Zh a1)),(16,(i64 (List.length a1:Int))),(17,(i64 v32)),(21,(slc 10 Za x63)),(22,(i64 (List.length x63:Int))),(23,(i64 (0:Int)))] ?_)
    obtain ⟨v80,h81,hF⟩:=bindb hF
    refine AWP.mid (fun e st H=>e=.normal∧st=[(0,(i64 a0)),(5,(.own 0 (List.length v80))),(15,(slc 1 Zh a1)),(16,(i64 (List.length a1:Int))),(17,(i64 v32))]∧H=[bf 1 134 Zb v80 false]) ?_ ?_
    ·clear hF
     refine AWP.kp [0,5,15,16,17,21,22,23] 1 ?_
     refine AWP.bround (fun n st H=>∃ (v72:(List Int)),∃ (v73:Int),Zb5 a0 x63 n v72 v73=some v80∧st=[(0,(i64 a0)),(5,(.own 0 (List.length v72))),(15,(slc 1 Zh a1)),(16,(i64 (List.length a1:Int))),(17,(i64 v32)),(21,(slc 10 Za x63)),(22,(i64 (List.length x63:Int))),(23,(i64 v73))]∧H=[bf 1 134 Zb v72 false]) fuel ⟨v31,(0:Int),h81,by kernel_rfl,by kernel_rfl⟩ ?_
     rintro n82 st H ⟨v72,v73,hF,rfl,rfl⟩
     cases n82 with
     | zero=>exact noneb hF
     | succ n82=>
      rw [Zb5] at hF
      refine .seq (.rg0 [] [(0,(i64 a0)),(5,(.own 0 (List.length v72))),(15,(slc 1 Zh a1)),(16,(i64 (List.length a1:Int))),(17,(i64 v32)),(21,(slc 10 Za x63)),(22,(i64 (List.length x63:Int))),(23,(i64 v73)),(24,(vb (decide (v73<(List.length x63:Int)))))] ?_)
      refine AWP.seq ?_
      refine AWP.cif hF (fun h88 hF=>?_) (fun h88 hF=>?_)
      ·refine AWP.skip ?_
       refine AWP.seq ?_
       refine AWP.block ?_
       refine AWP.seq ?_
       obtain ⟨x83,h84,hF⟩:=bindb hF
       refine AWP.rg [(0,.idx Za h84)] [(0,(i64 a0)),(5,(.own 0 (List.length v72))),(9,(.ptr 1 0)),(15,(slc 1 Zh a1)),(16,(i64 (List.length a1:Int))),(17,(i64 v32)),(21,(slc 10 Za x63)),(22,(i64 (List.length x63:Int))),(23,(i64 v73))] [bf 1 134 Zb v72 false,.cells (Za x83)] ?_
       obtain ⟨h85,hF⟩:=chkb hF
       obtain ⟨h86,hF⟩:=chkb hF
       obtain ⟨h87,hF⟩:=chkb hF
       refine AWP.dr [(2,.ixd h85),(4,.ldA Zf (Arr5.get x83) 0 2 0 h85),(7,.ixd h86),(9,.ldA Zf (Arr5.get x83) 0 2 1 h86),(13,.app Zb (fun _=>by kernel_rfl) h87)] 14 [] [13] [] [(0,(i64 a0)),(5,(.own 0 (List.length (v72++[(IntKind.wrap .u64 (Arr5.get x83 a0).Lo),(IntKind.wrap .u64 ((IntKind.wrap .u64 (Arr5.get x83 a0).Hi) + (1:Int)))])))),(15,(slc 1 Zh a1)),(16,(i64 (List.length a1:Int))),(17,(i64 v32)),(21,(slc 10 Za x63)),(22,(i64 (List.length x63:Int))),(23,(i64 v73))] [bf 1 134 Zb (v72++[(IntKind.wrap .u64 (Arr5.get x83 a0).Lo),(IntKind.wrap .u64 ((IntKind.wrap .u64 (Arr5.get x83 a0).Hi) + (1:Int)))]) false,.cells (Za x83)] ?_
       refine AWP.rg0 [] [(0,(i64 a0)),(5,(.own 0 (List.length (v72++[(IntKind.wrap .u64 (Arr5.get x83 a0).Lo),(IntKind.wrap .u64 ((IntKind.wrap .u64 (Arr5.get x83 a0).Hi) + (1:Int)))])))),(15,(slc 1 Zh a1)),(16,(i64 (List.length a1:Int))),(17,(i64 v32)),(21,(slc 10 Za x63)),(22,(i64 (List.length x63:Int))),(23,(i64 (IntKind.wrap .i64 (v73 + (1:Int)))))] ?_
       refine LeQ.start ?_
       refine LeQ.pk [0,5,15,16,17,21,22,23] 1 ?_
       exact ⟨n82,Nat.lt_succ_self _,(v72++[(IntKind.wrap .u64 (Arr5.get x83 a0).Lo),(IntKind.wrap .u64 ((IntKind.wrap .u64 (Arr5.get x83 a0).Hi) + (1:Int)))]),(IntKind.wrap .i64 (v73 + (1:Int))),hF,by kernel_rfl,by kernel_rfl⟩
      ·refine AWP.exit ?_
       refine LeQ.start ?_
       refine LeQ.pk [0,5,15,16,17] 1 ?_
       have hr:=someb hF
       subst hr
       exact ⟨rfl,by kernel_rfl,by kernel_rfl⟩
    ·rintro _ _ _ ⟨rfl,rfl,rfl⟩
     refine AWP.rg0 [] [(0,(i64 a0)),(5,(.own 0 (List.length v80))),(15,(slc 1 Zh a1)),(16,(i64 (List.length a1:Int))),(17,(i64 (IntKind.wrap .i64 (v32 + (1:Int)))))] ?_
     refine LeQ.start ?_
     refine LeQ.pk [0,5,15,16,17] 1 ?_
     exact ⟨n62,Nat.lt_succ_self _,v80,(IntKind.wrap .i64 (v32 + (1:Int))),hF,by kernel_rfl,by kernel_rfl⟩
   ·refine AWP.exit ?_
    refine LeQ.start ?_
    refine LeQ.pk [5] 1 ?_
    have hr:=someb hF
    subst hr
    exact ⟨rfl,by kernel_rfl,by kernel_rfl⟩
 ·rintro _ _ _ ⟨rfl,rfl,rfl⟩
  refine AWP.seq ?_
  obtain ⟨h92,hF⟩:=chkb hF
  obtain ⟨r90,h91,hF⟩:=bindb hF
  obtain ⟨h93,hF⟩:=chkb hF
  refine AWP.rg [(1,.callB (s:=1) Zb Tryz.func154 (fun _=>rfl) h92 h93 (fun sp_=>Zha (List.length v60) v60 sp_ r90 h91))] [(5,(.own 0 (List.length v60)))] [bf 1 134 Zb r90 false] ?_
  rw [show ([(5,(.own 0 (List.length v60)))]:St)=[(5,(.own 0 (List.length r90)))] by simp only [h93]]
  refine AWP.seq ?_
  obtain ⟨r94,h95,hF⟩:=bindb hF
  refine AWP.rg [(1,.callBE (s:=1) Zb Tryz.func155 (fun _=>rfl) h95 (fun h sp_=>Zgx (List.length r90) r90 sp_ _ h) (fun h=>Zfy _ h))] [(4,(slc 1 Zb (List.take r94.1 r94.2)))] [bf 1 134 Zb r94.2 true] ?_
  refine AWP.ret ?_
  have hr:=someb hF
  subst hr
  exact (FnQ.f0 0 (.inr rfl))
def Zir (r:(List (Arr5 api_Range))):PV→List Blk→Prop:=fun p K=>p=(slc 10 Za r)∧K=[]
theorem Zcy (a0:(List (Arr5 api_Range))) (a1:Int) (a2:Int) (r:(List (Arr5 api_Range))) (hF:Zbb a0 a1 a2=some r):ACall Tryz.prog glob 152 [(slc 10 Za a0),(i64 a1),(u32 a2)] [] (Zir r):=by
 refine ACall.body Tryz.func152 rfl (by kernel_rfl) ?_
 unfold Zbb at hF
 refine .seq (.rg0 [] [(0,(slc 10 Za a0)),(1,(i64 a1)),(2,(u32 a2))] ?_)
 refine .seq (.rg0 [] [(0,(slc 10 Za a0)),(1,(i64 a1)),(2,(u32 a2)),(7,nils)] ?_)
 refine AWP.own (H':=[bf 10 57 Za ([]:(List (Arr5 api_Range))) false]) (st':=[(7,(.own 0 (List.length ([]:(List (Arr5 api_Range)))))),(0,(slc 10 Za a0)),(1,(i64 a1)),(2,(u32 a2))]) 7 10 57 (by kernel_rfl) (by kernel_rfl) (by kernel_rfl) ?_
 refine AWP.pick (st':=[(0,(slc 10 Za a0)),(1,(i64 a1)),(2,(u32 a2)),(7,(.own 0 (List.length ([]:(List (Arr5 api_Range))))))]) (ks:=[0,1,2,7]) (by kernel_rfl) ?_
 refine AWP.seq ?_
 refine .seq (.rg0 [(1,.len Za a0)] [(1,(i64 a1)),(2,(u32 a2)),(7,(.own 0 (List.length ([]:(List (Arr5 api_Range)))))),(10,(slc 10 Za a0)),(11,(i64 (List.length a0:Int))),(12,(i64 (0:Int)))] ?_)
 obtain ⟨v58,h59,hF⟩:=bindb hF
 refine AWP.mid (fun e st H=>e=.normal∧st=[(7,(.own 0 (List.length v58)))]∧H=[bf 10 57 Za v58 false]) ?_ ?_
 ·clear hF
  refine AWP.kp [1,2,7,10,11,12] 1 ?_
  refine AWP.bround (fun n st H=>∃ (v29:(List (Arr5 api_Range))),∃ (v30:Int),Zbu a0 a1 a2 n v29 v30=some v58∧st=[(1,(i64 a1)),(2,(u32 a2)),(7,(.own 0 (List.length v29))),(10,(slc 10 Za a0)),(11,(i64 (List.length a0:Int))),(12,(i64 v30))]∧H=[bf 10 57 Za v29 false]) fuel ⟨([]:(List (Arr5 api_Range))),(0:Int),h59,by kernel_rfl,by kernel_rfl⟩ ?_
  rintro n60 st H ⟨v29,v30,hF,rfl,rfl⟩
  cases n60 with
  | zero=>exact noneb hF
  | succ n60=>
   rw [Zbu] at hF
   refine .seq (.rg0 [] [(1,(i64 a1)),(2,(u32 a2)),(7,(.own 0 (List.length v29))),(10,(slc 10 Za a0)),(11,(i64 (List.length a0:Int))),(12,(i64 v30)),(13,(vb (decide (v30<(List.length a0:Int)))))] ?_)
   refine AWP.seq ?_
   refine AWP.cif hF (fun h87 hF=>?_) (fun h87 hF=>?_)
   ·refine AWP.skip ?_
    obtain ⟨v73,h74,hF⟩:=bindb hF
    refine AWP.seq ?_
    refine AWP.mid (fun e st H=>e=.normal∧st=[(1,(i64 a1)),(2,(u32 a2)),(7,(.own 0 (List.length v73))),(10,(slc 10 Za a0)),(11,(i64 (List.length a0:Int))),(12,(i64 v30))]∧H=[bf 10 57 Za v73 false]) ?_ ?_
    ·clear hF
     have hF:=h74
     refine AWP.block ?_
     refine AWP.seq ?_
     obtain ⟨x75,h76,hF⟩:=bindb hF
     refine AWP.rg [(0,.idx Za h76)] [(1,(i64 a1)),(2,(u32 a2)),(7,(.own 0 (List.length v29))),(9,(.ptr 1 0)),(10,(slc 10 Za a0)),(11,(i64 (List.length a0:Int))),(12,(i64 v30))] [bf 10 57 Za v29 false,.cells (Za x75)] ?_
     refine AWP.seq ?_
     obtain ⟨h77,hF⟩:=chkb hF
     obtain ⟨b78,h79,hF⟩:=bindb hF
     replace h79:=someb h79
     obtain ⟨v81,h82,hF⟩:=bindb hF
     refine AWP.to [(1,(i64 a1)),(2,(u32 a2)),(7,(.own 0 (List.length v29))),(9,(.ptr 1 0)),(10,(slc 10 Za a0)),(11,(i64 (List.length a0:Int))),(12,(i64 v30)),(29,(vb v81))] [bf 10 57 Za v29 false,.cells (Za x75)] ?_ ?_
     ·cases b78 with
      | false=>
       have h83:=someb (ifF h82 rfl)
       subst h83
       exact AWP.rgT [(1,.ixd h77),(3,.ldA Zf (Arr5.get x75) 0 2 0 h77),(6,.bool h79)]
      | true=>
       have h84:=ifT h82 rfl
       obtain ⟨h80,h84⟩:=chkb h84
       replace h84:=someb h84
       subst h84
       exact AWP.rgT [(1,.ixd h77),(3,.ldA Zf (Arr5.get x75) 0 2 0 h77),(6,.bool h79),(9,.ixd h80),(11,.ldA Zf (Arr5.get x75) 0 2 1 h80)]
     refine AWP.cif hF (fun h86 hF=>?_) (fun h86 hF=>?_)
     ·obtain ⟨h85,hF⟩:=chkb hF
      refine AWP.rg [(3,.app Za (fun _=>by kernel_rfl) h85)] [(1,(i64 a1)),(2,(u32 a2)),(7,(.own 0 (List.length (v29++[x75])))),(10,(slc 10 Za a0)),(11,(i64 (List.length a0:Int))),(12,(i64 v30))] [bf 10 57 Za (v29++[x75]) false,.cells (Za x75)] ?_
      refine LeQ.start ?_
      refine LeQ.pk [1,2,7,10,11,12] 1 ?_
      have hr:=someb hF
      subst hr
      exact ⟨rfl,by kernel_rfl,by kernel_rfl⟩
     ·refine AWP.skip ?_
      refine LeQ.start ?_
      refine LeQ.pk [1,2,7,10,11,12] 1 ?_
      have hr:=someb hF
      subst hr
      exact ⟨rfl,by kernel_rfl,by kernel_rfl⟩
    ·rintro _ _ _ ⟨rfl,rfl,rfl⟩
     refine AWP.rg0 [] [(1,(i64 a1)),(2,(u32 a2)),(7,(.own 0 (List.length v73))),(10,(slc 10 Za a0)),(11,(i64 (List.length a0:Int))),(12,(i64 (IntKind.wrap .i64 (v30 + (1:Int)))))] ?_
     refine LeQ.start ?_
     refine LeQ.pk [1,2,7,10,11,12] 1 ?_
     exact ⟨n60,Nat.lt_succ_self _,v73,(IntKind.wrap .i64 (v30 + (1:Int))),hF,by kernel_rfl,by kernel_rfl⟩
   ·refine AWP.exit ?_
    refine LeQ.start ?_
    refine LeQ.pk [7] 1 ?_
    have hr:=someb hF
    subst hr
    exact ⟨rfl,by kernel_rfl,by kernel_rfl⟩
 ·rintro _ _ _ ⟨rfl,rfl,rfl⟩
  refine .seq (.rg0 [] [(6,(.own 0 (List.length v58)))] ?_)
  refine AWP.ret ?_
  have hr:=someb hF
  subst hr
  exact (FnQ.f1 0 (.inr rfl) (.inl (Wk.ownT (i:=0) (s:=10) (t:=57) (l:=v58) (sh:=false) (row:=Za) (by kernel_rfl) (.inl rfl))))
def Zdg (r:((List (Arr5 api_Range)) × Bool)):PV→List Blk→Prop:=fun p K=>p=(.tup [(slc 10 Za r.1),(vb r.2)])∧K=[]
abbrev Zex (r:((List (Arr5 api_Range)) × Bool)):Exit→St→List Blk→Prop:=FnQ Tryz.prog Tryz.f147.results 0 (Zdg r)
theorem Zgc:∀ (nr:Nat) (a0:Int) (a1:(List (Arr5 api_Range))) (a2:(List (Arr5 api_Range))) (a3:Int) (r:((List (Arr5 api_Range)) × Bool)) (hF:Z1 nr a0 a1 a2 a3=some r),ACall Tryz.prog glob 147 [(i64 a0),(slc 10 Za a1),(slc 10 Za a2),(.sc (.func (.func 132) #[] #[])),(i64 a3)] [] (Zdg r):=by
 intro nr
 induction nr with
 | zero=>intro a0 a1 a2 a3 r hF; exact noneb (by rw [Z1] at hF; exact hF)
 | succ nr ih=>
  intro a0 a1 a2 a3 r hF
  refine ACall.body Tryz.func147 rfl (by kernel_rfl) ?_
  rw [Z1] at hF
  refine .seq (.rg0 [] [(0,(i64 a0)),(1,(slc 10 Za a1)),(2,(slc 10 Za a2)),(3,(.sc (.func (.func 132) #[] #[]))),(4,(i64 a3))] ?_)
  refine AWP.seq ?_
  refine .seq (.rg0 [] [(0,(i64 a0)),(1,(slc 10 Za a1)),(2,(slc 10 Za a2)),(3,(.sc (.func (.func 132) #[] #[]))),(4,(i64 a3)),(26,(vb (a0 == (5:Int))))] ?_)
  refine AWP.cif hF (fun h357 hF=>?_) (fun h357 hF=>?_)
  ·refine AWP.seq ?_
   refine AWP.seq ?_
   obtain ⟨r1,h2,hF⟩:=bindb hF
   refine AWP.rg0 [(2,.len Za a1),(5,.len Za a2),(7,.call Tryz.func132 [] (Zg8 (decide ((List.length a1:Int) > (0:Int))) (decide ((List.length a2:Int) > (0:Int))) r1 h2))] [(34,(vb r1))] ?_
   refine AWP.cif hF (fun h3 hF=>?_) (fun h3 hF=>?_)
   ·refine .seq (.rg0 [] [(10,(slc 10 Za [(Arr5.mk Zi Zi Zi Zi Zi)])),(11,(vb true))] ?_)
    refine AWP.ret ?_
    have hr:=someb hF
    subst hr
    exact (FnQ.f0 0 (.inr rfl))
   ·refine AWP.skip ?_
    refine .seq (.rg0 [] [(10,nils),(11,(vb true))] ?_)
    refine AWP.ret ?_
    have hr:=someb hF
    subst hr
    exact (FnQ.f1 0 (.inr rfl) (.inr ⟨_,_,rfl,rfl,(.cons _ _ _ _ (.nil 10) (.cons _ _ _ _ (.refl _) .nil))⟩))
  ·refine AWP.skip ?_
   refine AWP.seq ?_
   refine AWP.seq ?_
   obtain ⟨b4,h5,hF⟩:=bindb hF
   replace h5:=someb h5
   obtain ⟨v8,h9,hF⟩:=bindb hF
   refine AWP.to [(0,(i64 a0)),(1,(slc 10 Za a1)),(2,(slc 10 Za a2)),(3,(.sc (.func (.func 132) #[] #[]))),(4,(i64 a3)),(47,(vb v8))] [] ?_ ?_
   ·cases b4 with
    | false=>
     have h10:=someb (ifF h9 rfl)
     subst h10
     exact AWP.rgT [(1,.len Za a1),(3,.len Za a2),(6,.bool h5)]
    | true=>
     have h11:=ifT h9 rfl
     obtain ⟨r6,h7,h11⟩:=bindb h11
     replace h11:=someb h11
     subst h11
     exact AWP.rgT [(1,.len Za a1),(3,.len Za a2),(6,.bool h5),(8,.call Tryz.func132 [] (Zg8 false false r6 h7))]
   refine AWP.cif hF (fun h356 hF=>?_) (fun h356 hF=>?_)
   ·refine .seq (.rg0 [] [(10,nils),(11,(vb true))] ?_)
    refine AWP.ret ?_
    have hr:=someb hF
    subst hr
    exact (FnQ.f1 0 (.inr rfl) (.inr ⟨_,_,rfl,rfl,(.cons _ _ _ _ (.nil 10) (.cons _ _ _ _ (.refl _) .nil))⟩))
   ·refine AWP.skip ?_
    refine .seq (.rg0 [] [(0,(i64 a0)),(1,(slc 10 Za a1)),(2,(slc 10 Za a2)),(3,(.sc (.func (.func 132) #[] #[]))),(4,(i64 a3)),(12,nils)] ?_)
    refine AWP.own (H':=[bf 3 157 Zc ([]:(List packetset_group)) false]) (st':=[(12,(.own 0 (List.length ([]:(List packetset_group))))),(0,(i64 a0)),(1,(slc 10 Za a1)),(2,(slc 10 Za a2)),(3,(.sc (.func (.func 132) #[] #[]))),(4,(i64 a3))]) 12 3 157 (by kernel_rfl) (by kernel_rfl) (by kernel_rfl) ?_
    refine AWP.pick (st':=[(0,(i64 a0)),(1,(slc 10 Za a1)),(2,(slc 10 Za a2)),(3,(.sc (.func (.func 132) #[] #[]))),(4,(i64 a3)),(12,(.own 0 (List.length ([]:(List packetset_group)))))]) (ks:=[0,1,2,3,4,12]) (by kernel_rfl) ?_
    refine .seq (.rg0 [] [(0,(i64 a0)),(1,(slc 10 Za a1)),(2,(slc 10 Za a2)),(3,(.sc (.func (.func 132) #[] #[]))),(4,(i64 a3)),(12,(.own 0 (List.length ([]:(List packetset_group))))),(13,(i64 (0:Int)))] ?_)
    refine AWP.seq ?_
    obtain ⟨r12,h13,hF⟩:=bindb hF
    refine AWP.rg0 [(4,.call Tryz.func151 [] (Zgi a0 [a1,a2] r12 h13))] [(0,(i64 a0)),(1,(slc 10 Za a1)),(2,(slc 10 Za a2)),(3,(.sc (.func (.func 132) #[] #[]))),(4,(i64 a3)),(12,(.own 0 (List.length ([]:(List packetset_group))))),(13,(i64 (0:Int))),(14,(slc 1 Zb r12))] ?_
    refine AWP.seq ?_
    refine .seq (.rg0 [] [(0,(i64 a0)),(1,(slc 10 Za a1)),(2,(slc 10 Za a2)),(3,(.sc (.func (.func 132) #[] #[]))),(4,(i64 a3)),(12,(.own 0 (List.length ([]:(List packetset_group))))),(13,(i64 (0:Int))),(14,(slc 1 Zb r12)),(15,(i64 (0:Int)))] ?_)
    obtain ⟨o177,h178,hF⟩:=bindb hF
    refine AWP.mid (fun e st H=>(e=.normal∧∃ (v175:(List packetset_group)),∃ (v176:Int),o177=(.inl (v175,v176))∧st=[(0,(i64 a0)),(12,(.own 0 (List.length v175))),(13,(i64 v176))]∧H=[bf 3 157 Zc v175 false])∨(e=.ret∧∃ (r:((List (Arr5 api_Range)) × Bool)),o177=(.inr r)∧Zex r e st H)) ?_ ?_
    ·clear hF
     refine AWP.kp [0,1,2,3,4,12,13,14,15] 1 ?_
     refine AWP.bround (fun n st H=>∃ (v94:(List packetset_group)),∃ (v95:Int),∃ (v96:Int),Zo a0 a1 a2 a3 (Z1 nr) r12 n v94 v95 v96=some o177∧st=[(0,(i64 a0)),(1,(slc 10 Za a1)),(2,(slc 10 Za a2)),(3,(.sc (.func (.func 132) #[] #[]))),(4,(i64 a3)),(12,(.own 0 (List.length v94))),(13,(i64 v95)),(14,(slc 1 Zb r12)),(15,(i64 v96))]∧H=[bf 3 157 Zc v94 false]) fuel ⟨([]:(List packetset_group)),(0:Int),(0:Int),h178,by kernel_rfl,by kernel_rfl⟩ ?_
     rintro n179 st H ⟨v94,v95,v96,hF,rfl,rfl⟩
     cases n179 with
     | zero=>exact noneb hF
     | succ n179=>
      rw [Zo] at hF
      refine AWP.seq ?_
      refine .seq (.rg0 [(3,.len Zb r12)] [(0,(i64 a0)),(1,(slc 10 Za a1)),(2,(slc 10 Za a2)),(3,(.sc (.func (.func 132) #[] #[]))),(4,(i64 a3)),(12,(.own 0 (List.length v94))),(13,(i64 v95)),(14,(slc 1 Zb r12)),(15,(i64 v96)),(57,(vb (decide ((IntKind.wrap .i64 (v96 + (1:Int)))<(List.length r12:Int)))))] ?_)
      refine AWP.cif hF (fun h257 hF=>?_) (fun h257 hF=>?_)
      ·refine AWP.skip ?_
       obtain ⟨o218,h219,hF⟩:=bindb hF
       refine AWP.seq ?_
       refine AWP.mid (fun e st H=>(e=.normal∧∃ (v216:(List packetset_group)),∃ (v217:Int),o218=(.inl (v216,v217))∧st=[(0,(i64 a0)),(1,(slc 10 Za a1)),(2,(slc 10 Za a2)),(3,(.sc (.func (.func 132) #[] #[]))),(4,(i64 a3)),(12,(.own 0 (List.length v216))),(13,(i64 v217)),(14,(slc 1 Zb r12)),(15,(i64 v96))]∧H=[bf 3 157 Zc v216 false])∨(e=.ret∧∃ (r:((List (Arr5 api_Range)) × Bool)),o218=(.inr r)∧Zex r e st H)) ?_ ?_
       ·clear hF
        have hF:=h219
        refine AWP.block ?_
        refine AWP.seq ?_
        obtain ⟨x220,h221,hF⟩:=bindb hF
        obtain ⟨x222,h223,hF⟩:=bindb hF
        refine AWP.dr [(2,.idx Zb h221),(8,.idx Zb h223)] 14 [] [13] [] [(0,(i64 a0)),(1,(slc 10 Za a1)),(2,(slc 10 Za a2)),(3,(.sc (.func (.func 132) #[] #[]))),(4,(i64 a3)),(12,(.own 0 (List.length v94))),(13,(i64 v95)),(14,(slc 1 Zb r12)),(15,(i64 v96)),(16,(.ptr 1 0))] [bf 3 157 Zc v94 false,.cells (Zf (api_Range.mk (IntKind.wrap .u32 x220) (IntKind.wrap .u32 (IntKind.wrap .u64 (x222 - (1:Int))))))] ?_
        refine AWP.seq ?_
        obtain ⟨r224,h225,hF⟩:=bindb hF
        obtain ⟨r226,h227,hF⟩:=bindb hF
        obtain ⟨r228,h229,hF⟩:=bindb hF
        refine AWP.dr [(6,.call Tryz.func152 [] (Zcy a1 a0 (IntKind.wrap .u32 x220) r224 h225)),(11,.call Tryz.func152 [] (Zcy a2 a0 (IntKind.wrap .u32 x220) r226 h227)),(14,.call Tryz.func147 [] (ih (IntKind.wrap .i64 (a0 + (1:Int))) r224 r226 a3 r228 h229))] 19 [] [] [] [(0,(i64 a0)),(1,(slc 10 Za a1)),(2,(slc 10 Za a2)),(3,(.sc (.func (.func 132) #[] #[]))),(4,(i64 a3)),(12,(.own 0 (List.length v94))),(13,(i64 v95)),(14,(slc 1 Zb r12)),(15,(i64 v96)),(16,(.ptr 1 0)),(17,(slc 10 Za r228.1)),(18,(vb r228.2))] [bf 3 157 Zc v94 false,.cells (Zf (api_Range.mk (IntKind.wrap .u32 x220) (IntKind.wrap .u32 (IntKind.wrap .u64 (x222 - (1:Int))))))] ?_
        refine AWP.seq ?_
        refine .seq (.rg0 [] [(0,(i64 a0)),(1,(slc 10 Za a1)),(2,(slc 10 Za a2)),(3,(.sc (.func (.func 132) #[] #[]))),(4,(i64 a3)),(12,(.own 0 (List.length v94))),(13,(i64 v95)),(14,(slc 1 Zb r12)),(15,(i64 v96)),(16,(.ptr 1 0)),(17,(slc 10 Za r228.1)),(92,(vb (!r228.2)))] ?_)
        refine AWP.cif hF (fun h255 hF=>?_) (fun h255 hF=>?_)
        ·refine .seq (.rg0 [] [(10,nils),(11,(vb false))] ?_)
         refine AWP.ret ?_
         exact LeQ.of (.inr ⟨rfl,(([]:(List (Arr5 api_Range))),false),(someb hF).symm,(FnQ.f1 0 (.inr rfl) (.inr ⟨_,_,rfl,rfl,(.cons _ _ _ _ (.nil 10) (.cons _ _ _ _ (.refl _) .nil))⟩))⟩)
        ·refine AWP.skip ?_
         refine AWP.seq ?_
         refine .seq (.rg0 [(1,.len Za r228.1)] [(0,(i64 a0)),(1,(slc 10 Za a1)),(2,(slc 10 Za a2)),(3,(.sc (.func (.func 132) #[] #[]))),(4,(i64 a3)),(12,(.own 0 (List.length v94))),(13,(i64 v95)),(14,(slc 1 Zb r12)),(15,(i64 v96)),(16,(.ptr 1 0)),(17,(slc 10 Za r228.1)),(95,(vb ((List.length r228.1:Int) == (0:Int))))] ?_)
         refine AWP.cif hF (fun h254 hF=>?_) (fun h254 hF=>?_)
         ·refine AWP.exit ?_
          refine LeQ.start ?_
          refine LeQ.pk [0,1,2,3,4,12,13,14,15] 1 ?_
          exact (.inl ⟨rfl,v94,v95,(someb hF).symm,by kernel_rfl,by kernel_rfl⟩)
         ·refine AWP.skip ?_
          refine AWP.seq ?_
          refine .seq (.rg0 [(1,.len Zc v94)] [(0,(i64 a0)),(1,(slc 10 Za a1)),(2,(slc 10 Za a2)),(3,(.sc (.func (.func 132) #[] #[]))),(4,(i64 a3)),(12,(.own 0 (List.length v94))),(13,(i64 v95)),(14,(slc 1 Zb r12)),(15,(i64 v96)),(16,(.ptr 1 0)),(17,(slc 10 Za r228.1)),(19,(i64 (List.length v94:Int)))] ?_)
          refine AWP.seq ?_
          obtain ⟨b230,h231,hF⟩:=bindb hF
          replace h231:=someb h231
          obtain ⟨v234,h235,hF⟩:=bindb hF
          obtain ⟨b236,h237,hF⟩:=bindb hF
          replace h237:=someb h237
          obtain ⟨v242,h243,hF⟩:=bindb hF
          refine AWP.to [(0,(i64 a0)),(1,(slc 10 Za a1)),(2,(slc 10 Za a2)),(3,(.sc (.func (.func 132) #[] #[]))),(4,(i64 a3)),(12,(.own 0 (List.length v94))),(13,(i64 v95)),(14,(slc 1 Zb r12)),(15,(i64 v96)),(16,(.ptr 1 0)),(17,(slc 10 Za r228.1)),(19,(i64 (List.length v94:Int))),(122,(vb v242))] [bf 3 157 Zc v94 false,.cells (Zf (api_Range.mk (IntKind.wrap .u32 x220) (IntKind.wrap .u32 (IntKind.wrap .u64 (x222 - (1:Int))))))] ?_ ?_
          ·cases b230 with
           | false=>
            have h244:=someb (ifF h235 rfl)
            subst h244
            subst h237
            have h245:=someb (ifF h243 rfl)
            subst h245
            exact AWP.drT [(2,.bool h231)] 25 [] [] []
           | true=>
            have h246:=ifT h235 rfl
            obtain ⟨x232,h233,h246⟩:=bindb h246
            replace h246:=someb h246
            subst h246
            cases b236 with
            | false=>
             have h247:=someb (ifF h243 rfl)
             subst h247
             exact AWP.drT [(2,.bool h231),(6,.idx Zc h233),(7,.fdE Zc v94 (IntKind.wrap .i64 ((List.length v94:Int) - (1:Int)))),(8,.fdE Zc v94 (IntKind.wrap .i64 ((List.length v94:Int) - (1:Int)))),(9,.ldE Zc h233),(15,.bool h237)] 25 [] [] []
            | true=>
             have h248:=ifT h243 rfl
             obtain ⟨x238,h239,h248⟩:=bindb h248
             obtain ⟨r240,h241,h248⟩:=bindb h248
             replace h248:=someb h248
             subst h248
             exact AWP.drT [(2,.bool h231),(6,.idx Zc h233),(7,.fdE Zc v94 (IntKind.wrap .i64 ((List.length v94:Int) - (1:Int)))),(8,.fdE Zc v94 (IntKind.wrap .i64 ((List.length v94:Int) - (1:Int)))),(9,.ldE Zc h233),(15,.bool h237),(19,.idx Zc h239),(20,.fdE Zc v94 (IntKind.wrap .i64 ((List.length v94:Int) - (1:Int)))),(21,.ldE Zc h239),(23,.call Tryz.func146 [] (Zco x238.f_rest r228.1 r240 h241))] 25 [] [] []
          refine AWP.cif hF (fun h253 hF=>?_) (fun h253 hF=>?_)
          ·refine AWP.seq ?_
           obtain ⟨x249,h250,hF⟩:=bindb hF
           refine AWP.rg [(5,.idx Zc h250),(6,.fdE Zc v94 (IntKind.wrap .i64 ((List.length v94:Int) - (1:Int)))),(7,.fdE Zc v94 (IntKind.wrap .i64 ((List.length v94:Int) - (1:Int)))),(8,.stE Zc h250 ({ x249 with f_values:=({ x249.f_values with Hi:=(IntKind.wrap .u32 (IntKind.wrap .u64 (x222 - (1:Int)))) }:api_Range) }:packetset_group))] [(0,(i64 a0)),(1,(slc 10 Za a1)),(2,(slc 10 Za a2)),(3,(.sc (.func (.func 132) #[] #[]))),(4,(i64 a3)),(12,(.own 0 (List.length v94))),(13,(i64 v95)),(14,(slc 1 Zb r12)),(15,(i64 v96))] [bf 3 157 Zc (List.set v94 (Int.toNat (IntKind.wrap .i64 ((List.length v94:Int) - (1:Int)))) ({ x249 with f_values:=({ x249.f_values with Hi:=(IntKind.wrap .u32 (IntKind.wrap .u64 (x222 - (1:Int)))) }:api_Range) }:packetset_group)) false,.cells (Zf (api_Range.mk (IntKind.wrap .u32 x220) (IntKind.wrap .u32 (IntKind.wrap .u64 (x222 - (1:Int))))))] ?_
           rw [show ([(0,(i64 a0)),(1,(slc 10 Za a1)),(2,(slc 10 Za a2)),(3,(.sc (.func (.func 132) #[] #[]))),(4,(i64 a3)),(12,(.own 0 (List.length v94))),(13,(i64 v95)),(14,(slc 1 Zb r12)),(15,(i64 v96))]:St)=[(0,(i64 a0)),(1,(slc 10 Za a1)),(2,(slc 10 Za a2)),(3,(.sc (.func (.func 132) #[] #[]))),(4,(i64 a3)),(12,(.own 0 (List.length (List.set v94 (Int.toNat (IntKind.wrap .i64 ((List.length v94:Int) - (1:Int)))) ({ x249 with f_values:=({ x249.f_values with Hi:=(IntKind.wrap .u32 (IntKind.wrap .u64 (x222 - (1:Int)))) }:api_Range) }:packetset_group))))),(13,(i64 v95)),(14,(slc 1 Zb r12)),(15,(i64 v96))] by simp only [List.length_set]]
           refine AWP.exit ?_
           refine LeQ.start ?_
           refine LeQ.pk [0,1,2,3,4,12,13,14,15] 1 ?_
           exact (.inl ⟨rfl,(List.set v94 (Int.toNat (IntKind.wrap .i64 ((List.length v94:Int) - (1:Int)))) ({ x249 with f_values:=({ x249.f_values with Hi:=(IntKind.wrap .u32 (IntKind.wrap .u64 (x222 - (1:Int)))) }:api_Range) }:packetset_group)),v95,(someb hF).symm,by kernel_rfl,by kernel_rfl⟩)
          ·refine AWP.skip ?_
           refine AWP.seq ?_
           obtain ⟨h251,hF⟩:=chkb hF
           refine AWP.rg [(5,.app Zc (fun _=>by kernel_rfl) h251)] [(0,(i64 a0)),(1,(slc 10 Za a1)),(2,(slc 10 Za a2)),(3,(.sc (.func (.func 132) #[] #[]))),(4,(i64 a3)),(12,(.own 0 (List.length (v94++[(packetset_group.mk (api_Range.mk (IntKind.wrap .u32 x220) (IntKind.wrap .u32 (IntKind.wrap .u64 (x222 - (1:Int))))) r228.1)])))),(13,(i64 v95)),(14,(slc 1 Zb r12)),(15,(i64 v96)),(17,(slc 10 Za r228.1))] [bf 3 157 Zc (v94++[(packetset_group.mk (api_Range.mk (IntKind.wrap .u32 x220) (IntKind.wrap .u32 (IntKind.wrap .u64 (x222 - (1:Int))))) r228.1)]) false,.cells (Zf (api_Range.mk (IntKind.wrap .u32 x220) (IntKind.wrap .u32 (IntKind.wrap .u64 (x222 - (1:Int))))))] ?_
           refine .seq (.rg0 [(2,.len Za r228.1)] [(0,(i64 a0)),(1,(slc 10 Za a1)),(2,(slc 10 Za a2)),(3,(.sc (.func (.func 132) #[] #[]))),(4,(i64 a3)),(12,(.own 0 (List.length (v94++[(packetset_group.mk (api_Range.mk (IntKind.wrap .u32 x220) (IntKind.wrap .u32 (IntKind.wrap .u64 (x222 - (1:Int))))) r228.1)])))),(13,(i64 (IntKind.wrap .i64 (v95 + (List.length r228.1:Int))))),(14,(slc 1 Zb r12)),(15,(i64 v96))] ?_)
           refine .seq (.rg0 [] [(0,(i64 a0)),(1,(slc 10 Za a1)),(2,(slc 10 Za a2)),(3,(.sc (.func (.func 132) #[] #[]))),(4,(i64 a3)),(12,(.own 0 (List.length (v94++[(packetset_group.mk (api_Range.mk (IntKind.wrap .u32 x220) (IntKind.wrap .u32 (IntKind.wrap .u64 (x222 - (1:Int))))) r228.1)])))),(13,(i64 (IntKind.wrap .i64 (v95 + (List.length r228.1:Int))))),(14,(slc 1 Zb r12)),(15,(i64 v96)),(143,(vb (decide ((IntKind.wrap .i64 (v95 + (List.length r228.1:Int))) > a3))))] ?_)
           refine AWP.cif hF (fun h252 hF=>?_) (fun h252 hF=>?_)
           ·refine .seq (.rg0 [] [(10,nils),(11,(vb false))] ?_)
            refine AWP.ret ?_
            exact LeQ.of (.inr ⟨rfl,(([]:(List (Arr5 api_Range))),false),(someb hF).symm,(FnQ.f1 0 (.inr rfl) (.inr ⟨_,_,rfl,rfl,(.cons _ _ _ _ (.nil 10) (.cons _ _ _ _ (.refl _) .nil))⟩))⟩)
           ·refine AWP.skip ?_
            refine LeQ.start ?_
            refine LeQ.pk [0,1,2,3,4,12,13,14,15] 1 ?_
            exact (.inl ⟨rfl,(v94++[(packetset_group.mk (api_Range.mk (IntKind.wrap .u32 x220) (IntKind.wrap .u32 (IntKind.wrap .u64 (x222 - (1:Int))))) r228.1)]),(IntKind.wrap .i64 (v95 + (List.length r228.1:Int))),(someb hF).symm,by kernel_rfl,by kernel_rfl⟩)
       ·rintro _ _ _ (⟨rfl,v216,v217,rfl,rfl,rfl⟩ | ⟨rfl,r256,rfl,hq⟩)
        ·refine AWP.rg0 [] [(0,(i64 a0)),(1,(slc 10 Za a1)),(2,(slc 10 Za a2)),(3,(.sc (.func (.func 132) #[] #[]))),(4,(i64 a3)),(12,(.own 0 (List.length v216))),(13,(i64 v217)),(14,(slc 1 Zb r12)),(15,(i64 (IntKind.wrap .i64 (v96 + (1:Int)))))] ?_
         refine LeQ.start ?_
         refine LeQ.pk [0,1,2,3,4,12,13,14,15] 1 ?_
         exact ⟨n179,Nat.lt_succ_self _,v216,v217,(IntKind.wrap .i64 (v96 + (1:Int))),hF,by kernel_rfl,by kernel_rfl⟩
        ·exact LeQ.of (.inr ⟨rfl,r256,(someb hF).symm,hq⟩)
      ·refine AWP.exit ?_
       refine LeQ.start ?_
       refine LeQ.pk [0,12,13] 1 ?_
       exact (.inl ⟨rfl,v94,v95,(someb hF).symm,by kernel_rfl,by kernel_rfl⟩)
    ·rintro _ _ _ (⟨rfl,v175,v176,rfl,rfl,rfl⟩ | ⟨rfl,r355,rfl,hq⟩)
     ·refine AWP.seq ?_
      obtain ⟨h258,hF⟩:=chkb hF
      refine AWP.rg [(1,.mk0 Za h258)] [(0,(i64 a0)),(12,(.own 0 (List.length v175))),(20,(.own 1 (List.length ([]:(List (Arr5 api_Range))))))] [bf 3 157 Zc v175 false,bf 10 57 Za ([]:(List (Arr5 api_Range))) false] ?_
      refine AWP.seq ?_
      refine .seq (.rg0 [(1,.len Zc v175)] [(0,(i64 a0)),(20,(.own 1 (List.length ([]:(List (Arr5 api_Range)))))),(146,(.own 0 (List.length v175))),(147,(i64 (List.length v175:Int))),(148,(i64 (0:Int)))] ?_)
      obtain ⟨v322,h323,hF⟩:=bindb hF
      refine AWP.mid (fun e st H=>e=.normal∧st=[(20,(.own 1 (List.length v322)))]∧H=[bf 3 157 Zc v175 false,bf 10 57 Za v322 false]) ?_ ?_
      ·clear hF
       refine AWP.kp [0,20,146,147,148] 2 ?_
       refine AWP.bround (fun n st H=>∃ (v290:(List (Arr5 api_Range))),∃ (v291:Int),Zm a0 v175 n v290 v291=some v322∧st=[(0,(i64 a0)),(20,(.own 1 (List.length v290))),(146,(.own 0 (List.length v175))),(147,(i64 (List.length v175:Int))),(148,(i64 v291))]∧H=[bf 3 157 Zc v175 false,bf 10 57 Za v290 false]) fuel ⟨([]:(List (Arr5 api_Range))),(0:Int),h323,by kernel_rfl,by kernel_rfl⟩ ?_
       rintro n324 st H ⟨v290,v291,hF,rfl,rfl⟩
       cases n324 with
       | zero=>exact noneb hF
       | succ n324=>
        rw [Zm] at hF
        refine .seq (.rg0 [] [(0,(i64 a0)),(20,(.own 1 (List.length v290))),(146,(.own 0 (List.length v175))),(147,(i64 (List.length v175:Int))),(148,(i64 v291)),(149,(vb (decide (v291<(List.length v175:Int)))))] ?_)
        refine AWP.seq ?_
        refine AWP.cif hF (fun h354 hF=>?_) (fun h354 hF=>?_)
        ·refine AWP.skip ?_
         refine AWP.seq ?_
         refine AWP.block ?_
         refine AWP.seq ?_
         obtain ⟨x325,h326,hF⟩:=bindb hF
         refine AWP.rg [(0,.idx Zc h326),(1,.ldE Zc h326)] [(0,(i64 a0)),(20,(.own 1 (List.length v290))),(22,(.ptr 2 0)),(146,(.own 0 (List.length v175))),(147,(i64 (List.length v175:Int))),(148,(i64 v291))] [bf 3 157 Zc v175 false,bf 10 57 Za v290 false,.cells (Zc x325)] ?_
         refine .seq (.rg0 [(2,.len Za x325.f_rest)] [(0,(i64 a0)),(20,(.own 1 (List.length v290))),(22,(.ptr 2 0)),(146,(.own 0 (List.length v175))),(147,(i64 (List.length v175:Int))),(148,(i64 v291)),(153,(slc 10 Za x325.f_rest)),(154,(i64 (List.length x325.f_rest:Int))),(155,(i64 (0:Int)))] ?_)
         obtain ⟨v344,h345,hF⟩:=bindb hF
         refine AWP.mid (fun e st H=>e=.normal∧st=[(0,(i64 a0)),(20,(.own 1 (List.length v344))),(146,(.own 0 (List.length v175))),(147,(i64 (List.length v175:Int))),(148,(i64 v291))]∧H=[bf 3 157 Zc v175 false,bf 10 57 Za v344 false,.cells (Zc x325)]) ?_ ?_
         ·clear hF
          refine AWP.kp [0,20,22,146,147,148,153,154,155] 3 ?_
          refine AWP.bround (fun n st H=>∃ (v335:(List (Arr5 api_Range))),∃ (v336:Int),Zp a0 x325 n v335 v336=some v344∧st=[(0,(i64 a0)),(20,(.own 1 (List.length v335))),(22,(.ptr 2 0)),(146,(.own 0 (List.length v175))),(147,(i64 (List.length v175:Int))),(148,(i64 v291)),(153,(slc 10 Za x325.f_rest)),(154,(i64 (List.length x325.f_rest:Int))),(155,(i64 v336))]∧H=[bf 3 157 Zc v175 false,bf 10 57 Za v335 false,.cells (Zc x325)]) fuel ⟨v290,(0:Int),h345,by kernel_rfl,by kernel_rfl⟩ ?_
          rintro n346 st H ⟨v335,v336,hF,rfl,rfl⟩
          cases n346 with
          | zero=>exact noneb hF
          | succ n346=>
           rw [Zp] at hF
           refine .seq (.rg0 [] [(0,(i64 a0)),(20,(.own 1 (List.length v335))),(22,(.ptr 2 0)),(146,(.own 0 (List.length v175))),(147,(i64 (List.length v175:Int))),(148,(i64 v291)),(153,(slc 10 Za x325.f_rest)),(154,(i64 (List.length x325.f_rest:Int))),(155,(i64 v336)),(156,(vb (decide (v336<(List.length x325.f_rest:Int)))))] ?_)
           refine AWP.seq ?_
           refine AWP.cif hF (fun h353 hF=>?_) (fun h353 hF=>?_)
           ·refine AWP.skip ?_
            refine AWP.seq ?_
            refine AWP.block ?_
            refine AWP.seq ?_
            obtain ⟨x347,h348,hF⟩:=bindb hF
            refine AWP.rg [(0,.idx Za h348)] [(0,(i64 a0)),(20,(.own 1 (List.length v335))),(22,(.ptr 2 0)),(24,(.ptr 3 0)),(146,(.own 0 (List.length v175))),(147,(i64 (List.length v175:Int))),(148,(i64 v291)),(153,(slc 10 Za x325.f_rest)),(154,(i64 (List.length x325.f_rest:Int))),(155,(i64 v336))] [bf 3 157 Zc v175 false,bf 10 57 Za v335 false,.cells (Zc x325),.cells (Za x347)] ?_
            refine AWP.seq ?_
            obtain ⟨h349,hF⟩:=chkb hF
            refine AWP.rg [(3,.ixd h349),(4,.stA (fun q351=>Za (Arr5.set x347 q351 x325.f_values)) 0 2 0 h349)] [(0,(i64 a0)),(20,(.own 1 (List.length v335))),(22,(.ptr 2 0)),(24,(.ptr 3 0)),(146,(.own 0 (List.length v175))),(147,(i64 (List.length v175:Int))),(148,(i64 v291)),(153,(slc 10 Za x325.f_rest)),(154,(i64 (List.length x325.f_rest:Int))),(155,(i64 v336))] [bf 3 157 Zc v175 false,bf 10 57 Za v335 false,.cells (Zc x325),.cells (Za (Arr5.set x347 a0 x325.f_values))] ?_
            obtain ⟨h352,hF⟩:=chkb hF
            refine AWP.rg [(3,.app Za (fun _=>by kernel_rfl) h352)] [(0,(i64 a0)),(20,(.own 1 (List.length (v335++[(Arr5.set x347 a0 x325.f_values)])))),(22,(.ptr 2 0)),(146,(.own 0 (List.length v175))),(147,(i64 (List.length v175:Int))),(148,(i64 v291)),(153,(slc 10 Za x325.f_rest)),(154,(i64 (List.length x325.f_rest:Int))),(155,(i64 v336))] [bf 3 157 Zc v175 false,bf 10 57 Za (v335++[(Arr5.set x347 a0 x325.f_values)]) false,.cells (Zc x325),.cells (Za (Arr5.set x347 a0 x325.f_values))] ?_
            refine AWP.rg0 [] [(0,(i64 a0)),(20,(.own 1 (List.length (v335++[(Arr5.set x347 a0 x325.f_values)])))),(22,(.ptr 2 0)),(146,(.own 0 (List.length v175))),(147,(i64 (List.length v175:Int))),(148,(i64 v291)),(153,(slc 10 Za x325.f_rest)),(154,(i64 (List.length x325.f_rest:Int))),(155,(i64 (IntKind.wrap .i64 (v336 + (1:Int)))))] ?_
            refine LeQ.start ?_
            refine LeQ.pk [0,20,22,146,147,148,153,154,155] 3 ?_
            exact ⟨n346,Nat.lt_succ_self _,(v335++[(Arr5.set x347 a0 x325.f_values)]),(IntKind.wrap .i64 (v336 + (1:Int))),hF,by kernel_rfl,by kernel_rfl⟩
           ·refine AWP.exit ?_
            refine LeQ.start ?_
            refine LeQ.pk [0,20,146,147,148] 3 ?_
            have hr:=someb hF
            subst hr
            exact ⟨rfl,by kernel_rfl,by kernel_rfl⟩
         ·rintro _ _ _ ⟨rfl,rfl,rfl⟩
          refine AWP.rg0 [] [(0,(i64 a0)),(20,(.own 1 (List.length v344))),(146,(.own 0 (List.length v175))),(147,(i64 (List.length v175:Int))),(148,(i64 (IntKind.wrap .i64 (v291 + (1:Int)))))] ?_
          refine LeQ.start ?_
          refine LeQ.pk [0,20,146,147,148] 2 ?_
          exact ⟨n324,Nat.lt_succ_self _,v344,(IntKind.wrap .i64 (v291 + (1:Int))),hF,by kernel_rfl,by kernel_rfl⟩
        ·refine AWP.exit ?_
         refine LeQ.start ?_
         refine LeQ.pk [20] 2 ?_
         have hr:=someb hF
         subst hr
         exact ⟨rfl,by kernel_rfl,by kernel_rfl⟩
      ·rintro _ _ _ ⟨rfl,rfl,rfl⟩
       refine .seq (.rg0 [] [(10,(.own 1 (List.length v322))),(11,(vb true))] ?_)
       refine AWP.ret ?_
       have hr:=someb hF
       subst hr
       exact (FnQ.f1 0 (.inr rfl) (.inr ⟨_,_,rfl,rfl,(.cons _ _ _ _ (Wk.ownT (i:=1) (s:=10) (t:=57) (l:=v322) (sh:=false) (row:=Za) (by kernel_rfl) (.inl rfl)) (.cons _ _ _ _ (.refl _) .nil))⟩))
     ·have hr:=someb hF
      subst hr
      exact hq
theorem Zgp (a0:Int) (a1:(List (Arr5 api_Range))) (a2:(List (Arr5 api_Range))) (a3:Int) (r:((List (Arr5 api_Range)) × Bool)) (hF:Z1 fuel a0 a1 a2 a3=some r):ACall Tryz.prog glob 147 [(i64 a0),(slc 10 Za a1),(slc 10 Za a2),(.sc (.func (.func 132) #[] #[])),(i64 a3)] [] (Zdg r):=Zgc fuel a0 a1 a2 a3 r hF
def Zg2 (r:((List (Arr5 api_Range)) × Int)):PV→List Blk→Prop:=fun p K=>p=(.tup [(slc 10 Za r.1),(i64 r.2)])∧K=[]
theorem Ze7 (a0:(List (Arr5 api_Range))) (a1:(List (Arr5 api_Range))) (r:((List (Arr5 api_Range)) × Int)) (hF:Za3 a0 a1=some r):ACall Tryz.prog glob 131 [(slc 10 Za a0),(slc 10 Za a1),(.sc (.func (.func 132) #[] #[]))] [] (Zg2 r):=by
 refine ACall.body Tryz.func131 rfl (by kernel_rfl) ?_
 unfold Za3 at hF
 refine .seq (.rg0 [] [(0,(slc 10 Za a0)),(1,(slc 10 Za a1)),(2,(.sc (.func (.func 132) #[] #[])))] ?_)
 refine AWP.seq ?_
 obtain ⟨r1,h2,hF⟩:=bindb hF
 refine AWP.rg0 [(3,.call Tryz.func147 [] (Zgp (0:Int) a0 a1 (4096:Int) r1 h2))] [(8,(slc 10 Za r1.1)),(9,(vb r1.2))] ?_
 refine AWP.seq ?_
 refine .seq (.rg0 [] [(8,(slc 10 Za r1.1)),(18,(vb (!r1.2)))] ?_)
 refine AWP.cif hF (fun h3 hF=>?_) (fun h3 hF=>?_)
 ·refine .seq (.rg0 [] [(6,nils),(7,(i64 (3:Int)))] ?_)
  refine AWP.ret ?_
  have hr:=someb hF
  subst hr
  exact (FnQ.f1 0 (.inr rfl) (.inr ⟨_,_,rfl,rfl,(.cons _ _ _ _ (.nil 10) (.cons _ _ _ _ (.refl _) .nil))⟩))
 ·refine AWP.skip ?_
  refine .seq (.rg0 [] [(6,(slc 10 Za r1.1)),(7,(i64 (0:Int)))] ?_)
  refine AWP.ret ?_
  have hr:=someb hF
  subst hr
  exact (FnQ.f0 0 (.inr rfl))
def Zhp (r:((List (Arr5 api_Range)) × Int)):PV→List Blk→Prop:=fun p K=>p=(.tup [(slc 10 Za r.1),(i64 r.2)])∧K=[]
abbrev Zj2 (r:((List (Arr5 api_Range)) × Int)):Exit→St→List Blk→Prop:=FnQ Tryz.prog Tryz.f101.results 0 (Zhp r)
theorem Zhq (a0:(List (Arr5 api_Range))) (r:((List (Arr5 api_Range)) × Int)) (hF:Zdw a0=some r):ACall Tryz.prog glob 101 [(slc 10 Za a0)] [] (Zhp r):=by
 refine ACall.body Tryz.func101 rfl (by kernel_rfl) ?_
 unfold Zdw at hF
 refine .seq (.rg0 [] [(0,(slc 10 Za a0))] ?_)
 refine .seq (.rg0 [] [(0,(slc 10 Za a0)),(4,nils)] ?_)
 refine AWP.seq ?_
 refine AWP.seq ?_
 obtain ⟨r1,h2,hF⟩:=bindb hF
 refine AWP.rg0 [(1,.call Tryz.func129 [] (Zf5 a0 r1 h2)),(2,.len Za r1)] [(4,nils),(10,(slc 10 Za r1)),(11,(i64 (List.length r1:Int))),(12,(i64 (0:Int)))] ?_
 obtain ⟨o12,h13,hF⟩:=bindb hF
 refine AWP.mid (fun e st H=>(e=.normal∧∃ (v11:(List (Arr5 api_Range))),o12=(.inl v11)∧st=[(4,(slc 10 Za v11))]∧H=[])∨(e=.ret∧∃ (r:((List (Arr5 api_Range)) × Int)),o12=(.inr r)∧Zj2 r e st H)) ?_ ?_
 ·clear hF
  refine AWP.wk (p:=nils) (q:=(slc 10 Za ([]:(List (Arr5 api_Range))))) (st':=[(4,(slc 10 Za ([]:(List (Arr5 api_Range))))),(10,(slc 10 Za r1)),(11,(i64 (List.length r1:Int))),(12,(i64 (0:Int)))]) 4 (by kernel_rfl) (.nil 10) (by kernel_rfl) ?_
  refine AWP.kp [4,10,11,12] 0 ?_
  refine AWP.bround (fun n st H=>∃ (v3:(List (Arr5 api_Range))),∃ (v4:Int),Zcn r1 n v3 v4=some o12∧st=[(4,(slc 10 Za v3)),(10,(slc 10 Za r1)),(11,(i64 (List.length r1:Int))),(12,(i64 v4))]∧H=[]) fuel ⟨([]:(List (Arr5 api_Range))),(0:Int),h13,by kernel_rfl,by kernel_rfl⟩ ?_
  rintro n14 st H ⟨v3,v4,hF,rfl,rfl⟩
  cases n14 with
  | zero=>exact noneb hF
  | succ n14=>
   rw [Zcn] at hF
   refine .seq (.rg0 [] [(4,(slc 10 Za v3)),(10,(slc 10 Za r1)),(11,(i64 (List.length r1:Int))),(12,(i64 v4)),(13,(vb (decide (v4<(List.length r1:Int)))))] ?_)
   refine AWP.seq ?_
   refine AWP.cif hF (fun h20 hF=>?_) (fun h20 hF=>?_)
   ·refine AWP.skip ?_
    refine AWP.seq ?_
    refine AWP.block ?_
    refine AWP.seq ?_
    obtain ⟨x15,h16,hF⟩:=bindb hF
    refine AWP.rg [(0,.idx Za h16)] [(4,(slc 10 Za v3)),(6,(.ptr 0 0)),(10,(slc 10 Za r1)),(11,(i64 (List.length r1:Int))),(12,(i64 v4))] [.cells (Za x15)] ?_
    refine AWP.seq ?_
    obtain ⟨r17,h18,hF⟩:=bindb hF
    refine AWP.rg0 [(3,.call Tryz.func131 [] (Ze7 v3 [x15] r17 h18))] [(7,(slc 10 Za r17.1)),(8,(i64 r17.2)),(10,(slc 10 Za r1)),(11,(i64 (List.length r1:Int))),(12,(i64 v4))] ?_
    refine AWP.seq ?_
    refine .seq (.rg0 [] [(7,(slc 10 Za r17.1)),(8,(i64 r17.2)),(10,(slc 10 Za r1)),(11,(i64 (List.length r1:Int))),(12,(i64 v4)),(24,(vb (r17.2 != (0:Int))))] ?_)
    refine AWP.cif hF (fun h19 hF=>?_) (fun h19 hF=>?_)
    ·refine .seq (.rg0 [] [(2,nils),(3,(i64 r17.2))] ?_)
     refine AWP.ret ?_
     exact LeQ.of (.inr ⟨rfl,(([]:(List (Arr5 api_Range))),r17.2),(someb hF).symm,(FnQ.f1 0 (.inr rfl) (.inr ⟨_,_,rfl,rfl,(.cons _ _ _ _ (.nil 10) (.cons _ _ _ _ (.refl _) .nil))⟩))⟩)
    ·refine AWP.skip ?_
     refine AWP.rg0 [] [(4,(slc 10 Za r17.1)),(10,(slc 10 Za r1)),(11,(i64 (List.length r1:Int))),(12,(i64 v4))] ?_
     refine AWP.rg0 [] [(4,(slc 10 Za r17.1)),(10,(slc 10 Za r1)),(11,(i64 (List.length r1:Int))),(12,(i64 (IntKind.wrap .i64 (v4 + (1:Int)))))] ?_
     refine LeQ.start ?_
     refine LeQ.pk [4,10,11,12] 0 ?_
     exact ⟨n14,Nat.lt_succ_self _,r17.1,(IntKind.wrap .i64 (v4 + (1:Int))),hF,by kernel_rfl,by kernel_rfl⟩
   ·refine AWP.exit ?_
    refine LeQ.start ?_
    refine LeQ.pk [4] 0 ?_
    exact (.inl ⟨rfl,v3,(someb hF).symm,by kernel_rfl,by kernel_rfl⟩)
 ·rintro _ _ _ (⟨rfl,v11,rfl,rfl,rfl⟩ | ⟨rfl,r21,rfl,hq⟩)
  ·refine .seq (.rg0 [] [(2,(slc 10 Za v11)),(3,(i64 (0:Int)))] ?_)
   refine AWP.ret ?_
   have hr:=someb hF
   subst hr
   exact (FnQ.f0 0 (.inr rfl))
  ·have hr:=someb hF
   subst hr
   exact hq
def Zim (r:((List (Arr5 api_Range)) × rewrite_ledger)):PV→List Blk→Prop:=fun p K=>p=(slc 10 Za r.1)∧K=[.cells (Zg r.2)]
theorem Zea (a0:rewrite_ledger) (a1:(List (Arr5 api_Range))) (a2:Int) (r:((List (Arr5 api_Range)) × rewrite_ledger)) (hF:Zbr a0 a1 a2=some r):ACall Tryz.prog glob 100 [(.ptr 0 0),(slc 10 Za a1),(i64 a2)] [.cells (Zg a0)] (Zim r):=by
 refine ACall.body Tryz.func100 rfl (by kernel_rfl) ?_
 unfold Zbr at hF
 refine .seq (.rg0 [] [(0,(.ptr 0 0)),(1,(slc 10 Za a1)),(2,(i64 a2))] ?_)
 obtain ⟨v2,h3,hF⟩:=bindb hF
 refine AWP.seq ?_
 refine AWP.mid (fun e st H=>e=.normal∧st=[(0,(.ptr 0 0)),(1,(slc 10 Za a1))]∧H=[.cells (Zg v2)]) ?_ ?_
 ·clear hF
  have hF:=h3
  refine .seq (.rg0 [] [(0,(.ptr 0 0)),(1,(slc 10 Za a1)),(2,(i64 a2)),(11,(vb (a0.f_err == (0:Int))))] ?_)
  refine AWP.cif hF (fun h4 hF=>?_) (fun h4 hF=>?_)
  ·refine AWP.rg [] [(0,(.ptr 0 0)),(1,(slc 10 Za a1))] [.cells (Zg ({ a0 with f_err:=a2 }:rewrite_ledger))] ?_
   refine LeQ.start ?_
   refine LeQ.pk [0,1] 1 ?_
   have hr:=someb hF
   subst hr
   exact ⟨rfl,by kernel_rfl,by kernel_rfl⟩
  ·refine AWP.skip ?_
   refine LeQ.start ?_
   refine LeQ.pk [0,1] 1 ?_
   have hr:=someb hF
   subst hr
   exact ⟨rfl,by kernel_rfl,by kernel_rfl⟩
 ·rintro _ _ _ ⟨rfl,rfl,rfl⟩
  refine AWP.seq ?_
  refine .seq (.rg0 [] [(1,(slc 10 Za a1)),(20,(vb (v2.f_err != (0:Int))))] ?_)
  refine AWP.cif hF (fun h5 hF=>?_) (fun h5 hF=>?_)
  ·refine .seq (.rg0 [] [(6,nils)] ?_)
   refine AWP.ret ?_
   have hr:=someb hF
   subst hr
   exact (FnQ.f1 1 (.inr rfl) (.inl (.nil 10)))
  ·refine AWP.skip ?_
   refine .seq (.rg0 [] [(6,(slc 10 Za a1))] ?_)
   refine AWP.ret ?_
   have hr:=someb hF
   subst hr
   exact (FnQ.f0 1 (.inr rfl))
def Zin (r:((List (Arr5 api_Range)) × rewrite_ledger)):PV→List Blk→Prop:=fun p K=>p=(slc 10 Za r.1)∧K=[.cells (Zg r.2)]
theorem Zgl (a0:rewrite_ledger) (a1:(List (Arr5 api_Range))) (r:((List (Arr5 api_Range)) × rewrite_ledger)) (hF:Zcq a0 a1=some r):ACall Tryz.prog glob 51 [(.ptr 0 0),(slc 10 Za a1)] [.cells (Zg a0)] (Zin r):=by
 refine ACall.body Tryz.func51 rfl (by kernel_rfl) ?_
 unfold Zcq at hF
 refine .seq (.rg0 [] [(0,(.ptr 0 0)),(1,(slc 10 Za a1))] ?_)
 refine AWP.seq ?_
 refine AWP.seq ?_
 obtain ⟨r1,h2,hF⟩:=bindb hF
 refine AWP.rg0 [(1,.call Tryz.func99 [] (Zhg a1 r1 h2))] [(0,(.ptr 0 0)),(1,(slc 10 Za a1)),(6,(vb r1))] ?_
 refine AWP.cif hF (fun h7 hF=>?_) (fun h7 hF=>?_)
 ·refine .seq (.rg0 [] [(4,(slc 10 Za a1))] ?_)
  refine AWP.ret ?_
  have hr:=someb hF
  subst hr
  exact (FnQ.f0 1 (.inr rfl))
 ·refine AWP.skip ?_
  refine AWP.seq ?_
  obtain ⟨r3,h4,hF⟩:=bindb hF
  obtain ⟨r5,h6,hF⟩:=bindb hF
  refine AWP.rg [(2,.call Tryz.func101 [] (Zhq a1 r3 h4)),(5,.call Tryz.func100 [] (Zea a0 r3.1 r3.2 r5 h6))] [(4,(slc 10 Za r5.1))] [.cells (Zg r5.2)] ?_
  refine AWP.ret ?_
  have hr:=someb hF
  subst hr
  exact (FnQ.f0 1 (.inr rfl))
def Zkh (r:((List (Arr5 api_Range)) × Int)):PV→List Blk→Prop:=fun p K=>p=(.tup [(slc 10 Za r.1),(i64 r.2)])∧K=[]
theorem Zeb (a0:(List (Arr5 api_Range))) (r:((List (Arr5 api_Range)) × Int)) (hF:Zb8 a0=some r):ACall Tryz.prog glob 140 [(slc 10 Za a0)] [] (Zkh r):=by
 refine ACall.body Tryz.func140 rfl (by kernel_rfl) ?_
 unfold Zb8 at hF
 refine .seq (.rg0 [] [(0,(slc 10 Za a0))] ?_)
 refine AWP.seq ?_
 refine AWP.seq ?_
 obtain ⟨r1,h2,hF⟩:=bindb hF
 refine AWP.rg0 [(1,.call Tryz.func99 [] (Zhg a0 r1 h2))] [(0,(slc 10 Za a0)),(5,(vb r1))] ?_
 refine AWP.cif hF (fun h5 hF=>?_) (fun h5 hF=>?_)
 ·refine .seq (.rg0 [] [(2,(slc 10 Za a0)),(3,(i64 (0:Int)))] ?_)
  refine AWP.ret ?_
  have hr:=someb hF
  subst hr
  exact (FnQ.f0 0 (.inr rfl))
 ·refine AWP.skip ?_
  refine AWP.seq ?_
  obtain ⟨r3,h4,hF⟩:=bindb hF
  refine AWP.rg0 [(1,.call Tryz.func101 [] (Zhq a0 r3 h4))] [(2,(slc 10 Za r3.1)),(3,(i64 r3.2))] ?_
  refine AWP.ret ?_
  have hr:=someb hF
  subst hr
  exact (FnQ.f0 0 (.inr rfl))
def Zj3 (r:Bool):PV→List Blk→Prop:=fun p K=>p=(vb r)∧K=[]
theorem Zhr (a0:Bool) (a1:Bool) (r:Bool) (hF:Zdx a0 a1=some r):ACall Tryz.prog glob 134 [(vb a0),(vb a1)] [] (Zj3 r):=by
 refine ACall.body Tryz.func134 rfl (by kernel_rfl) ?_
 unfold Zdx at hF
 refine .seq (.rg0 [] [(0,(vb a0)),(1,(vb a1))] ?_)
 refine AWP.seq ?_
 obtain ⟨b1,h2,hF⟩:=bindb hF
 replace h2:=someb h2
 refine AWP.to [(4,(vb (b1 && a1)))] [] ?_ ?_
 ·cases b1 with
  | false=>
   exact AWP.rgT [(1,.bool h2)]
  | true=>
   exact AWP.rgT [(1,.bool h2)]
 refine AWP.ret ?_
 have hr:=someb hF
 subst hr
 exact (FnQ.f0 0 (.inr rfl))
def Zdq (r:((List (Arr5 api_Range)) × Bool)):PV→List Blk→Prop:=fun p K=>p=(.tup [(slc 10 Za r.1),(vb r.2)])∧K=[]
abbrev Ze8 (r:((List (Arr5 api_Range)) × Bool)):Exit→St→List Blk→Prop:=FnQ Tryz.prog Tryz.f147.results 0 (Zdq r)
theorem Zgq:∀ (nr:Nat) (a0:Int) (a1:(List (Arr5 api_Range))) (a2:(List (Arr5 api_Range))) (a3:Int) (r:((List (Arr5 api_Range)) × Bool)) (hF:Z5 nr a0 a1 a2 a3=some r),ACall Tryz.prog glob 147 [(i64 a0),(slc 10 Za a1),(slc 10 Za a2),(.sc (.func (.func 134) #[] #[])),(i64 a3)] [] (Zdq r):=by
 intro nr
 induction nr with
 | zero=>intro a0 a1 a2 a3 r hF; exact noneb (by rw [Z5] at hF; exact hF)
 | succ nr ih=>
  intro a0 a1 a2 a3 r hF
  refine ACall.body Tryz.func147 rfl (by kernel_rfl) ?_
  rw [Z5] at hF
  refine .seq (.rg0 [] [(0,(i64 a0)),(1,(slc 10 Za a1)),(2,(slc 10 Za a2)),(3,(.sc (.func (.func 134) #[] #[]))),(4,(i64 a3))] ?_)
  refine AWP.seq ?_
  refine .seq (.rg0 [] [(0,(i64 a0)),(1,(slc 10 Za a1)),(2,(slc 10 Za a2)),(3,(.sc (.func (.func 134) #[] #[]))),(4,(i64 a3)),(26,(vb (a0 == (5:Int))))] ?_)
  refine AWP.cif hF (fun h357 hF=>?_) (fun h357 hF=>?_)
  ·refine AWP.seq ?_
   refine AWP.seq ?_
   obtain ⟨r1,h2,hF⟩:=bindb hF
   refine AWP.rg0 [(2,.len Za a1),(5,.len Za a2),(7,.call Tryz.func134 [] (Zhr (decide ((List.length a1:Int) > (0:Int))) (decide ((List.length a2:Int) > (0:Int))) r1 h2))] [(34,(vb r1))] ?_
   refine AWP.cif hF (fun h3 hF=>?_) (fun h3 hF=>?_)
   ·refine .seq (.rg0 [] [(10,(slc 10 Za [(Arr5.mk Zi Zi Zi Zi Zi)])),(11,(vb true))] ?_)
    refine AWP.ret ?_
    have hr:=someb hF
    subst hr
    exact (FnQ.f0 0 (.inr rfl))
   ·refine AWP.skip ?_
    refine .seq (.rg0 [] [(10,nils),(11,(vb true))] ?_)
    refine AWP.ret ?_
    have hr:=someb hF
    subst hr
    exact (FnQ.f1 0 (.inr rfl) (.inr ⟨_,_,rfl,rfl,(.cons _ _ _ _ (.nil 10) (.cons _ _ _ _ (.refl _) .nil))⟩))
  ·refine AWP.skip ?_
   refine AWP.seq ?_
   refine AWP.seq ?_
   obtain ⟨b4,h5,hF⟩:=bindb hF
   replace h5:=someb h5
   obtain ⟨v8,h9,hF⟩:=bindb hF
   refine AWP.to [(0,(i64 a0)),(1,(slc 10 Za a1)),(2,(slc 10 Za a2)),(3,(.sc (.func (.func 134) #[] #[]))),(4,(i64 a3)),(47,(vb v8))] [] ?_ ?_
   ·cases b4 with
    | false=>
     have h10:=someb (ifF h9 rfl)
     subst h10
     exact AWP.rgT [(1,.len Za a1),(3,.len Za a2),(6,.bool h5)]
    | true=>
     have h11:=ifT h9 rfl
     obtain ⟨r6,h7,h11⟩:=bindb h11
     replace h11:=someb h11
     subst h11
     exact AWP.rgT [(1,.len Za a1),(3,.len Za a2),(6,.bool h5),(8,.call Tryz.func134 [] (Zhr false false r6 h7))]
   refine AWP.cif hF (fun h356 hF=>?_) (fun h356 hF=>?_)
   ·refine .seq (.rg0 [] [(10,nils),(11,(vb true))] ?_)
    refine AWP.ret ?_
    have hr:=someb hF
    subst hr
    exact (FnQ.f1 0 (.inr rfl) (.inr ⟨_,_,rfl,rfl,(.cons _ _ _ _ (.nil 10) (.cons _ _ _ _ (.refl _) .nil))⟩))
   ·refine AWP.skip ?_
    refine .seq (.rg0 [] [(0,(i64 a0)),(1,(slc 10 Za a1)),(2,(slc 10 Za a2)),(3,(.sc (.func (.func 134) #[] #[]))),(4,(i64 a3)),(12,nils)] ?_)
    refine AWP.own (H':=[bf 3 157 Zc ([]:(List packetset_group)) false]) (st':=[(12,(.own 0 (List.length ([]:(List packetset_group))))),(0,(i64 a0)),(1,(slc 10 Za a1)),(2,(slc 10 Za a2)),(3,(.sc (.func (.func 134) #[] #[]))),(4,(i64 a3))]) 12 3 157 (by kernel_rfl) (by kernel_rfl) (by kernel_rfl) ?_
    refine AWP.pick (st':=[(0,(i64 a0)),(1,(slc 10 Za a1)),(2,(slc 10 Za a2)),(3,(.sc (.func (.func 134) #[] #[]))),(4,(i64 a3)),(12,(.own 0 (List.length ([]:(List packetset_group)))))]) (ks:=[0,1,2,3,4,12]) (by kernel_rfl) ?_
    refine .seq (.rg0 [] [(0,(i64 a0)),(1,(slc 10 Za a1)),(2,(slc 10 Za a2)),(3,(.sc (.func (.func 134) #[] #[]))),(4,(i64 a3)),(12,(.own 0 (List.length ([]:(List packetset_group))))),(13,(i64 (0:Int)))] ?_)
    refine AWP.seq ?_
    obtain ⟨r12,h13,hF⟩:=bindb hF
    refine AWP.rg0 [(4,.call Tryz.func151 [] (Zgi a0 [a1,a2] r12 h13))] [(0,(i64 a0)),(1,(slc 10 Za a1)),(2,(slc 10 Za a2)),(3,(.sc (.func (.func 134) #[] #[]))),(4,(i64 a3)),(12,(.own 0 (List.length ([]:(List packetset_group))))),(13,(i64 (0:Int))),(14,(slc 1 Zb r12))] ?_
    refine AWP.seq ?_
    refine .seq (.rg0 [] [(0,(i64 a0)),(1,(slc 10 Za a1)),(2,(slc 10 Za a2)),(3,(.sc (.func (.func 134) #[] #[]))),(4,(i64 a3)),(12,(.own 0 (List.length ([]:(List packetset_group))))),(13,(i64 (0:Int))),(14,(slc 1 Zb r12)),(15,(i64 (0:Int)))] ?_)
    obtain ⟨o177,h178,hF⟩:=bindb hF
    refine AWP.mid (fun e st H=>(e=.normal∧∃ (v175:(List packetset_group)),∃ (v176:Int),o177=(.inl (v175,v176))∧st=[(0,(i64 a0)),(12,(.own 0 (List.length v175))),(13,(i64 v176))]∧H=[bf 3 157 Zc v175 false])∨(e=.ret∧∃ (r:((List (Arr5 api_Range)) × Bool)),o177=(.inr r)∧Ze8 r e st H)) ?_ ?_
    ·clear hF
     refine AWP.kp [0,1,2,3,4,12,13,14,15] 1 ?_
     refine AWP.bround (fun n st H=>∃ (v94:(List packetset_group)),∃ (v95:Int),∃ (v96:Int),Za6 a0 a1 a2 a3 (Z5 nr) r12 n v94 v95 v96=some o177∧st=[(0,(i64 a0)),(1,(slc 10 Za a1)),(2,(slc 10 Za a2)),(3,(.sc (.func (.func 134) #[] #[]))),(4,(i64 a3)),(12,(.own 0 (List.length v94))),(13,(i64 v95)),(14,(slc 1 Zb r12)),(15,(i64 v96))]∧H=[bf 3 157 Zc v94 false]) fuel ⟨([]:(List packetset_group)),(0:Int),(0:Int),h178,by kernel_rfl,by kernel_rfl⟩ ?_
     rintro n179 st H ⟨v94,v95,v96,hF,rfl,rfl⟩
     cases n179 with
     | zero=>exact noneb hF
     | succ n179=>
      rw [Za6] at hF
      refine AWP.seq ?_
      refine .seq (.rg0 [(3,.len Zb r12)] [(0,(i64 a0)),(1,(slc 10 Za a1)),(2,(slc 10 Za a2)),(3,(.sc (.func (.func 134) #[] #[]))),(4,(i64 a3)),(12,(.own 0 (List.length v94))),(13,(i64 v95)),(14,(slc 1 Zb r12)),(15,(i64 v96)),(57,(vb (decide ((IntKind.wrap .i64 (v96 + (1:Int)))<(List.length r12:Int)))))] ?_)
      refine AWP.cif hF (fun h257 hF=>?_) (fun h257 hF=>?_)
      ·refine AWP.skip ?_
       obtain ⟨o218,h219,hF⟩:=bindb hF
       refine AWP.seq ?_
       refine AWP.mid (fun e st H=>(e=.normal∧∃ (v216:(List packetset_group)),∃ (v217:Int),o218=(.inl (v216,v217))∧st=[(0,(i64 a0)),(1,(slc 10 Za a1)),(2,(slc 10 Za a2)),(3,(.sc (.func (.func 134) #[] #[]))),(4,(i64 a3)),(12,(.own 0 (List.length v216))),(13,(i64 v217)),(14,(slc 1 Zb r12)),(15,(i64 v96))]∧H=[bf 3 157 Zc v216 false])∨(e=.ret∧∃ (r:((List (Arr5 api_Range)) × Bool)),o218=(.inr r)∧Ze8 r e st H)) ?_ ?_
       ·clear hF
        have hF:=h219
        refine AWP.block ?_
        refine AWP.seq ?_
        obtain ⟨x220,h221,hF⟩:=bindb hF
        obtain ⟨x222,h223,hF⟩:=bindb hF
        refine AWP.dr [(2,.idx Zb h221),(8,.idx Zb h223)] 14 [] [13] [] [(0,(i64 a0)),(1,(slc 10 Za a1)),(2,(slc 10 Za a2)),(3,(.sc (.func (.func 134) #[] #[]))),(4,(i64 a3)),(12,(.own 0 (List.length v94))),(13,(i64 v95)),(14,(slc 1 Zb r12)),(15,(i64 v96)),(16,(.ptr 1 0))] [bf 3 157 Zc v94 false,.cells (Zf (api_Range.mk (IntKind.wrap .u32 x220) (IntKind.wrap .u32 (IntKind.wrap .u64 (x222 - (1:Int))))))] ?_
        refine AWP.seq ?_
        obtain ⟨r224,h225,hF⟩:=bindb hF
        obtain ⟨r226,h227,hF⟩:=bindb hF
        obtain ⟨r228,h229,hF⟩:=bindb hF
        refine AWP.dr [(6,.call Tryz.func152 [] (Zcy a1 a0 (IntKind.wrap .u32 x220) r224 h225)),(11,.call Tryz.func152 [] (Zcy a2 a0 (IntKind.wrap .u32 x220) r226 h227)),(14,.call Tryz.func147 [] (ih (IntKind.wrap .i64 (a0 + (1:Int))) r224 r226 a3 r228 h229))] 19 [] [] [] [(0,(i64 a0)),(1,(slc 10 Za a1)),(2,(slc 10 Za a2)),(3,(.sc (.func (.func 134) #[] #[]))),(4,(i64 a3)),(12,(.own 0 (List.length v94))),(13,(i64 v95)),(14,(slc 1 Zb r12)),(15,(i64 v96)),(16,(.ptr 1 0)),(17,(slc 10 Za r228.1)),(18,(vb r228.2))] [bf 3 157 Zc v94 false,.cells (Zf (api_Range.mk (IntKind.wrap .u32 x220) (IntKind.wrap .u32 (IntKind.wrap .u64 (x222 - (1:Int))))))] ?_
        refine AWP.seq ?_
        refine .seq (.rg0 [] [(0,(i64 a0)),(1,(slc 10 Za a1)),(2,(slc 10 Za a2)),(3,(.sc (.func (.func 134) #[] #[]))),(4,(i64 a3)),(12,(.own 0 (List.length v94))),(13,(i64 v95)),(14,(slc 1 Zb r12)),(15,(i64 v96)),(16,(.ptr 1 0)),(17,(slc 10 Za r228.1)),(92,(vb (!r228.2)))] ?_)
        refine AWP.cif hF (fun h255 hF=>?_) (fun h255 hF=>?_)
        ·refine .seq (.rg0 [] [(10,nils),(11,(vb false))] ?_)
         refine AWP.ret ?_
         exact LeQ.of (.inr ⟨rfl,(([]:(List (Arr5 api_Range))),false),(someb hF).symm,(FnQ.f1 0 (.inr rfl) (.inr ⟨_,_,rfl,rfl,(.cons _ _ _ _ (.nil 10) (.cons _ _ _ _ (.refl _) .nil))⟩))⟩)
        ·refine AWP.skip ?_
         refine AWP.seq ?_
         refine .seq (.rg0 [(1,.len Za r228.1)] [(0,(i64 a0)),(1,(slc 10 Za a1)),(2,(slc 10 Za a2)),(3,(.sc (.func (.func 134) #[] #[]))),(4,(i64 a3)),(12,(.own 0 (List.length v94))),(13,(i64 v95)),(14,(slc 1 Zb r12)),(15,(i64 v96)),(16,(.ptr 1 0)),(17,(slc 10 Za r228.1)),(95,(vb ((List.length r228.1:Int) == (0:Int))))] ?_)
         refine AWP.cif hF (fun h254 hF=>?_) (fun h254 hF=>?_)
         ·refine AWP.exit ?_
          refine LeQ.start ?_
          refine LeQ.pk [0,1,2,3,4,12,13,14,15] 1 ?_
          exact (.inl ⟨rfl,v94,v95,(someb hF).symm,by kernel_rfl,by kernel_rfl⟩)
         ·refine AWP.skip ?_
          refine AWP.seq ?_
          refine .seq (.rg0 [(1,.len Zc v94)] [(0,(i64 a0)),(1,(slc 10 Za a1)),(2,(slc 10 Za a2)),(3,(.sc (.func (.func 134) #[] #[]))),(4,(i64 a3)),(12,(.own 0 (List.length v94))),(13,(i64 v95)),(14,(slc 1 Zb r12)),(15,(i64 v96)),(16,(.ptr 1 0)),(17,(slc 10 Za r228.1)),(19,(i64 (List.length v94:Int)))] ?_)
          refine AWP.seq ?_
          obtain ⟨b230,h231,hF⟩:=bindb hF
          replace h231:=someb h231
          obtain ⟨v234,h235,hF⟩:=bindb hF
          obtain ⟨b236,h237,hF⟩:=bindb hF
          replace h237:=someb h237
          obtain ⟨v242,h243,hF⟩:=bindb hF
          refine AWP.to [(0,(i64 a0)),(1,(slc 10 Za a1)),(2,(slc 10 Za a2)),(3,(.sc (.func (.func 134) #[] #[]))),(4,(i64 a3)),(12,(.own 0 (List.length v94))),(13,(i64 v95)),(14,(slc 1 Zb r12)),(15,(i64 v96)),(16,(.ptr 1 0)),(17,(slc 10 Za r228.1)),(19,(i64 (List.length v94:Int))),(122,(vb v242))] [bf 3 157 Zc v94 false,.cells (Zf (api_Range.mk (IntKind.wrap .u32 x220) (IntKind.wrap .u32 (IntKind.wrap .u64 (x222 - (1:Int))))))] ?_ ?_
          ·cases b230 with
           | false=>
            have h244:=someb (ifF h235 rfl)
            subst h244
            subst h237
            have h245:=someb (ifF h243 rfl)
            subst h245
            exact AWP.drT [(2,.bool h231)] 25 [] [] []
           | true=>
            have h246:=ifT h235 rfl
            obtain ⟨x232,h233,h246⟩:=bindb h246
            replace h246:=someb h246
            subst h246
            cases b236 with
            | false=>
             have h247:=someb (ifF h243 rfl)
             subst h247
             exact AWP.drT [(2,.bool h231),(6,.idx Zc h233),(7,.fdE Zc v94 (IntKind.wrap .i64 ((List.length v94:Int) - (1:Int)))),(8,.fdE Zc v94 (IntKind.wrap .i64 ((List.length v94:Int) - (1:Int)))),(9,.ldE Zc h233),(15,.bool h237)] 25 [] [] []
            | true=>
             have h248:=ifT h243 rfl
             obtain ⟨x238,h239,h248⟩:=bindb h248
             obtain ⟨r240,h241,h248⟩:=bindb h248
             replace h248:=someb h248
             subst h248
             exact AWP.drT [(2,.bool h231),(6,.idx Zc h233),(7,.fdE Zc v94 (IntKind.wrap .i64 ((List.length v94:Int) - (1:Int)))),(8,.fdE Zc v94 (IntKind.wrap .i64 ((List.length v94:Int) - (1:Int)))),(9,.ldE Zc h233),(15,.bool h237),(19,.idx Zc h239),(20,.fdE Zc v94 (IntKind.wrap .i64 ((List.length v94:Int) - (1:Int)))),(21,.ldE Zc h239),(23,.call Tryz.func146 [] (Zco x238.f_rest r228.1 r240 h241))] 25 [] [] []
          refine AWP.cif hF (fun h253 hF=>?_) (fun h253 hF=>?_)
          ·refine AWP.seq ?_
           obtain ⟨x249,h250,hF⟩:=bindb hF
           refine AWP.rg [(5,.idx Zc h250),(6,.fdE Zc v94 (IntKind.wrap .i64 ((List.length v94:Int) - (1:Int)))),(7,.fdE Zc v94 (IntKind.wrap .i64 ((List.length v94:Int) - (1:Int)))),(8,.stE Zc h250 ({ x249 with f_values:=({ x249.f_values with Hi:=(IntKind.wrap .u32 (IntKind.wrap .u64 (x222 - (1:Int)))) }:api_Range) }:packetset_group))] [(0,(i64 a0)),(1,(slc 10 Za a1)),(2,(slc 10 Za a2)),(3,(.sc (.func (.func 134) #[] #[]))),(4,(i64 a3)),(12,(.own 0 (List.length v94))),(13,(i64 v95)),(14,(slc 1 Zb r12)),(15,(i64 v96))] [bf 3 157 Zc (List.set v94 (Int.toNat (IntKind.wrap .i64 ((List.length v94:Int) - (1:Int)))) ({ x249 with f_values:=({ x249.f_values with Hi:=(IntKind.wrap .u32 (IntKind.wrap .u64 (x222 - (1:Int)))) }:api_Range) }:packetset_group)) false,.cells (Zf (api_Range.mk (IntKind.wrap .u32 x220) (IntKind.wrap .u32 (IntKind.wrap .u64 (x222 - (1:Int))))))] ?_
           rw [show ([(0,(i64 a0)),(1,(slc 10 Za a1)),(2,(slc 10 Za a2)),(3,(.sc (.func (.func 134) #[] #[]))),(4,(i64 a3)),(12,(.own 0 (List.length v94))),(13,(i64 v95)),(14,(slc 1 Zb r12)),(15,(i64 v96))]:St)=[(0,(i64 a0)),(1,(slc 10 Za a1)),(2,(slc 10 Za a2)),(3,(.sc (.func (.func 134) #[] #[]))),(4,(i64 a3)),(12,(.own 0 (List.length (List.set v94 (Int.toNat (IntKind.wrap .i64 ((List.length v94:Int) - (1:Int)))) ({ x249 with f_values:=({ x249.f_values with Hi:=(IntKind.wrap .u32 (IntKind.wrap .u64 (x222 - (1:Int)))) }:api_Range) }:packetset_group))))),(13,(i64 v95)),(14,(slc 1 Zb r12)),(15,(i64 v96))] by simp only [List.length_set]]
           refine AWP.exit ?_
           refine LeQ.start ?_
           refine LeQ.pk [0,1,2,3,4,12,13,14,15] 1 ?_
           exact (.inl ⟨rfl,(List.set v94 (Int.toNat (IntKind.wrap .i64 ((List.length v94:Int) - (1:Int)))) ({ x249 with f_values:=({ x249.f_values with Hi:=(IntKind.wrap .u32 (IntKind.wrap .u64 (x222 - (1:Int)))) }:api_Range) }:packetset_group)),v95,(someb hF).symm,by kernel_rfl,by kernel_rfl⟩)
          ·refine AWP.skip ?_
           refine AWP.seq ?_
           obtain ⟨h251,hF⟩:=chkb hF
           refine AWP.rg [(5,.app Zc (fun _=>by kernel_rfl) h251)] [(0,(i64 a0)),(1,(slc 10 Za a1)),(2,(slc 10 Za a2)),(3,(.sc (.func (.func 134) #[] #[]))),(4,(i64 a3)),(12,(.own 0 (List.length (v94++[(packetset_group.mk (api_Range.mk (IntKind.wrap .u32 x220) (IntKind.wrap .u32 (IntKind.wrap .u64 (x222 - (1:Int))))) r228.1)])))),(13,(i64 v95)),(14,(slc 1 Zb r12)),(15,(i64 v96)),(17,(slc 10 Za r228.1))] [bf 3 157 Zc (v94++[(packetset_group.mk (api_Range.mk (IntKind.wrap .u32 x220) (IntKind.wrap .u32 (IntKind.wrap .u64 (x222 - (1:Int))))) r228.1)]) false,.cells (Zf (api_Range.mk (IntKind.wrap .u32 x220) (IntKind.wrap .u32 (IntKind.wrap .u64 (x222 - (1:Int))))))] ?_
           refine .seq (.rg0 [(2,.len Za r228.1)] [(0,(i64 a0)),(1,(slc 10 Za a1)),(2,(slc 10 Za a2)),(3,(.sc (.func (.func 134) #[] #[]))),(4,(i64 a3)),(12,(.own 0 (List.length (v94++[(packetset_group.mk (api_Range.mk (IntKind.wrap .u32 x220) (IntKind.wrap .u32 (IntKind.wrap .u64 (x222 - (1:Int))))) r228.1)])))),(13,(i64 (IntKind.wrap .i64 (v95 + (List.length r228.1:Int))))),(14,(slc 1 Zb r12)),(15,(i64 v96))] ?_)
           refine .seq (.rg0 [] [(0,(i64 a0)),(1,(slc 10 Za a1)),(2,(slc 10 Za a2)),(3,(.sc (.func (.func 134) #[] #[]))),(4,(i64 a3)),(12,(.own 0 (List.length (v94++[(packetset_group.mk (api_Range.mk (IntKind.wrap .u32 x220) (IntKind.wrap .u32 (IntKind.wrap .u64 (x222 - (1:Int))))) r228.1)])))),(13,(i64 (IntKind.wrap .i64 (v95 + (List.length r228.1:Int))))),(14,(slc 1 Zb r12)),(15,(i64 v96)),(143,(vb (decide ((IntKind.wrap .i64 (v95 + (List.length r228.1:Int))) > a3))))] ?_)
           refine AWP.cif hF (fun h252 hF=>?_) (fun h252 hF=>?_)
           ·refine .seq (.rg0 [] [(10,nils),(11,(vb false))] ?_)
            refine AWP.ret ?_
            exact LeQ.of (.inr ⟨rfl,(([]:(List (Arr5 api_Range))),false),(someb hF).symm,(FnQ.f1 0 (.inr rfl) (.inr ⟨_,_,rfl,rfl,(.cons _ _ _ _ (.nil 10) (.cons _ _ _ _ (.refl _) .nil))⟩))⟩)
           ·refine AWP.skip ?_
            refine LeQ.start ?_
            refine LeQ.pk [0,1,2,3,4,12,13,14,15] 1 ?_
            exact (.inl ⟨rfl,(v94++[(packetset_group.mk (api_Range.mk (IntKind.wrap .u32 x220) (IntKind.wrap .u32 (IntKind.wrap .u64 (x222 - (1:Int))))) r228.1)]),(IntKind.wrap .i64 (v95 + (List.length r228.1:Int))),(someb hF).symm,by kernel_rfl,by kernel_rfl⟩)
       ·rintro _ _ _ (⟨rfl,v216,v217,rfl,rfl,rfl⟩ | ⟨rfl,r256,rfl,hq⟩)
        ·refine AWP.rg0 [] [(0,(i64 a0)),(1,(slc 10 Za a1)),(2,(slc 10 Za a2)),(3,(.sc (.func (.func 134) #[] #[]))),(4,(i64 a3)),(12,(.own 0 (List.length v216))),(13,(i64 v217)),(14,(slc 1 Zb r12)),(15,(i64 (IntKind.wrap .i64 (v96 + (1:Int)))))] ?_
         refine LeQ.start ?_
         refine LeQ.pk [0,1,2,3,4,12,13,14,15] 1 ?_
         exact ⟨n179,Nat.lt_succ_self _,v216,v217,(IntKind.wrap .i64 (v96 + (1:Int))),hF,by kernel_rfl,by kernel_rfl⟩
        ·exact LeQ.of (.inr ⟨rfl,r256,(someb hF).symm,hq⟩)
      ·refine AWP.exit ?_
       refine LeQ.start ?_
       refine LeQ.pk [0,12,13] 1 ?_
       exact (.inl ⟨rfl,v94,v95,(someb hF).symm,by kernel_rfl,by kernel_rfl⟩)
    ·rintro _ _ _ (⟨rfl,v175,v176,rfl,rfl,rfl⟩ | ⟨rfl,r355,rfl,hq⟩)
     ·refine AWP.seq ?_
      obtain ⟨h258,hF⟩:=chkb hF
      refine AWP.rg [(1,.mk0 Za h258)] [(0,(i64 a0)),(12,(.own 0 (List.length v175))),(20,(.own 1 (List.length ([]:(List (Arr5 api_Range))))))] [bf 3 157 Zc v175 false,bf 10 57 Za ([]:(List (Arr5 api_Range))) false] ?_
      refine AWP.seq ?_
      refine .seq (.rg0 [(1,.len Zc v175)] [(0,(i64 a0)),(20,(.own 1 (List.length ([]:(List (Arr5 api_Range)))))),(146,(.own 0 (List.length v175))),(147,(i64 (List.length v175:Int))),(148,(i64 (0:Int)))] ?_)
      obtain ⟨v322,h323,hF⟩:=bindb hF
      refine AWP.mid (fun e st H=>e=.normal∧st=[(20,(.own 1 (List.length v322)))]∧H=[bf 3 157 Zc v175 false,bf 10 57 Za v322 false]) ?_ ?_
      ·clear hF
       refine AWP.kp [0,20,146,147,148] 2 ?_
       refine AWP.bround (fun n st H=>∃ (v290:(List (Arr5 api_Range))),∃ (v291:Int),Za8 a0 v175 n v290 v291=some v322∧st=[(0,(i64 a0)),(20,(.own 1 (List.length v290))),(146,(.own 0 (List.length v175))),(147,(i64 (List.length v175:Int))),(148,(i64 v291))]∧H=[bf 3 157 Zc v175 false,bf 10 57 Za v290 false]) fuel ⟨([]:(List (Arr5 api_Range))),(0:Int),h323,by kernel_rfl,by kernel_rfl⟩ ?_
       rintro n324 st H ⟨v290,v291,hF,rfl,rfl⟩
       cases n324 with
       | zero=>exact noneb hF
       | succ n324=>
        rw [Za8] at hF
        refine .seq (.rg0 [] [(0,(i64 a0)),(20,(.own 1 (List.length v290))),(146,(.own 0 (List.length v175))),(147,(i64 (List.length v175:Int))),(148,(i64 v291)),(149,(vb (decide (v291<(List.length v175:Int)))))] ?_)
        refine AWP.seq ?_
        refine AWP.cif hF (fun h354 hF=>?_) (fun h354 hF=>?_)
        ·refine AWP.skip ?_
         refine AWP.seq ?_
         refine AWP.block ?_
         refine AWP.seq ?_
         obtain ⟨x325,h326,hF⟩:=bindb hF
         refine AWP.rg [(0,.idx Zc h326),(1,.ldE Zc h326)] [(0,(i64 a0)),(20,(.own 1 (List.length v290))),(22,(.ptr 2 0)),(146,(.own 0 (List.length v175))),(147,(i64 (List.length v175:Int))),(148,(i64 v291))] [bf 3 157 Zc v175 false,bf 10 57 Za v290 false,.cells (Zc x325)] ?_
         refine .seq (.rg0 [(2,.len Za x325.f_rest)] [(0,(i64 a0)),(20,(.own 1 (List.length v290))),(22,(.ptr 2 0)),(146,(.own 0 (List.length v175))),(147,(i64 (List.length v175:Int))),(148,(i64 v291)),(153,(slc 10 Za x325.f_rest)),(154,(i64 (List.length x325.f_rest:Int))),(155,(i64 (0:Int)))] ?_)
         obtain ⟨v344,h345,hF⟩:=bindb hF
         refine AWP.mid (fun e st H=>e=.normal∧st=[(0,(i64 a0)),(20,(.own 1 (List.length v344))),(146,(.own 0 (List.length v175))),(147,(i64 (List.length v175:Int))),(148,(i64 v291))]∧H=[bf 3 157 Zc v175 false,bf 10 57 Za v344 false,.cells (Zc x325)]) ?_ ?_
         ·clear hF
          refine AWP.kp [0,20,22,146,147,148,153,154,155] 3 ?_
          refine AWP.bround (fun n st H=>∃ (v335:(List (Arr5 api_Range))),∃ (v336:Int),Za7 a0 x325 n v335 v336=some v344∧st=[(0,(i64 a0)),(20,(.own 1 (List.length v335))),(22,(.ptr 2 0)),(146,(.own 0 (List.length v175))),(147,(i64 (List.length v175:Int))),(148,(i64 v291)),(153,(slc 10 Za x325.f_rest)),(154,(i64 (List.length x325.f_rest:Int))),(155,(i64 v336))]∧H=[bf 3 157 Zc v175 false,bf 10 57 Za v335 false,.cells (Zc x325)]) fuel ⟨v290,(0:Int),h345,by kernel_rfl,by kernel_rfl⟩ ?_
          rintro n346 st H ⟨v335,v336,hF,rfl,rfl⟩
          cases n346 with
          | zero=>exact noneb hF
          | succ n346=>
           rw [Za7] at hF
           refine .seq (.rg0 [] [(0,(i64 a0)),(20,(.own 1 (List.length v335))),(22,(.ptr 2 0)),(146,(.own 0 (List.length v175))),(147,(i64 (List.length v175:Int))),(148,(i64 v291)),(153,(slc 10 Za x325.f_rest)),(154,(i64 (List.length x325.f_rest:Int))),(155,(i64 v336)),(156,(vb (decide (v336<(List.length x325.f_rest:Int)))))] ?_)
           refine AWP.seq ?_
           refine AWP.cif hF (fun h353 hF=>?_) (fun h353 hF=>?_)
           ·refine AWP.skip ?_
            refine AWP.seq ?_
            refine AWP.block ?_
            refine AWP.seq ?_
            obtain ⟨x347,h348,hF⟩:=bindb hF
            refine AWP.rg [(0,.idx Za h348)] [(0,(i64 a0)),(20,(.own 1 (List.length v335))),(22,(.ptr 2 0)),(24,(.ptr 3 0)),(146,(.own 0 (List.length v175))),(147,(i64 (List.length v175:Int))),(148,(i64 v291)),(153,(slc 10 Za x325.f_rest)),(154,(i64 (List.length x325.f_rest:Int))),(155,(i64 v336))] [bf 3 157 Zc v175 false,bf 10 57 Za v335 false,.cells (Zc x325),.cells (Za x347)] ?_
            refine AWP.seq ?_
            obtain ⟨h349,hF⟩:=chkb hF
            refine AWP.rg [(3,.ixd h349),(4,.stA (fun q351=>Za (Arr5.set x347 q351 x325.f_values)) 0 2 0 h349)] [(0,(i64 a0)),(20,(.own 1 (List.length v335))),(22,(.ptr 2 0)),(24,(.ptr 3 0)),(146,(.own 0 (List.length v175))),(147,(i64 (List.length v175:Int))),(148,(i64 v291)),(153,(slc 10 Za x325.f_rest)),(154,(i64 (List.length x325.f_rest:Int))),(155,(i64 v336))] [bf 3 157 Zc v175 false,bf 10 57 Za v335 false,.cells (Zc x325),.cells (Za (Arr5.set x347 a0 x325.f_values))] ?_
            obtain ⟨h352,hF⟩:=chkb hF
            refine AWP.rg [(3,.app Za (fun _=>by kernel_rfl) h352)] [(0,(i64 a0)),(20,(.own 1 (List.length (v335++[(Arr5.set x347 a0 x325.f_values)])))),(22,(.ptr 2 0)),(146,(.own 0 (List.length v175))),(147,(i64 (List.length v175:Int))),(148,(i64 v291)),(153,(slc 10 Za x325.f_rest)),(154,(i64 (List.length x325.f_rest:Int))),(155,(i64 v336))] [bf 3 157 Zc v175 false,bf 10 57 Za (v335++[(Arr5.set x347 a0 x325.f_values)]) false,.cells (Zc x325),.cells (Za (Arr5.set x347 a0 x325.f_values))] ?_
            refine AWP.rg0 [] [(0,(i64 a0)),(20,(.own 1 (List.length (v335++[(Arr5.set x347 a0 x325.f_values)])))),(22,(.ptr 2 0)),(146,(.own 0 (List.length v175))),(147,(i64 (List.length v175:Int))),(148,(i64 v291)),(153,(slc 10 Za x325.f_rest)),(154,(i64 (List.length x325.f_rest:Int))),(155,(i64 (IntKind.wrap .i64 (v336 + (1:Int)))))] ?_
            refine LeQ.start ?_
            refine LeQ.pk [0,20,22,146,147,148,153,154,155] 3 ?_
            exact ⟨n346,Nat.lt_succ_self _,(v335++[(Arr5.set x347 a0 x325.f_values)]),(IntKind.wrap .i64 (v336 + (1:Int))),hF,by kernel_rfl,by kernel_rfl⟩
           ·refine AWP.exit ?_
            refine LeQ.start ?_
            refine LeQ.pk [0,20,146,147,148] 3 ?_
            have hr:=someb hF
            subst hr
            exact ⟨rfl,by kernel_rfl,by kernel_rfl⟩
         ·rintro _ _ _ ⟨rfl,rfl,rfl⟩
          refine AWP.rg0 [] [(0,(i64 a0)),(20,(.own 1 (List.length v344))),(146,(.own 0 (List.length v175))),(147,(i64 (List.length v175:Int))),(148,(i64 (IntKind.wrap .i64 (v291 + (1:Int)))))] ?_
          refine LeQ.start ?_
          refine LeQ.pk [0,20,146,147,148] 2 ?_
          exact ⟨n324,Nat.lt_succ_self _,v344,(IntKind.wrap .i64 (v291 + (1:Int))),hF,by kernel_rfl,by kernel_rfl⟩
        ·refine AWP.exit ?_
         refine LeQ.start ?_
         refine LeQ.pk [20] 2 ?_
         have hr:=someb hF
         subst hr
         exact ⟨rfl,by kernel_rfl,by kernel_rfl⟩
      ·rintro _ _ _ ⟨rfl,rfl,rfl⟩
       refine .seq (.rg0 [] [(10,(.own 1 (List.length v322))),(11,(vb true))] ?_)
       refine AWP.ret ?_
       have hr:=someb hF
       subst hr
       exact (FnQ.f1 0 (.inr rfl) (.inr ⟨_,_,rfl,rfl,(.cons _ _ _ _ (Wk.ownT (i:=1) (s:=10) (t:=57) (l:=v322) (sh:=false) (row:=Za) (by kernel_rfl) (.inl rfl)) (.cons _ _ _ _ (.refl _) .nil))⟩))
     ·have hr:=someb hF
      subst hr
      exact hq
theorem Zg3 (a0:Int) (a1:(List (Arr5 api_Range))) (a2:(List (Arr5 api_Range))) (a3:Int) (r:((List (Arr5 api_Range)) × Bool)) (hF:Z5 fuel a0 a1 a2 a3=some r):ACall Tryz.prog glob 147 [(i64 a0),(slc 10 Za a1),(slc 10 Za a2),(.sc (.func (.func 134) #[] #[])),(i64 a3)] [] (Zdq r):=Zgq fuel a0 a1 a2 a3 r hF
def Zhb (r:((List (Arr5 api_Range)) × Int)):PV→List Blk→Prop:=fun p K=>p=(.tup [(slc 10 Za r.1),(i64 r.2)])∧K=[]
theorem Zhc (a0:(List (Arr5 api_Range))) (a1:(List (Arr5 api_Range))) (r:((List (Arr5 api_Range)) × Int)) (hF:Zcb a0 a1=some r):ACall Tryz.prog glob 131 [(slc 10 Za a0),(slc 10 Za a1),(.sc (.func (.func 134) #[] #[]))] [] (Zhb r):=by
 refine ACall.body Tryz.func131 rfl (by kernel_rfl) ?_
 unfold Zcb at hF
 refine .seq (.rg0 [] [(0,(slc 10 Za a0)),(1,(slc 10 Za a1)),(2,(.sc (.func (.func 134) #[] #[])))] ?_)
 refine AWP.seq ?_
 obtain ⟨r1,h2,hF⟩:=bindb hF
 refine AWP.rg0 [(3,.call Tryz.func147 [] (Zg3 (0:Int) a0 a1 (4096:Int) r1 h2))] [(8,(slc 10 Za r1.1)),(9,(vb r1.2))] ?_
 refine AWP.seq ?_
 refine .seq (.rg0 [] [(8,(slc 10 Za r1.1)),(18,(vb (!r1.2)))] ?_)
 refine AWP.cif hF (fun h3 hF=>?_) (fun h3 hF=>?_)
 ·refine .seq (.rg0 [] [(6,nils),(7,(i64 (3:Int)))] ?_)
  refine AWP.ret ?_
  have hr:=someb hF
  subst hr
  exact (FnQ.f1 0 (.inr rfl) (.inr ⟨_,_,rfl,rfl,(.cons _ _ _ _ (.nil 10) (.cons _ _ _ _ (.refl _) .nil))⟩))
 ·refine AWP.skip ?_
  refine .seq (.rg0 [] [(6,(slc 10 Za r1.1)),(7,(i64 (0:Int)))] ?_)
  refine AWP.ret ?_
  have hr:=someb hF
  subst hr
  exact (FnQ.f0 0 (.inr rfl))
def Zib (r:((List (Arr5 api_Range)) × Int)):PV→List Blk→Prop:=fun p K=>p=(.tup [(slc 10 Za r.1),(i64 r.2)])∧K=[]
theorem Zic (a0:(List (Arr5 api_Range))) (a1:(List (Arr5 api_Range))) (r:((List (Arr5 api_Range)) × Int)) (hF:Zdz a0 a1=some r):ACall Tryz.prog glob 133 [(slc 10 Za a0),(slc 10 Za a1),(.sc (.func (.func 134) #[] #[]))] [] (Zib r):=by
 refine ACall.body Tryz.func133 rfl (by kernel_rfl) ?_
 unfold Zdz at hF
 refine .seq (.rg0 [] [(0,(slc 10 Za a0)),(1,(slc 10 Za a1)),(2,(.sc (.func (.func 134) #[] #[])))] ?_)
 refine AWP.seq ?_
 obtain ⟨r1,h2,hF⟩:=bindb hF
 refine AWP.rg0 [(1,.call Tryz.func140 [] (Zeb a0 r1 h2))] [(1,(slc 10 Za a1)),(2,(.sc (.func (.func 134) #[] #[]))),(8,(slc 10 Za r1.1)),(9,(i64 r1.2))] ?_
 refine AWP.seq ?_
 refine .seq (.rg0 [] [(1,(slc 10 Za a1)),(2,(.sc (.func (.func 134) #[] #[]))),(8,(slc 10 Za r1.1)),(9,(i64 r1.2)),(17,(vb (r1.2 != (0:Int))))] ?_)
 refine AWP.cif hF (fun h8 hF=>?_) (fun h8 hF=>?_)
 ·refine .seq (.rg0 [] [(6,nils),(7,(i64 r1.2))] ?_)
  refine AWP.ret ?_
  have hr:=someb hF
  subst hr
  exact (FnQ.f1 0 (.inr rfl) (.inr ⟨_,_,rfl,rfl,(.cons _ _ _ _ (.nil 10) (.cons _ _ _ _ (.refl _) .nil))⟩))
 ·refine AWP.skip ?_
  refine AWP.seq ?_
  obtain ⟨r3,h4,hF⟩:=bindb hF
  refine AWP.rg0 [(1,.call Tryz.func140 [] (Zeb a1 r3 h4))] [(2,(.sc (.func (.func 134) #[] #[]))),(8,(slc 10 Za r1.1)),(9,(i64 r3.2)),(10,(slc 10 Za r3.1))] ?_
  refine AWP.seq ?_
  refine .seq (.rg0 [] [(2,(.sc (.func (.func 134) #[] #[]))),(8,(slc 10 Za r1.1)),(9,(i64 r3.2)),(10,(slc 10 Za r3.1)),(25,(vb (r3.2 != (0:Int))))] ?_)
  refine AWP.cif hF (fun h7 hF=>?_) (fun h7 hF=>?_)
  ·refine .seq (.rg0 [] [(6,nils),(7,(i64 r3.2))] ?_)
   refine AWP.ret ?_
   have hr:=someb hF
   subst hr
   exact (FnQ.f1 0 (.inr rfl) (.inr ⟨_,_,rfl,rfl,(.cons _ _ _ _ (.nil 10) (.cons _ _ _ _ (.refl _) .nil))⟩))
  ·refine AWP.skip ?_
   refine AWP.seq ?_
   obtain ⟨r5,h6,hF⟩:=bindb hF
   refine AWP.rg0 [(3,.call Tryz.func131 [] (Zhc r1.1 r3.1 r5 h6))] [(6,(slc 10 Za r5.1)),(7,(i64 r5.2))] ?_
   refine AWP.ret ?_
   have hr:=someb hF
   subst hr
   exact (FnQ.f0 0 (.inr rfl))
def Zio (r:((List (Arr5 api_Range)) × Int)):PV→List Blk→Prop:=fun p K=>p=(.tup [(slc 10 Za r.1),(i64 r.2)])∧K=[]
theorem Zip (a0:(List (Arr5 api_Range))) (a1:(List (Arr5 api_Range))) (r:((List (Arr5 api_Range)) × Int)) (hF:Zdd a0 a1=some r):ACall Tryz.prog glob 104 [(slc 10 Za a0),(slc 10 Za a1)] [] (Zio r):=by
 refine ACall.body Tryz.func104 rfl (by kernel_rfl) ?_
 unfold Zdd at hF
 refine .seq (.rg0 [] [(0,(slc 10 Za a0)),(1,(slc 10 Za a1))] ?_)
 refine AWP.seq ?_
 obtain ⟨r1,h2,hF⟩:=bindb hF
 refine AWP.rg0 [(2,.call Tryz.func133 [] (Zic a0 a1 r1 h2))] [(4,(slc 10 Za r1.1)),(5,(i64 r1.2))] ?_
 refine AWP.ret ?_
 have hr:=someb hF
 subst hr
 exact (FnQ.f0 0 (.inr rfl))
def Zhf (r:((List (Arr5 api_Range)) × rewrite_ledger)):PV→List Blk→Prop:=fun p K=>p=(slc 10 Za r.1)∧K=[.cells (Zg r.2)]
theorem Zcg (a0:rewrite_ledger) (a1:(List (Arr5 api_Range))) (a2:(List (Arr5 api_Range))) (r:((List (Arr5 api_Range)) × rewrite_ledger)) (hF:Zap a0 a1 a2=some r):ACall Tryz.prog glob 57 [(.ptr 0 0),(slc 10 Za a1),(slc 10 Za a2)] [.cells (Zg a0)] (Zhf r):=by
 refine ACall.body Tryz.func57 rfl (by kernel_rfl) ?_
 unfold Zap at hF
 refine .seq (.rg0 [] [(0,(.ptr 0 0)),(1,(slc 10 Za a1)),(2,(slc 10 Za a2))] ?_)
 refine AWP.seq ?_
 obtain ⟨r1,h2,hF⟩:=bindb hF
 obtain ⟨r3,h4,hF⟩:=bindb hF
 refine AWP.rg [(3,.call Tryz.func104 [] (Zip a1 a2 r1 h2)),(6,.call Tryz.func100 [] (Zea a0 r1.1 r1.2 r3 h4))] [(6,(slc 10 Za r3.1))] [.cells (Zg r3.2)] ?_
 refine AWP.ret ?_
 have hr:=someb hF
 subst hr
 exact (FnQ.f0 1 (.inr rfl))
def Zi3 (r:Bool):PV→List Blk→Prop:=fun p K=>p=(vb r)∧K=[]
theorem Zg7 (a0:Bool) (a1:Bool) (r:Bool) (hF:Zc5 a0 a1=some r):ACall Tryz.prog glob 135 [(vb a0),(vb a1)] [] (Zi3 r):=by
 refine ACall.body Tryz.func135 rfl (by kernel_rfl) ?_
 unfold Zc5 at hF
 refine .seq (.rg0 [] [(0,(vb a0)),(1,(vb a1))] ?_)
 refine AWP.seq ?_
 obtain ⟨b1,h2,hF⟩:=bindb hF
 replace h2:=someb h2
 refine AWP.to [(4,(vb (b1 && (!a1))))] [] ?_ ?_
 ·cases b1 with
  | false=>
   exact AWP.rgT [(1,.bool h2)]
  | true=>
   exact AWP.rgT [(1,.bool h2)]
 refine AWP.ret ?_
 have hr:=someb hF
 subst hr
 exact (FnQ.f0 0 (.inr rfl))
def Zdb (r:((List (Arr5 api_Range)) × Bool)):PV→List Blk→Prop:=fun p K=>p=(.tup [(slc 10 Za r.1),(vb r.2)])∧K=[]
abbrev Zeq (r:((List (Arr5 api_Range)) × Bool)):Exit→St→List Blk→Prop:=FnQ Tryz.prog Tryz.f147.results 0 (Zdb r)
theorem Zf8:∀ (nr:Nat) (a0:Int) (a1:(List (Arr5 api_Range))) (a2:(List (Arr5 api_Range))) (a3:Int) (r:((List (Arr5 api_Range)) × Bool)) (hF:Z0 nr a0 a1 a2 a3=some r),ACall Tryz.prog glob 147 [(i64 a0),(slc 10 Za a1),(slc 10 Za a2),(.sc (.func (.func 135) #[] #[])),(i64 a3)] [] (Zdb r):=by
 intro nr
 induction nr with
 | zero=>intro a0 a1 a2 a3 r hF; exact noneb (by rw [Z0] at hF; exact hF)
 | succ nr ih=>
  intro a0 a1 a2 a3 r hF
  refine ACall.body Tryz.func147 rfl (by kernel_rfl) ?_
  rw [Z0] at hF
  refine .seq (.rg0 [] [(0,(i64 a0)),(1,(slc 10 Za a1)),(2,(slc 10 Za a2)),(3,(.sc (.func (.func 135) #[] #[]))),(4,(i64 a3))] ?_)
  refine AWP.seq ?_
  refine .seq (.rg0 [] [(0,(i64 a0)),(1,(slc 10 Za a1)),(2,(slc 10 Za a2)),(3,(.sc (.func (.func 135) #[] #[]))),(4,(i64 a3)),(26,(vb (a0 == (5:Int))))] ?_)
  refine AWP.cif hF (fun h357 hF=>?_) (fun h357 hF=>?_)
  ·refine AWP.seq ?_
   refine AWP.seq ?_
   obtain ⟨r1,h2,hF⟩:=bindb hF
   refine AWP.rg0 [(2,.len Za a1),(5,.len Za a2),(7,.call Tryz.func135 [] (Zg7 (decide ((List.length a1:Int) > (0:Int))) (decide ((List.length a2:Int) > (0:Int))) r1 h2))] [(34,(vb r1))] ?_
   refine AWP.cif hF (fun h3 hF=>?_) (fun h3 hF=>?_)
   ·refine .seq (.rg0 [] [(10,(slc 10 Za [(Arr5.mk Zi Zi Zi Zi Zi)])),(11,(vb true))] ?_)
    refine AWP.ret ?_
    have hr:=someb hF
    subst hr
    exact (FnQ.f0 0 (.inr rfl))
   ·refine AWP.skip ?_
    refine .seq (.rg0 [] [(10,nils),(11,(vb true))] ?_)
    refine AWP.ret ?_
    have hr:=someb hF
    subst hr
    exact (FnQ.f1 0 (.inr rfl) (.inr ⟨_,_,rfl,rfl,(.cons _ _ _ _ (.nil 10) (.cons _ _ _ _ (.refl _) .nil))⟩))
  ·refine AWP.skip ?_
   refine AWP.seq ?_
   refine AWP.seq ?_
   obtain ⟨b4,h5,hF⟩:=bindb hF
   replace h5:=someb h5
   obtain ⟨v8,h9,hF⟩:=bindb hF
   refine AWP.to [(0,(i64 a0)),(1,(slc 10 Za a1)),(2,(slc 10 Za a2)),(3,(.sc (.func (.func 135) #[] #[]))),(4,(i64 a3)),(47,(vb v8))] [] ?_ ?_
   ·cases b4 with
    | false=>
     have h10:=someb (ifF h9 rfl)
     subst h10
     exact AWP.rgT [(1,.len Za a1),(3,.len Za a2),(6,.bool h5)]
    | true=>
     have h11:=ifT h9 rfl
     obtain ⟨r6,h7,h11⟩:=bindb h11
     replace h11:=someb h11
     subst h11
     exact AWP.rgT [(1,.len Za a1),(3,.len Za a2),(6,.bool h5),(8,.call Tryz.func135 [] (Zg7 false false r6 h7))]
   refine AWP.cif hF (fun h356 hF=>?_) (fun h356 hF=>?_)
   ·refine .seq (.rg0 [] [(10,nils),(11,(vb true))] ?_)
    refine AWP.ret ?_
    have hr:=someb hF
    subst hr
    exact (FnQ.f1 0 (.inr rfl) (.inr ⟨_,_,rfl,rfl,(.cons _ _ _ _ (.nil 10) (.cons _ _ _ _ (.refl _) .nil))⟩))
   ·refine AWP.skip ?_
    refine .seq (.rg0 [] [(0,(i64 a0)),(1,(slc 10 Za a1)),(2,(slc 10 Za a2)),(3,(.sc (.func (.func 135) #[] #[]))),(4,(i64 a3)),(12,nils)] ?_)
    refine AWP.own (H':=[bf 3 157 Zc ([]:(List packetset_group)) false]) (st':=[(12,(.own 0 (List.length ([]:(List packetset_group))))),(0,(i64 a0)),(1,(slc 10 Za a1)),(2,(slc 10 Za a2)),(3,(.sc (.func (.func 135) #[] #[]))),(4,(i64 a3))]) 12 3 157 (by kernel_rfl) (by kernel_rfl) (by kernel_rfl) ?_
    refine AWP.pick (st':=[(0,(i64 a0)),(1,(slc 10 Za a1)),(2,(slc 10 Za a2)),(3,(.sc (.func (.func 135) #[] #[]))),(4,(i64 a3)),(12,(.own 0 (List.length ([]:(List packetset_group)))))]) (ks:=[0,1,2,3,4,12]) (by kernel_rfl) ?_
    refine .seq (.rg0 [] [(0,(i64 a0)),(1,(slc 10 Za a1)),(2,(slc 10 Za a2)),(3,(.sc (.func (.func 135) #[] #[]))),(4,(i64 a3)),(12,(.own 0 (List.length ([]:(List packetset_group))))),(13,(i64 (0:Int)))] ?_)
    refine AWP.seq ?_
    obtain ⟨r12,h13,hF⟩:=bindb hF
    refine AWP.rg0 [(4,.call Tryz.func151 [] (Zgi a0 [a1,a2] r12 h13))] [(0,(i64 a0)),(1,(slc 10 Za a1)),(2,(slc 10 Za a2)),(3,(.sc (.func (.func 135) #[] #[]))),(4,(i64 a3)),(12,(.own 0 (List.length ([]:(List packetset_group))))),(13,(i64 (0:Int))),(14,(slc 1 Zb r12))] ?_
    refine AWP.seq ?_
    refine .seq (.rg0 [] [(0,(i64 a0)),(1,(slc 10 Za a1)),(2,(slc 10 Za a2)),(3,(.sc (.func (.func 135) #[] #[]))),(4,(i64 a3)),(12,(.own 0 (List.length ([]:(List packetset_group))))),(13,(i64 (0:Int))),(14,(slc 1 Zb r12)),(15,(i64 (0:Int)))] ?_)
    obtain ⟨o177,h178,hF⟩:=bindb hF
    refine AWP.mid (fun e st H=>(e=.normal∧∃ (v175:(List packetset_group)),∃ (v176:Int),o177=(.inl (v175,v176))∧st=[(0,(i64 a0)),(12,(.own 0 (List.length v175))),(13,(i64 v176))]∧H=[bf 3 157 Zc v175 false])∨(e=.ret∧∃ (r:((List (Arr5 api_Range)) × Bool)),o177=(.inr r)∧Zeq r e st H)) ?_ ?_
    ·clear hF
     refine AWP.kp [0,1,2,3,4,12,13,14,15] 1 ?_
     refine AWP.bround (fun n st H=>∃ (v94:(List packetset_group)),∃ (v95:Int),∃ (v96:Int),Zaz a0 a1 a2 a3 (Z0 nr) r12 n v94 v95 v96=some o177∧st=[(0,(i64 a0)),(1,(slc 10 Za a1)),(2,(slc 10 Za a2)),(3,(.sc (.func (.func 135) #[] #[]))),(4,(i64 a3)),(12,(.own 0 (List.length v94))),(13,(i64 v95)),(14,(slc 1 Zb r12)),(15,(i64 v96))]∧H=[bf 3 157 Zc v94 false]) fuel ⟨([]:(List packetset_group)),(0:Int),(0:Int),h178,by kernel_rfl,by kernel_rfl⟩ ?_
     rintro n179 st H ⟨v94,v95,v96,hF,rfl,rfl⟩
     cases n179 with
     | zero=>exact noneb hF
     | succ n179=>
      rw [Zaz] at hF
      refine AWP.seq ?_
      refine .seq (.rg0 [(3,.len Zb r12)] [(0,(i64 a0)),(1,(slc 10 Za a1)),(2,(slc 10 Za a2)),(3,(.sc (.func (.func 135) #[] #[]))),(4,(i64 a3)),(12,(.own 0 (List.length v94))),(13,(i64 v95)),(14,(slc 1 Zb r12)),(15,(i64 v96)),(57,(vb (decide ((IntKind.wrap .i64 (v96 + (1:Int)))<(List.length r12:Int)))))] ?_)
      refine AWP.cif hF (fun h257 hF=>?_) (fun h257 hF=>?_)
      ·refine AWP.skip ?_
       obtain ⟨o218,h219,hF⟩:=bindb hF
       refine AWP.seq ?_
       refine AWP.mid (fun e st H=>(e=.normal∧∃ (v216:(List packetset_group)),∃ (v217:Int),o218=(.inl (v216,v217))∧st=[(0,(i64 a0)),(1,(slc 10 Za a1)),(2,(slc 10 Za a2)),(3,(.sc (.func (.func 135) #[] #[]))),(4,(i64 a3)),(12,(.own 0 (List.length v216))),(13,(i64 v217)),(14,(slc 1 Zb r12)),(15,(i64 v96))]∧H=[bf 3 157 Zc v216 false])∨(e=.ret∧∃ (r:((List (Arr5 api_Range)) × Bool)),o218=(.inr r)∧Zeq r e st H)) ?_ ?_
       ·clear hF
        have hF:=h219
        refine AWP.block ?_
        refine AWP.seq ?_
        obtain ⟨x220,h221,hF⟩:=bindb hF
        obtain ⟨x222,h223,hF⟩:=bindb hF
        refine AWP.dr [(2,.idx Zb h221),(8,.idx Zb h223)] 14 [] [13] [] [(0,(i64 a0)),(1,(slc 10 Za a1)),(2,(slc 10 Za a2)),(3,(.sc (.func (.func 135) #[] #[]))),(4,(i64 a3)),(12,(.own 0 (List.length v94))),(13,(i64 v95)),(14,(slc 1 Zb r12)),(15,(i64 v96)),(16,(.ptr 1 0))] [bf 3 157 Zc v94 false,.cells (Zf (api_Range.mk (IntKind.wrap .u32 x220) (IntKind.wrap .u32 (IntKind.wrap .u64 (x222 - (1:Int))))))] ?_
        refine AWP.seq ?_
        obtain ⟨r224,h225,hF⟩:=bindb hF
        obtain ⟨r226,h227,hF⟩:=bindb hF
        obtain ⟨r228,h229,hF⟩:=bindb hF
        refine AWP.dr [(6,.call Tryz.func152 [] (Zcy a1 a0 (IntKind.wrap .u32 x220) r224 h225)),(11,.call Tryz.func152 [] (Zcy a2 a0 (IntKind.wrap .u32 x220) r226 h227)),(14,.call Tryz.func147 [] (ih (IntKind.wrap .i64 (a0 + (1:Int))) r224 r226 a3 r228 h229))] 19 [] [] [] [(0,(i64 a0)),(1,(slc 10 Za a1)),(2,(slc 10 Za a2)),(3,(.sc (.func (.func 135) #[] #[]))),(4,(i64 a3)),(12,(.own 0 (List.length v94))),(13,(i64 v95)),(14,(slc 1 Zb r12)),(15,(i64 v96)),(16,(.ptr 1 0)),(17,(slc 10 Za r228.1)),(18,(vb r228.2))] [bf 3 157 Zc v94 false,.cells (Zf (api_Range.mk (IntKind.wrap .u32 x220) (IntKind.wrap .u32 (IntKind.wrap .u64 (x222 - (1:Int))))))] ?_
        refine AWP.seq ?_
        refine .seq (.rg0 [] [(0,(i64 a0)),(1,(slc 10 Za a1)),(2,(slc 10 Za a2)),(3,(.sc (.func (.func 135) #[] #[]))),(4,(i64 a3)),(12,(.own 0 (List.length v94))),(13,(i64 v95)),(14,(slc 1 Zb r12)),(15,(i64 v96)),(16,(.ptr 1 0)),(17,(slc 10 Za r228.1)),(92,(vb (!r228.2)))] ?_)
        refine AWP.cif hF (fun h255 hF=>?_) (fun h255 hF=>?_)
        ·refine .seq (.rg0 [] [(10,nils),(11,(vb false))] ?_)
         refine AWP.ret ?_
         exact LeQ.of (.inr ⟨rfl,(([]:(List (Arr5 api_Range))),false),(someb hF).symm,(FnQ.f1 0 (.inr rfl) (.inr ⟨_,_,rfl,rfl,(.cons _ _ _ _ (.nil 10) (.cons _ _ _ _ (.refl _) .nil))⟩))⟩)
        ·refine AWP.skip ?_
         refine AWP.seq ?_
         refine .seq (.rg0 [(1,.len Za r228.1)] [(0,(i64 a0)),(1,(slc 10 Za a1)),(2,(slc 10 Za a2)),(3,(.sc (.func (.func 135) #[] #[]))),(4,(i64 a3)),(12,(.own 0 (List.length v94))),(13,(i64 v95)),(14,(slc 1 Zb r12)),(15,(i64 v96)),(16,(.ptr 1 0)),(17,(slc 10 Za r228.1)),(95,(vb ((List.length r228.1:Int) == (0:Int))))] ?_)
         refine AWP.cif hF (fun h254 hF=>?_) (fun h254 hF=>?_)
         ·refine AWP.exit ?_
          refine LeQ.start ?_
          refine LeQ.pk [0,1,2,3,4,12,13,14,15] 1 ?_
          exact (.inl ⟨rfl,v94,v95,(someb hF).symm,by kernel_rfl,by kernel_rfl⟩)
         ·refine AWP.skip ?_
          refine AWP.seq ?_
          refine .seq (.rg0 [(1,.len Zc v94)] [(0,(i64 a0)),(1,(slc 10 Za a1)),(2,(slc 10 Za a2)),(3,(.sc (.func (.func 135) #[] #[]))),(4,(i64 a3)),(12,(.own 0 (List.length v94))),(13,(i64 v95)),(14,(slc 1 Zb r12)),(15,(i64 v96)),(16,(.ptr 1 0)),(17,(slc 10 Za r228.1)),(19,(i64 (List.length v94:Int)))] ?_)
          refine AWP.seq ?_
          obtain ⟨b230,h231,hF⟩:=bindb hF
          replace h231:=someb h231
          obtain ⟨v234,h235,hF⟩:=bindb hF
          obtain ⟨b236,h237,hF⟩:=bindb hF
          replace h237:=someb h237
          obtain ⟨v242,h243,hF⟩:=bindb hF
          refine AWP.to [(0,(i64 a0)),(1,(slc 10 Za a1)),(2,(slc 10 Za a2)),(3,(.sc (.func (.func 135) #[] #[]))),(4,(i64 a3)),(12,(.own 0 (List.length v94))),(13,(i64 v95)),(14,(slc 1 Zb r12)),(15,(i64 v96)),(16,(.ptr 1 0)),(17,(slc 10 Za r228.1)),(19,(i64 (List.length v94:Int))),(122,(vb v242))] [bf 3 157 Zc v94 false,.cells (Zf (api_Range.mk (IntKind.wrap .u32 x220) (IntKind.wrap .u32 (IntKind.wrap .u64 (x222 - (1:Int))))))] ?_ ?_
          ·cases b230 with
           | false=>
            have h244:=someb (ifF h235 rfl)
            subst h244
            subst h237
            have h245:=someb (ifF h243 rfl)
            subst h245
            exact AWP.drT [(2,.bool h231)] 25 [] [] []
           | true=>
            have h246:=ifT h235 rfl
            obtain ⟨x232,h233,h246⟩:=bindb h246
            replace h246:=someb h246
            subst h246
            cases b236 with
            | false=>
             have h247:=someb (ifF h243 rfl)
             subst h247
             exact AWP.drT [(2,.bool h231),(6,.idx Zc h233),(7,.fdE Zc v94 (IntKind.wrap .i64 ((List.length v94:Int) - (1:Int)))),(8,.fdE Zc v94 (IntKind.wrap .i64 ((List.length v94:Int) - (1:Int)))),(9,.ldE Zc h233),(15,.bool h237)] 25 [] [] []
            | true=>
             have h248:=ifT h243 rfl
             obtain ⟨x238,h239,h248⟩:=bindb h248
             obtain ⟨r240,h241,h248⟩:=bindb h248
             replace h248:=someb h248
             subst h248
             exact AWP.drT [(2,.bool h231),(6,.idx Zc h233),(7,.fdE Zc v94 (IntKind.wrap .i64 ((List.length v94:Int) - (1:Int)))),(8,.fdE Zc v94 (IntKind.wrap .i64 ((List.length v94:Int) - (1:Int)))),(9,.ldE Zc h233),(15,.bool h237),(19,.idx Zc h239),(20,.fdE Zc v94 (IntKind.wrap .i64 ((List.length v94:Int) - (1:Int)))),(21,.ldE Zc h239),(23,.call Tryz.func146 [] (Zco x238.f_rest r228.1 r240 h241))] 25 [] [] []
          refine AWP.cif hF (fun h253 hF=>?_) (fun h253 hF=>?_)
          ·refine AWP.seq ?_
           obtain ⟨x249,h250,hF⟩:=bindb hF
           refine AWP.rg [(5,.idx Zc h250),(6,.fdE Zc v94 (IntKind.wrap .i64 ((List.length v94:Int) - (1:Int)))),(7,.fdE Zc v94 (IntKind.wrap .i64 ((List.length v94:Int) - (1:Int)))),(8,.stE Zc h250 ({ x249 with f_values:=({ x249.f_values with Hi:=(IntKind.wrap .u32 (IntKind.wrap .u64 (x222 - (1:Int)))) }:api_Range) }:packetset_group))] [(0,(i64 a0)),(1,(slc 10 Za a1)),(2,(slc 10 Za a2)),(3,(.sc (.func (.func 135) #[] #[]))),(4,(i64 a3)),(12,(.own 0 (List.length v94))),(13,(i64 v95)),(14,(slc 1 Zb r12)),(15,(i64 v96))] [bf 3 157 Zc (List.set v94 (Int.toNat (IntKind.wrap .i64 ((List.length v94:Int) - (1:Int)))) ({ x249 with f_values:=({ x249.f_values with Hi:=(IntKind.wrap .u32 (IntKind.wrap .u64 (x222 - (1:Int)))) }:api_Range) }:packetset_group)) false,.cells (Zf (api_Range.mk (IntKind.wrap .u32 x220) (IntKind.wrap .u32 (IntKind.wrap .u64 (x222 - (1:Int))))))] ?_
           rw [show ([(0,(i64 a0)),(1,(slc 10 Za a1)),(2,(slc 10 Za a2)),(3,(.sc (.func (.func 135) #[] #[]))),(4,(i64 a3)),(12,(.own 0 (List.length v94))),(13,(i64 v95)),(14,(slc 1 Zb r12)),(15,(i64 v96))]:St)=[(0,(i64 a0)),(1,(slc 10 Za a1)),(2,(slc 10 Za a2)),(3,(.sc (.func (.func 135) #[] #[]))),(4,(i64 a3)),(12,(.own 0 (List.length (List.set v94 (Int.toNat (IntKind.wrap .i64 ((List.length v94:Int) - (1:Int)))) ({ x249 with f_values:=({ x249.f_values with Hi:=(IntKind.wrap .u32 (IntKind.wrap .u64 (x222 - (1:Int)))) }:api_Range) }:packetset_group))))),(13,(i64 v95)),(14,(slc 1 Zb r12)),(15,(i64 v96))] by simp only [List.length_set]]
           refine AWP.exit ?_
           refine LeQ.start ?_
           refine LeQ.pk [0,1,2,3,4,12,13,14,15] 1 ?_
           exact (.inl ⟨rfl,(List.set v94 (Int.toNat (IntKind.wrap .i64 ((List.length v94:Int) - (1:Int)))) ({ x249 with f_values:=({ x249.f_values with Hi:=(IntKind.wrap .u32 (IntKind.wrap .u64 (x222 - (1:Int)))) }:api_Range) }:packetset_group)),v95,(someb hF).symm,by kernel_rfl,by kernel_rfl⟩)
          ·refine AWP.skip ?_
           refine AWP.seq ?_
           obtain ⟨h251,hF⟩:=chkb hF
           refine AWP.rg [(5,.app Zc (fun _=>by kernel_rfl) h251)] [(0,(i64 a0)),(1,(slc 10 Za a1)),(2,(slc 10 Za a2)),(3,(.sc (.func (.func 135) #[] #[]))),(4,(i64 a3)),(12,(.own 0 (List.length (v94++[(packetset_group.mk (api_Range.mk (IntKind.wrap .u32 x220) (IntKind.wrap .u32 (IntKind.wrap .u64 (x222 - (1:Int))))) r228.1)])))),(13,(i64 v95)),(14,(slc 1 Zb r12)),(15,(i64 v96)),(17,(slc 10 Za r228.1))] [bf 3 157 Zc (v94++[(packetset_group.mk (api_Range.mk (IntKind.wrap .u32 x220) (IntKind.wrap .u32 (IntKind.wrap .u64 (x222 - (1:Int))))) r228.1)]) false,.cells (Zf (api_Range.mk (IntKind.wrap .u32 x220) (IntKind.wrap .u32 (IntKind.wrap .u64 (x222 - (1:Int))))))] ?_
           refine .seq (.rg0 [(2,.len Za r228.1)] [(0,(i64 a0)),(1,(slc 10 Za a1)),(2,(slc 10 Za a2)),(3,(.sc (.func (.func 135) #[] #[]))),(4,(i64 a3)),(12,(.own 0 (List.length (v94++[(packetset_group.mk (api_Range.mk (IntKind.wrap .u32 x220) (IntKind.wrap .u32 (IntKind.wrap .u64 (x222 - (1:Int))))) r228.1)])))),(13,(i64 (IntKind.wrap .i64 (v95 + (List.length r228.1:Int))))),(14,(slc 1 Zb r12)),(15,(i64 v96))] ?_)
           refine .seq (.rg0 [] [(0,(i64 a0)),(1,(slc 10 Za a1)),(2,(slc 10 Za a2)),(3,(.sc (.func (.func 135) #[] #[]))),(4,(i64 a3)),(12,(.own 0 (List.length (v94++[(packetset_group.mk (api_Range.mk (IntKind.wrap .u32 x220) (IntKind.wrap .u32 (IntKind.wrap .u64 (x222 - (1:Int))))) r228.1)])))),(13,(i64 (IntKind.wrap .i64 (v95 + (List.length r228.1:Int))))),(14,(slc 1 Zb r12)),(15,(i64 v96)),(143,(vb (decide ((IntKind.wrap .i64 (v95 + (List.length r228.1:Int))) > a3))))] ?_)
           refine AWP.cif hF (fun h252 hF=>?_) (fun h252 hF=>?_)
           ·refine .seq (.rg0 [] [(10,nils),(11,(vb false))] ?_)
            refine AWP.ret ?_
            exact LeQ.of (.inr ⟨rfl,(([]:(List (Arr5 api_Range))),false),(someb hF).symm,(FnQ.f1 0 (.inr rfl) (.inr ⟨_,_,rfl,rfl,(.cons _ _ _ _ (.nil 10) (.cons _ _ _ _ (.refl _) .nil))⟩))⟩)
           ·refine AWP.skip ?_
            refine LeQ.start ?_
            refine LeQ.pk [0,1,2,3,4,12,13,14,15] 1 ?_
            exact (.inl ⟨rfl,(v94++[(packetset_group.mk (api_Range.mk (IntKind.wrap .u32 x220) (IntKind.wrap .u32 (IntKind.wrap .u64 (x222 - (1:Int))))) r228.1)]),(IntKind.wrap .i64 (v95 + (List.length r228.1:Int))),(someb hF).symm,by kernel_rfl,by kernel_rfl⟩)
       ·rintro _ _ _ (⟨rfl,v216,v217,rfl,rfl,rfl⟩ | ⟨rfl,r256,rfl,hq⟩)
        ·refine AWP.rg0 [] [(0,(i64 a0)),(1,(slc 10 Za a1)),(2,(slc 10 Za a2)),(3,(.sc (.func (.func 135) #[] #[]))),(4,(i64 a3)),(12,(.own 0 (List.length v216))),(13,(i64 v217)),(14,(slc 1 Zb r12)),(15,(i64 (IntKind.wrap .i64 (v96 + (1:Int)))))] ?_
         refine LeQ.start ?_
         refine LeQ.pk [0,1,2,3,4,12,13,14,15] 1 ?_
         exact ⟨n179,Nat.lt_succ_self _,v216,v217,(IntKind.wrap .i64 (v96 + (1:Int))),hF,by kernel_rfl,by kernel_rfl⟩
        ·exact LeQ.of (.inr ⟨rfl,r256,(someb hF).symm,hq⟩)
      ·refine AWP.exit ?_
       refine LeQ.start ?_
       refine LeQ.pk [0,12,13] 1 ?_
       exact (.inl ⟨rfl,v94,v95,(someb hF).symm,by kernel_rfl,by kernel_rfl⟩)
    ·rintro _ _ _ (⟨rfl,v175,v176,rfl,rfl,rfl⟩ | ⟨rfl,r355,rfl,hq⟩)
     ·refine AWP.seq ?_
      obtain ⟨h258,hF⟩:=chkb hF
      refine AWP.rg [(1,.mk0 Za h258)] [(0,(i64 a0)),(12,(.own 0 (List.length v175))),(20,(.own 1 (List.length ([]:(List (Arr5 api_Range))))))] [bf 3 157 Zc v175 false,bf 10 57 Za ([]:(List (Arr5 api_Range))) false] ?_
      refine AWP.seq ?_
      refine .seq (.rg0 [(1,.len Zc v175)] [(0,(i64 a0)),(20,(.own 1 (List.length ([]:(List (Arr5 api_Range)))))),(146,(.own 0 (List.length v175))),(147,(i64 (List.length v175:Int))),(148,(i64 (0:Int)))] ?_)
      obtain ⟨v322,h323,hF⟩:=bindb hF
      refine AWP.mid (fun e st H=>e=.normal∧st=[(20,(.own 1 (List.length v322)))]∧H=[bf 3 157 Zc v175 false,bf 10 57 Za v322 false]) ?_ ?_
      ·clear hF
       refine AWP.kp [0,20,146,147,148] 2 ?_
       refine AWP.bround (fun n st H=>∃ (v290:(List (Arr5 api_Range))),∃ (v291:Int),Za1 a0 v175 n v290 v291=some v322∧st=[(0,(i64 a0)),(20,(.own 1 (List.length v290))),(146,(.own 0 (List.length v175))),(147,(i64 (List.length v175:Int))),(148,(i64 v291))]∧H=[bf 3 157 Zc v175 false,bf 10 57 Za v290 false]) fuel ⟨([]:(List (Arr5 api_Range))),(0:Int),h323,by kernel_rfl,by kernel_rfl⟩ ?_
       rintro n324 st H ⟨v290,v291,hF,rfl,rfl⟩
       cases n324 with
       | zero=>exact noneb hF
       | succ n324=>
        rw [Za1] at hF
        refine .seq (.rg0 [] [(0,(i64 a0)),(20,(.own 1 (List.length v290))),(146,(.own 0 (List.length v175))),(147,(i64 (List.length v175:Int))),(148,(i64 v291)),(149,(vb (decide (v291<(List.length v175:Int)))))] ?_)
        refine AWP.seq ?_
        refine AWP.cif hF (fun h354 hF=>?_) (fun h354 hF=>?_)
        ·refine AWP.skip ?_
         refine AWP.seq ?_
         refine AWP.block ?_
         refine AWP.seq ?_
         obtain ⟨x325,h326,hF⟩:=bindb hF
         refine AWP.rg [(0,.idx Zc h326),(1,.ldE Zc h326)] [(0,(i64 a0)),(20,(.own 1 (List.length v290))),(22,(.ptr 2 0)),(146,(.own 0 (List.length v175))),(147,(i64 (List.length v175:Int))),(148,(i64 v291))] [bf 3 157 Zc v175 false,bf 10 57 Za v290 false,.cells (Zc x325)] ?_
         refine .seq (.rg0 [(2,.len Za x325.f_rest)] [(0,(i64 a0)),(20,(.own 1 (List.length v290))),(22,(.ptr 2 0)),(146,(.own 0 (List.length v175))),(147,(i64 (List.length v175:Int))),(148,(i64 v291)),(153,(slc 10 Za x325.f_rest)),(154,(i64 (List.length x325.f_rest:Int))),(155,(i64 (0:Int)))] ?_)
         obtain ⟨v344,h345,hF⟩:=bindb hF
         refine AWP.mid (fun e st H=>e=.normal∧st=[(0,(i64 a0)),(20,(.own 1 (List.length v344))),(146,(.own 0 (List.length v175))),(147,(i64 (List.length v175:Int))),(148,(i64 v291))]∧H=[bf 3 157 Zc v175 false,bf 10 57 Za v344 false,.cells (Zc x325)]) ?_ ?_
         ·clear hF
          refine AWP.kp [0,20,22,146,147,148,153,154,155] 3 ?_
          refine AWP.bround (fun n st H=>∃ (v335:(List (Arr5 api_Range))),∃ (v336:Int),Za0 a0 x325 n v335 v336=some v344∧st=[(0,(i64 a0)),(20,(.own 1 (List.length v335))),(22,(.ptr 2 0)),(146,(.own 0 (List.length v175))),(147,(i64 (List.length v175:Int))),(148,(i64 v291)),(153,(slc 10 Za x325.f_rest)),(154,(i64 (List.length x325.f_rest:Int))),(155,(i64 v336))]∧H=[bf 3 157 Zc v175 false,bf 10 57 Za v335 false,.cells (Zc x325)]) fuel ⟨v290,(0:Int),h345,by kernel_rfl,by kernel_rfl⟩ ?_
          rintro n346 st H ⟨v335,v336,hF,rfl,rfl⟩
          cases n346 with
          | zero=>exact noneb hF
          | succ n346=>
           rw [Za0] at hF
           refine .seq (.rg0 [] [(0,(i64 a0)),(20,(.own 1 (List.length v335))),(22,(.ptr 2 0)),(146,(.own 0 (List.length v175))),(147,(i64 (List.length v175:Int))),(148,(i64 v291)),(153,(slc 10 Za x325.f_rest)),(154,(i64 (List.length x325.f_rest:Int))),(155,(i64 v336)),(156,(vb (decide (v336<(List.length x325.f_rest:Int)))))] ?_)
           refine AWP.seq ?_
           refine AWP.cif hF (fun h353 hF=>?_) (fun h353 hF=>?_)
           ·refine AWP.skip ?_
            refine AWP.seq ?_
            refine AWP.block ?_
            refine AWP.seq ?_
            obtain ⟨x347,h348,hF⟩:=bindb hF
            refine AWP.rg [(0,.idx Za h348)] [(0,(i64 a0)),(20,(.own 1 (List.length v335))),(22,(.ptr 2 0)),(24,(.ptr 3 0)),(146,(.own 0 (List.length v175))),(147,(i64 (List.length v175:Int))),(148,(i64 v291)),(153,(slc 10 Za x325.f_rest)),(154,(i64 (List.length x325.f_rest:Int))),(155,(i64 v336))] [bf 3 157 Zc v175 false,bf 10 57 Za v335 false,.cells (Zc x325),.cells (Za x347)] ?_
            refine AWP.seq ?_
            obtain ⟨h349,hF⟩:=chkb hF
            refine AWP.rg [(3,.ixd h349),(4,.stA (fun q351=>Za (Arr5.set x347 q351 x325.f_values)) 0 2 0 h349)] [(0,(i64 a0)),(20,(.own 1 (List.length v335))),(22,(.ptr 2 0)),(24,(.ptr 3 0)),(146,(.own 0 (List.length v175))),(147,(i64 (List.length v175:Int))),(148,(i64 v291)),(153,(slc 10 Za x325.f_rest)),(154,(i64 (List.length x325.f_rest:Int))),(155,(i64 v336))] [bf 3 157 Zc v175 false,bf 10 57 Za v335 false,.cells (Zc x325),.cells (Za (Arr5.set x347 a0 x325.f_values))] ?_
            obtain ⟨h352,hF⟩:=chkb hF
            refine AWP.rg [(3,.app Za (fun _=>by kernel_rfl) h352)] [(0,(i64 a0)),(20,(.own 1 (List.length (v335++[(Arr5.set x347 a0 x325.f_values)])))),(22,(.ptr 2 0)),(146,(.own 0 (List.length v175))),(147,(i64 (List.length v175:Int))),(148,(i64 v291)),(153,(slc 10 Za x325.f_rest)),(154,(i64 (List.length x325.f_rest:Int))),(155,(i64 v336))] [bf 3 157 Zc v175 false,bf 10 57 Za (v335++[(Arr5.set x347 a0 x325.f_values)]) false,.cells (Zc x325),.cells (Za (Arr5.set x347 a0 x325.f_values))] ?_
            refine AWP.rg0 [] [(0,(i64 a0)),(20,(.own 1 (List.length (v335++[(Arr5.set x347 a0 x325.f_values)])))),(22,(.ptr 2 0)),(146,(.own 0 (List.length v175))),(147,(i64 (List.length v175:Int))),(148,(i64 v291)),(153,(slc 10 Za x325.f_rest)),(154,(i64 (List.length x325.f_rest:Int))),(155,(i64 (IntKind.wrap .i64 (v336 + (1:Int)))))] ?_
            refine LeQ.start ?_
            refine LeQ.pk [0,20,22,146,147,148,153,154,155] 3 ?_
            exact ⟨n346,Nat.lt_succ_self _,(v335++[(Arr5.set x347 a0 x325.f_values)]),(IntKind.wrap .i64 (v336 + (1:Int))),hF,by kernel_rfl,by kernel_rfl⟩
           ·refine AWP.exit ?_
            refine LeQ.start ?_
            refine LeQ.pk [0,20,146,147,148] 3 ?_
            have hr:=someb hF
            subst hr
            exact ⟨rfl,by kernel_rfl,by kernel_rfl⟩
         ·rintro _ _ _ ⟨rfl,rfl,rfl⟩
          refine AWP.rg0 [] [(0,(i64 a0)),(20,(.own 1 (List.length v344))),(146,(.own 0 (List.length v175))),(147,(i64 (List.length v175:Int))),(148,(i64 (IntKind.wrap .i64 (v291 + (1:Int)))))] ?_
          refine LeQ.start ?_
          refine LeQ.pk [0,20,146,147,148] 2 ?_
          exact ⟨n324,Nat.lt_succ_self _,v344,(IntKind.wrap .i64 (v291 + (1:Int))),hF,by kernel_rfl,by kernel_rfl⟩
        ·refine AWP.exit ?_
         refine LeQ.start ?_
         refine LeQ.pk [20] 2 ?_
         have hr:=someb hF
         subst hr
         exact ⟨rfl,by kernel_rfl,by kernel_rfl⟩
      ·rintro _ _ _ ⟨rfl,rfl,rfl⟩
       refine .seq (.rg0 [] [(10,(.own 1 (List.length v322))),(11,(vb true))] ?_)
       refine AWP.ret ?_
       have hr:=someb hF
       subst hr
       exact (FnQ.f1 0 (.inr rfl) (.inr ⟨_,_,rfl,rfl,(.cons _ _ _ _ (Wk.ownT (i:=1) (s:=10) (t:=57) (l:=v322) (sh:=false) (row:=Za) (by kernel_rfl) (.inl rfl)) (.cons _ _ _ _ (.refl _) .nil))⟩))
     ·have hr:=someb hF
      subst hr
      exact hq
theorem Zgj (a0:Int) (a1:(List (Arr5 api_Range))) (a2:(List (Arr5 api_Range))) (a3:Int) (r:((List (Arr5 api_Range)) × Bool)) (hF:Z0 fuel a0 a1 a2 a3=some r):ACall Tryz.prog glob 147 [(i64 a0),(slc 10 Za a1),(slc 10 Za a2),(.sc (.func (.func 135) #[] #[])),(i64 a3)] [] (Zdb r):=Zf8 fuel a0 a1 a2 a3 r hF
def Zgy (r:((List (Arr5 api_Range)) × Int)):PV→List Blk→Prop:=fun p K=>p=(.tup [(slc 10 Za r.1),(i64 r.2)])∧K=[]
theorem Zgz (a0:(List (Arr5 api_Range))) (a1:(List (Arr5 api_Range))) (r:((List (Arr5 api_Range)) × Int)) (hF:Zbz a0 a1=some r):ACall Tryz.prog glob 131 [(slc 10 Za a0),(slc 10 Za a1),(.sc (.func (.func 135) #[] #[]))] [] (Zgy r):=by
 refine ACall.body Tryz.func131 rfl (by kernel_rfl) ?_
 unfold Zbz at hF
 refine .seq (.rg0 [] [(0,(slc 10 Za a0)),(1,(slc 10 Za a1)),(2,(.sc (.func (.func 135) #[] #[])))] ?_)
 refine AWP.seq ?_
 obtain ⟨r1,h2,hF⟩:=bindb hF
 refine AWP.rg0 [(3,.call Tryz.func147 [] (Zgj (0:Int) a0 a1 (4096:Int) r1 h2))] [(8,(slc 10 Za r1.1)),(9,(vb r1.2))] ?_
 refine AWP.seq ?_
 refine .seq (.rg0 [] [(8,(slc 10 Za r1.1)),(18,(vb (!r1.2)))] ?_)
 refine AWP.cif hF (fun h3 hF=>?_) (fun h3 hF=>?_)
 ·refine .seq (.rg0 [] [(6,nils),(7,(i64 (3:Int)))] ?_)
  refine AWP.ret ?_
  have hr:=someb hF
  subst hr
  exact (FnQ.f1 0 (.inr rfl) (.inr ⟨_,_,rfl,rfl,(.cons _ _ _ _ (.nil 10) (.cons _ _ _ _ (.refl _) .nil))⟩))
 ·refine AWP.skip ?_
  refine .seq (.rg0 [] [(6,(slc 10 Za r1.1)),(7,(i64 (0:Int)))] ?_)
  refine AWP.ret ?_
  have hr:=someb hF
  subst hr
  exact (FnQ.f0 0 (.inr rfl))
def Zhj (r:((List (Arr5 api_Range)) × Int)):PV→List Blk→Prop:=fun p K=>p=(.tup [(slc 10 Za r.1),(i64 r.2)])∧K=[]
theorem Zhk (a0:(List (Arr5 api_Range))) (a1:(List (Arr5 api_Range))) (r:((List (Arr5 api_Range)) × Int)) (hF:Zdf a0 a1=some r):ACall Tryz.prog glob 133 [(slc 10 Za a0),(slc 10 Za a1),(.sc (.func (.func 135) #[] #[]))] [] (Zhj r):=by
 refine ACall.body Tryz.func133 rfl (by kernel_rfl) ?_
 unfold Zdf at hF
 refine .seq (.rg0 [] [(0,(slc 10 Za a0)),(1,(slc 10 Za a1)),(2,(.sc (.func (.func 135) #[] #[])))] ?_)
 refine AWP.seq ?_
 obtain ⟨r1,h2,hF⟩:=bindb hF
 refine AWP.rg0 [(1,.call Tryz.func140 [] (Zeb a0 r1 h2))] [(1,(slc 10 Za a1)),(2,(.sc (.func (.func 135) #[] #[]))),(8,(slc 10 Za r1.1)),(9,(i64 r1.2))] ?_
 refine AWP.seq ?_
 refine .seq (.rg0 [] [(1,(slc 10 Za a1)),(2,(.sc (.func (.func 135) #[] #[]))),(8,(slc 10 Za r1.1)),(9,(i64 r1.2)),(17,(vb (r1.2 != (0:Int))))] ?_)
 refine AWP.cif hF (fun h8 hF=>?_) (fun h8 hF=>?_)
 ·refine .seq (.rg0 [] [(6,nils),(7,(i64 r1.2))] ?_)
  refine AWP.ret ?_
  have hr:=someb hF
  subst hr
  exact (FnQ.f1 0 (.inr rfl) (.inr ⟨_,_,rfl,rfl,(.cons _ _ _ _ (.nil 10) (.cons _ _ _ _ (.refl _) .nil))⟩))
 ·refine AWP.skip ?_
  refine AWP.seq ?_
  obtain ⟨r3,h4,hF⟩:=bindb hF
  refine AWP.rg0 [(1,.call Tryz.func140 [] (Zeb a1 r3 h4))] [(2,(.sc (.func (.func 135) #[] #[]))),(8,(slc 10 Za r1.1)),(9,(i64 r3.2)),(10,(slc 10 Za r3.1))] ?_
  refine AWP.seq ?_
  refine .seq (.rg0 [] [(2,(.sc (.func (.func 135) #[] #[]))),(8,(slc 10 Za r1.1)),(9,(i64 r3.2)),(10,(slc 10 Za r3.1)),(25,(vb (r3.2 != (0:Int))))] ?_)
  refine AWP.cif hF (fun h7 hF=>?_) (fun h7 hF=>?_)
  ·refine .seq (.rg0 [] [(6,nils),(7,(i64 r3.2))] ?_)
   refine AWP.ret ?_
   have hr:=someb hF
   subst hr
   exact (FnQ.f1 0 (.inr rfl) (.inr ⟨_,_,rfl,rfl,(.cons _ _ _ _ (.nil 10) (.cons _ _ _ _ (.refl _) .nil))⟩))
  ·refine AWP.skip ?_
   refine AWP.seq ?_
   obtain ⟨r5,h6,hF⟩:=bindb hF
   refine AWP.rg0 [(3,.call Tryz.func131 [] (Zgz r1.1 r3.1 r5 h6))] [(6,(slc 10 Za r5.1)),(7,(i64 r5.2))] ?_
   refine AWP.ret ?_
   have hr:=someb hF
   subst hr
   exact (FnQ.f0 0 (.inr rfl))
def Zis (r:((List (Arr5 api_Range)) × Int)):PV→List Blk→Prop:=fun p K=>p=(.tup [(slc 10 Za r.1),(i64 r.2)])∧K=[]
theorem Zit (a0:(List (Arr5 api_Range))) (a1:(List (Arr5 api_Range))) (r:((List (Arr5 api_Range)) × Int)) (hF:Zdk a0 a1=some r):ACall Tryz.prog glob 105 [(slc 10 Za a0),(slc 10 Za a1)] [] (Zis r):=by
 refine ACall.body Tryz.func105 rfl (by kernel_rfl) ?_
 unfold Zdk at hF
 refine .seq (.rg0 [] [(0,(slc 10 Za a0)),(1,(slc 10 Za a1))] ?_)
 refine AWP.seq ?_
 obtain ⟨r1,h2,hF⟩:=bindb hF
 refine AWP.rg0 [(2,.call Tryz.func133 [] (Zhk a0 a1 r1 h2))] [(4,(slc 10 Za r1.1)),(5,(i64 r1.2))] ?_
 refine AWP.ret ?_
 have hr:=someb hF
 subst hr
 exact (FnQ.f0 0 (.inr rfl))
def Zhl (r:((List (Arr5 api_Range)) × rewrite_ledger)):PV→List Blk→Prop:=fun p K=>p=(slc 10 Za r.1)∧K=[.cells (Zg r.2)]
theorem Zfo (a0:rewrite_ledger) (a1:(List (Arr5 api_Range))) (a2:(List (Arr5 api_Range))) (r:((List (Arr5 api_Range)) × rewrite_ledger)) (hF:Zb3 a0 a1 a2=some r):ACall Tryz.prog glob 59 [(.ptr 0 0),(slc 10 Za a1),(slc 10 Za a2)] [.cells (Zg a0)] (Zhl r):=by
 refine ACall.body Tryz.func59 rfl (by kernel_rfl) ?_
 unfold Zb3 at hF
 refine .seq (.rg0 [] [(0,(.ptr 0 0)),(1,(slc 10 Za a1)),(2,(slc 10 Za a2))] ?_)
 refine AWP.seq ?_
 obtain ⟨r1,h2,hF⟩:=bindb hF
 obtain ⟨r3,h4,hF⟩:=bindb hF
 refine AWP.rg [(3,.call Tryz.func105 [] (Zit a1 a2 r1 h2)),(6,.call Tryz.func100 [] (Zea a0 r1.1 r1.2 r3 h4))] [(6,(slc 10 Za r3.1))] [.cells (Zg r3.2)] ?_
 refine AWP.ret ?_
 have hr:=someb hF
 subst hr
 exact (FnQ.f0 1 (.inr rfl))
end Go.AM
set_option maxRecDepth 100000
namespace Go.AM
open Go Go.Proofs
def Zid (r:((List (List (Arr5 api_Range))) × (List (Arr5 api_Range)) × rewrite_ledger)):PV→List Blk→Prop:=fun p K=>p=(.tup [(slc 1 Zh r.1),(slc 10 Za r.2.1)])∧K=[.cells (Zg r.2.2)]
theorem Zie (a0:rewrite_ledger) (a1:(List (Arr5 api_Range))) (a2:(List (Arr5 api_Range))) (r:((List (List (Arr5 api_Range))) × (List (Arr5 api_Range)) × rewrite_ledger)) (hF:Zc7 a0 a1 a2=some r):ACall Tryz.prog glob 49 [(.ptr 0 0),(slc 10 Za a1),(slc 10 Za a2)] [.cells (Zg a0)] (Zid r):=by
 refine ACall.body Tryz.func49 rfl (by kernel_rfl) ?_
 unfold Zc7 at hF
 refine .seq (.rg0 [] [(0,(.ptr 0 0)),(1,(slc 10 Za a1)),(2,(slc 10 Za a2))] ?_)
 refine .seq (.rg0 [] [(0,(.ptr 0 0)),(1,(slc 10 Za a1)),(2,(slc 10 Za a2)),(8,nils)] ?_)
 refine AWP.own (H':=[.cells (Zg a0),bf 1 38 Zh ([]:(List (List (Arr5 api_Range)))) false]) (st':=[(8,(.own 1 (List.length ([]:(List (List (Arr5 api_Range))))))),(0,(.ptr 0 0)),(1,(slc 10 Za a1)),(2,(slc 10 Za a2))]) 8 1 38 (by kernel_rfl) (by kernel_rfl) (by kernel_rfl) ?_
 refine AWP.pick (st':=[(0,(.ptr 0 0)),(1,(slc 10 Za a1)),(2,(slc 10 Za a2)),(8,(.own 1 (List.length ([]:(List (List (Arr5 api_Range)))))))]) (ks:=[0,1,2,8]) (by kernel_rfl) ?_
 refine AWP.seq ?_
 refine .seq (.rg0 [(1,.len Za a1)] [(0,(.ptr 0 0)),(2,(slc 10 Za a2)),(8,(.own 1 (List.length ([]:(List (List (Arr5 api_Range))))))),(11,(slc 10 Za a1)),(12,(i64 (List.length a1:Int))),(13,(i64 (0:Int)))] ?_)
 obtain ⟨o66,h67,hF⟩:=bindb hF
 refine AWP.mid (fun e st H=>(e=.normal∧∃ (v63:rewrite_ledger),∃ (v64:(List (List (Arr5 api_Range)))),∃ (v65:(List (Arr5 api_Range))),o66=(v63,v64,v65)∧st=[(2,(slc 10 Za v65)),(8,(.own 1 (List.length v64)))]∧H=[.cells (Zg v63),bf 1 38 Zh v64 false])) ?_ ?_
 ·clear hF
  refine AWP.kp [0,2,8,11,12,13] 2 ?_
  refine AWP.bround (fun n st H=>∃ (v31:rewrite_ledger),∃ (v32:(List (List (Arr5 api_Range)))),∃ (v33:(List (Arr5 api_Range))),∃ (v34:Int),Zat a1 n v31 v32 v33 v34=some o66∧st=[(0,(.ptr 0 0)),(2,(slc 10 Za v33)),(8,(.own 1 (List.length v32))),(11,(slc 10 Za a1)),(12,(i64 (List.length a1:Int))),(13,(i64 v34))]∧H=[.cells (Zg v31),bf 1 38 Zh v32 false]) fuel ⟨a0,([]:(List (List (Arr5 api_Range)))),a2,(0:Int),h67,by kernel_rfl,by kernel_rfl⟩ ?_
  rintro n68 st H ⟨v31,v32,v33,v34,hF,rfl,rfl⟩
  cases n68 with
  | zero=>exact noneb hF
  | succ n68=>
   rw [Zat] at hF
   refine .seq (.rg0 [] [(0,(.ptr 0 0)),(2,(slc 10 Za v33)),(8,(.own 1 (List.length v32))),(11,(slc 10 Za a1)),(12,(i64 (List.length a1:Int))),(13,(i64 v34)),(14,(vb (decide (v34<(List.length a1:Int)))))] ?_)
   refine AWP.seq ?_
   refine AWP.cif hF (fun h96 hF=>?_) (fun h96 hF=>?_)
   ·refine AWP.skip ?_
    obtain ⟨o83,h84,hF⟩:=bindb hF
    refine AWP.seq ?_
    refine AWP.mid (fun e st H=>(e=.normal∧∃ (v80:rewrite_ledger),∃ (v81:(List (List (Arr5 api_Range)))),∃ (v82:(List (Arr5 api_Range))),o83=(v80,v81,v82)∧st=[(0,(.ptr 0 0)),(2,(slc 10 Za v82)),(8,(.own 1 (List.length v81))),(11,(slc 10 Za a1)),(12,(i64 (List.length a1:Int))),(13,(i64 v34))]∧H=[.cells (Zg v80),bf 1 38 Zh v81 false])) ?_ ?_
    ·clear hF
     have hF:=h84
     refine AWP.block ?_
     refine AWP.seq ?_
     obtain ⟨x85,h86,hF⟩:=bindb hF
     refine AWP.rg [(0,.idx Za h86)] [(0,(.ptr 0 0)),(2,(slc 10 Za v33)),(8,(.own 1 (List.length v32))),(10,(.ptr 2 0)),(11,(slc 10 Za a1)),(12,(i64 (List.length a1:Int))),(13,(i64 v34))] [.cells (Zg v31),bf 1 38 Zh v32 false,.cells (Za x85)] ?_
     refine AWP.seq ?_
     refine AWP.seq ?_
     obtain ⟨r87,h88,hF⟩:=bindb hF
     refine AWP.rg0 [(1,.call Tryz.func98 [] (Zgb x85 r87 h88))] [(0,(.ptr 0 0)),(2,(slc 10 Za v33)),(8,(.own 1 (List.length v32))),(10,(.ptr 2 0)),(11,(slc 10 Za a1)),(12,(i64 (List.length a1:Int))),(13,(i64 v34)),(19,(vb (!r87)))] ?_
     refine AWP.cif hF (fun h95 hF=>?_) (fun h95 hF=>?_)
     ·refine AWP.seq ?_
      obtain ⟨h89,hF⟩:=chkb hF
      refine AWP.rg [(1,.litN),(2,.app Zh (fun _=>by kernel_rfl) h89)] [(0,(.ptr 0 0)),(2,(slc 10 Za v33)),(8,(.own 1 (List.length (v32++[([]:(List (Arr5 api_Range)))])))),(11,(slc 10 Za a1)),(12,(i64 (List.length a1:Int))),(13,(i64 v34))] [.cells (Zg v31),bf 1 38 Zh (v32++[([]:(List (Arr5 api_Range)))]) false,.cells (Za x85)] ?_
      refine AWP.exit ?_
      refine LeQ.start ?_
      refine LeQ.pk [0,2,8,11,12,13] 2 ?_
      exact ⟨rfl,v31,(v32++[([]:(List (Arr5 api_Range)))]),v33,(someb hF).symm,by kernel_rfl,by kernel_rfl⟩
     ·refine AWP.skip ?_
      refine AWP.seq ?_
      obtain ⟨r90,h91,hF⟩:=bindb hF
      obtain ⟨h92,hF⟩:=chkb hF
      refine AWP.rg [(5,.call Tryz.func57 [] (Zcg v31 v33 [x85] r90 h91)),(7,.app Zh (fun _=>by kernel_rfl) h92)] [(0,(.ptr 0 0)),(2,(slc 10 Za v33)),(8,(.own 1 (List.length (v32++[r90.1])))),(10,(.ptr 2 0)),(11,(slc 10 Za a1)),(12,(i64 (List.length a1:Int))),(13,(i64 v34))] [.cells (Zg r90.2),bf 1 38 Zh (v32++[r90.1]) false,.cells (Za x85)] ?_
      obtain ⟨r93,h94,hF⟩:=bindb hF
      refine AWP.rg [(4,.call Tryz.func59 [] (Zfo r90.2 v33 [x85] r93 h94))] [(0,(.ptr 0 0)),(2,(slc 10 Za r93.1)),(8,(.own 1 (List.length (v32++[r90.1])))),(11,(slc 10 Za a1)),(12,(i64 (List.length a1:Int))),(13,(i64 v34))] [.cells (Zg r93.2),bf 1 38 Zh (v32++[r90.1]) false,.cells (Za x85)] ?_
      refine LeQ.start ?_
      refine LeQ.pk [0,2,8,11,12,13] 2 ?_
      exact ⟨rfl,r93.2,(v32++[r90.1]),r93.1,(someb hF).symm,by kernel_rfl,by kernel_rfl⟩
    ·rintro _ _ _ ⟨rfl,v80,v81,v82,rfl,rfl,rfl⟩
     refine AWP.rg0 [] [(0,(.ptr 0 0)),(2,(slc 10 Za v82)),(8,(.own 1 (List.length v81))),(11,(slc 10 Za a1)),(12,(i64 (List.length a1:Int))),(13,(i64 (IntKind.wrap .i64 (v34 + (1:Int)))))] ?_
     refine LeQ.start ?_
     refine LeQ.pk [0,2,8,11,12,13] 2 ?_
     exact ⟨n68,Nat.lt_succ_self _,v80,v81,v82,(IntKind.wrap .i64 (v34 + (1:Int))),hF,by kernel_rfl,by kernel_rfl⟩
   ·refine AWP.exit ?_
    refine LeQ.start ?_
    refine LeQ.pk [2,8] 2 ?_
    exact ⟨rfl,v31,v32,v33,(someb hF).symm,by kernel_rfl,by kernel_rfl⟩
 ·rintro _ _ _ ⟨rfl,v63,v64,v65,rfl,rfl,rfl⟩
  refine .seq (.rg0 [] [(6,(.own 1 (List.length v64))),(7,(slc 10 Za v65))] ?_)
  refine AWP.ret ?_
  have hr:=someb hF
  subst hr
  exact (FnQ.f1 1 (.inr rfl) (.inr ⟨_,_,rfl,rfl,(.cons _ _ _ _ (Wk.ownT (i:=1) (s:=1) (t:=38) (l:=v64) (sh:=false) (row:=Zh) (by kernel_rfl) (.inl rfl)) (.cons _ _ _ _ (.refl _) .nil))⟩))
def Zjr (r:(List (Arr5 api_Range))):PV→List Blk→Prop:=fun p K=>p=(slc 10 Za r)∧K=[]
theorem Zhh (a0:api_Move) (a1:(List (Arr5 api_Range))) (r:(List (Arr5 api_Range))) (hF:Zdo a0 a1=some r):ACall Tryz.prog glob 54 [(Zf9 a0),(slc 10 Za a1)] [] (Zjr r):=by
 refine ACall.body Tryz.func54 rfl (by kernel_rfl) ?_
 unfold Zdo at hF
 refine .seq (.rg [] [(1,(slc 10 Za a1)),(2,(.ptr 0 0))] [.cells (Ze a0)] ?_)
 refine AWP.seq ?_
 obtain ⟨h1,hF⟩:=chkb hF
 refine AWP.rg [(1,.clone Tryz.func103 Za (fun _=>by kernel_rfl) h1)] [(1,(slc 10 Za a1)),(2,(.ptr 0 0)),(5,(.own 1 (List.length a1)))] [.cells (Ze a0),bf 10 57 Za a1 false] ?_
 refine AWP.seq ?_
 refine .seq (.rg0 [(1,.len Za a1)] [(1,(slc 10 Za a1)),(2,(.ptr 0 0)),(5,(.own 1 (List.length a1))),(12,(i64 (List.length a1:Int))),(13,(i64 (0:Int)))] ?_)
 obtain ⟨v163,h164,hF⟩:=bindb hF
 refine AWP.mid (fun e st H=>e=.normal∧st=[(5,(.own 1 (List.length v163)))]∧H=[.cells (Ze a0),bf 10 57 Za v163 false]) ?_ ?_
 ·clear hF
  refine AWP.kp [1,2,5,12,13] 2 ?_
  refine AWP.bround (fun n st H=>∃ (v82:(List (Arr5 api_Range))),∃ (v83:Int),Zcf a0 a1 n v82 v83=some v163∧st=[(1,(slc 10 Za a1)),(2,(.ptr 0 0)),(5,(.own 1 (List.length v82))),(12,(i64 (List.length a1:Int))),(13,(i64 v83))]∧H=[.cells (Ze a0),bf 10 57 Za v82 false]) fuel ⟨a1,(0:Int),h164,by kernel_rfl,by kernel_rfl⟩ ?_
  rintro n165 st H ⟨v82,v83,hF,rfl,rfl⟩
  cases n165 with
  | zero=>exact noneb hF
  | succ n165=>
   rw [Zcf] at hF
   refine .seq (.rg0 [] [(1,(slc 10 Za a1)),(2,(.ptr 0 0)),(5,(.own 1 (List.length v82))),(12,(i64 (List.length a1:Int))),(13,(i64 v83)),(14,(vb (decide (v83<(List.length a1:Int)))))] ?_)
   refine AWP.seq ?_
   refine AWP.cif hF (fun h244 hF=>?_) (fun h244 hF=>?_)
   ·refine AWP.skip ?_
    refine AWP.seq ?_
    refine AWP.block ?_
    refine .seq (.rg0 [] [(1,(slc 10 Za a1)),(2,(.ptr 0 0)),(5,(.own 1 (List.length v82))),(6,(i64 v83)),(12,(i64 (List.length a1:Int))),(13,(i64 v83))] ?_)
    refine .seq (.rg0 [] [(1,(slc 10 Za a1)),(2,(.ptr 0 0)),(5,(.own 1 (List.length v82))),(6,(i64 v83)),(12,(i64 (List.length a1:Int))),(13,(i64 v83)),(17,(Zl a0.From)),(18,(i64 (0:Int)))] ?_)
    obtain ⟨v217,h218,hF⟩:=bindb hF
    refine AWP.mid (fun e st H=>e=.normal∧st=[(1,(slc 10 Za a1)),(2,(.ptr 0 0)),(5,(.own 1 (List.length v217))),(12,(i64 (List.length a1:Int))),(13,(i64 v83))]∧H=[.cells (Ze a0),bf 10 57 Za v217 false]) ?_ ?_
    ·clear hF
     refine AWP.kp [1,2,5,6,12,13,17,18] 2 ?_
     refine AWP.bround (fun n st H=>∃ (v191:(List (Arr5 api_Range))),∃ (v192:Int),Zbj a0 a1 v83 n v191 v192=some v217∧st=[(1,(slc 10 Za a1)),(2,(.ptr 0 0)),(5,(.own 1 (List.length v191))),(6,(i64 v83)),(12,(i64 (List.length a1:Int))),(13,(i64 v83)),(17,(Zl a0.From)),(18,(i64 v192))]∧H=[.cells (Ze a0),bf 10 57 Za v191 false]) fuel ⟨v82,(0:Int),h218,by kernel_rfl,by kernel_rfl⟩ ?_
     rintro n219 st H ⟨v191,v192,hF,rfl,rfl⟩
     cases n219 with
     | zero=>exact noneb hF
     | succ n219=>
      rw [Zbj] at hF
      refine .seq (.rg0 [] [(1,(slc 10 Za a1)),(2,(.ptr 0 0)),(5,(.own 1 (List.length v191))),(6,(i64 v83)),(12,(i64 (List.length a1:Int))),(13,(i64 v83)),(17,(Zl a0.From)),(18,(i64 v192)),(19,(vb (decide (v192<(5:Int)))))] ?_)
      refine AWP.seq ?_
      refine AWP.cif hF (fun h243 hF=>?_) (fun h243 hF=>?_)
      ·refine AWP.skip ?_
       refine AWP.seq ?_
       refine AWP.block ?_
       refine AWP.seq ?_
       obtain ⟨h220,hF⟩:=chkb hF
       refine AWP.rg [(1,.ixA Zf (Arr5.get a0.From) h220)] [(1,(slc 10 Za a1)),(2,(.ptr 0 0)),(5,(.own 1 (List.length v191))),(6,(i64 v83)),(7,(i64 v192)),(8,(.ptr 2 0)),(12,(i64 (List.length a1:Int))),(13,(i64 v83)),(17,(Zl a0.From)),(18,(i64 v192))] [.cells (Ze a0),bf 10 57 Za v191 false,.cells (Zf (Arr5.get a0.From v192))] ?_
       refine AWP.seq ?_
       obtain ⟨h221,hF⟩:=chkb hF
       obtain ⟨x222,h223,hF⟩:=bindb hF
       obtain ⟨h224,hF⟩:=chkb hF
       obtain ⟨x225,h226,hF⟩:=bindb hF
       obtain ⟨h227,hF⟩:=chkb hF
       refine AWP.dr [(5,.ixd h221),(7,.ldA Zf (Arr5.get a0.To) 10 2 0 h221),(11,.idx Za h223),(12,.ixd h224),(14,.ldA Zf (Arr5.get x222) 0 2 0 h224),(19,.idx Za h226),(20,.ixE Za v191 v83 h227),(21,.fdE Za v191 v83),(22,.stEd Za h226 (fun q230=>(Arr5.set x225 q230 ({ (Arr5.get x225 q230) with Lo:=(IntKind.wrap .u32 ((Arr5.get a0.To v192).Lo + (IntKind.wrap .u32 ((Arr5.get x222 v192).Lo - (Arr5.get a0.From v192).Lo)))) }:api_Range))) 0 2 0 h227)] 20 [] [] [] [(1,(slc 10 Za a1)),(2,(.ptr 0 0)),(5,(.own 1 (List.length v191))),(6,(i64 v83)),(7,(i64 v192)),(8,(.ptr 2 0)),(12,(i64 (List.length a1:Int))),(13,(i64 v83)),(17,(Zl a0.From)),(18,(i64 v192))] [.cells (Ze a0),bf 10 57 Za (List.set v191 (Int.toNat v83) (Arr5.set x225 v192 ({ (Arr5.get x225 v192) with Lo:=(IntKind.wrap .u32 ((Arr5.get a0.To v192).Lo + (IntKind.wrap .u32 ((Arr5.get x222 v192).Lo - (Arr5.get a0.From v192).Lo)))) }:api_Range))) false,.cells (Zf (Arr5.get a0.From v192))] ?_
       rw [show ([(1,(slc 10 Za a1)),(2,(.ptr 0 0)),(5,(.own 1 (List.length v191))),(6,(i64 v83)),(7,(i64 v192)),(8,(.ptr 2 0)),(12,(i64 (List.length a1:Int))),(13,(i64 v83)),(17,(Zl a0.From)),(18,(i64 v192))]:St)=[(1,(slc 10 Za a1)),(2,(.ptr 0 0)),(5,(.own 1 (List.length (List.set v191 (Int.toNat v83) (Arr5.set x225 v192 ({ (Arr5.get x225 v192) with Lo:=(IntKind.wrap .u32 ((Arr5.get a0.To v192).Lo + (IntKind.wrap .u32 ((Arr5.get x222 v192).Lo - (Arr5.get a0.From v192).Lo)))) }:api_Range)))))),(6,(i64 v83)),(7,(i64 v192)),(8,(.ptr 2 0)),(12,(i64 (List.length a1:Int))),(13,(i64 v83)),(17,(Zl a0.From)),(18,(i64 v192))] by simp only [List.length_set]]
       obtain ⟨h232,hF⟩:=chkb hF
       obtain ⟨x233,h234,hF⟩:=bindb hF
       obtain ⟨h235,hF⟩:=chkb hF
       obtain ⟨x236,h237,hF⟩:=bindb hF
       obtain ⟨h238,hF⟩:=chkb hF
       refine AWP.dr [(5,.ixd h232),(7,.ldA Zf (Arr5.get a0.To) 10 2 0 h232),(11,.idx Za h234),(12,.ixd h235),(14,.ldA Zf (Arr5.get x233) 0 2 1 h235),(19,.idx Za h237),(20,.ixE Za (List.set v191 (Int.toNat v83) (Arr5.set x225 v192 ({ (Arr5.get x225 v192) with Lo:=(IntKind.wrap .u32 ((Arr5.get a0.To v192).Lo + (IntKind.wrap .u32 ((Arr5.get x222 v192).Lo - (Arr5.get a0.From v192).Lo)))) }:api_Range))) v83 h238),(21,.fdE Za (List.set v191 (Int.toNat v83) (Arr5.set x225 v192 ({ (Arr5.get x225 v192) with Lo:=(IntKind.wrap .u32 ((Arr5.get a0.To v192).Lo + (IntKind.wrap .u32 ((Arr5.get x222 v192).Lo - (Arr5.get a0.From v192).Lo)))) }:api_Range))) v83),(22,.stEd Za h237 (fun q241=>(Arr5.set x236 q241 ({ (Arr5.get x236 q241) with Hi:=(IntKind.wrap .u32 ((Arr5.get a0.To v192).Lo + (IntKind.wrap .u32 ((Arr5.get x233 v192).Hi - (Arr5.get a0.From v192).Lo)))) }:api_Range))) 0 2 1 h238)] 20 [] [] [] [(1,(slc 10 Za a1)),(2,(.ptr 0 0)),(5,(.own 1 (List.length (List.set v191 (Int.toNat v83) (Arr5.set x225 v192 ({ (Arr5.get x225 v192) with Lo:=(IntKind.wrap .u32 ((Arr5.get a0.To v192).Lo + (IntKind.wrap .u32 ((Arr5.get x222 v192).Lo - (Arr5.get a0.From v192).Lo)))) }:api_Range)))))),(6,(i64 v83)),(12,(i64 (List.length a1:Int))),(13,(i64 v83)),(17,(Zl a0.From)),(18,(i64 v192))] [.cells (Ze a0),bf 10 57 Za (List.set (List.set v191 (Int.toNat v83) (Arr5.set x225 v192 ({ (Arr5.get x225 v192) with Lo:=(IntKind.wrap .u32 ((Arr5.get a0.To v192).Lo + (IntKind.wrap .u32 ((Arr5.get x222 v192).Lo - (Arr5.get a0.From v192).Lo)))) }:api_Range))) (Int.toNat v83) (Arr5.set x236 v192 ({ (Arr5.get x236 v192) with Hi:=(IntKind.wrap .u32 ((Arr5.get a0.To v192).Lo + (IntKind.wrap .u32 ((Arr5.get x233 v192).Hi - (Arr5.get a0.From v192).Lo)))) }:api_Range))) false,.cells (Zf (Arr5.get a0.From v192))] ?_
       rw [show ([(1,(slc 10 Za a1)),(2,(.ptr 0 0)),(5,(.own 1 (List.length (List.set v191 (Int.toNat v83) (Arr5.set x225 v192 ({ (Arr5.get x225 v192) with Lo:=(IntKind.wrap .u32 ((Arr5.get a0.To v192).Lo + (IntKind.wrap .u32 ((Arr5.get x222 v192).Lo - (Arr5.get a0.From v192).Lo)))) }:api_Range)))))),(6,(i64 v83)),(12,(i64 (List.length a1:Int))),(13,(i64 v83)),(17,(Zl a0.From)),(18,(i64 v192))]:St)=[(1,(slc 10 Za a1)),(2,(.ptr 0 0)),(5,(.own 1 (List.length (List.set (List.set v191 (Int.toNat v83) (Arr5.set x225 v192 ({ (Arr5.get x225 v192) with Lo:=(IntKind.wrap .u32 ((Arr5.get a0.To v192).Lo + (IntKind.wrap .u32 ((Arr5.get x222 v192).Lo - (Arr5.get a0.From v192).Lo)))) }:api_Range))) (Int.toNat v83) (Arr5.set x236 v192 ({ (Arr5.get x236 v192) with Hi:=(IntKind.wrap .u32 ((Arr5.get a0.To v192).Lo + (IntKind.wrap .u32 ((Arr5.get x233 v192).Hi - (Arr5.get a0.From v192).Lo)))) }:api_Range)))))),(6,(i64 v83)),(12,(i64 (List.length a1:Int))),(13,(i64 v83)),(17,(Zl a0.From)),(18,(i64 v192))] by simp only [List.length_set]]
       refine AWP.rg0 [] [(1,(slc 10 Za a1)),(2,(.ptr 0 0)),(5,(.own 1 (List.length (List.set (List.set v191 (Int.toNat v83) (Arr5.set x225 v192 ({ (Arr5.get x225 v192) with Lo:=(IntKind.wrap .u32 ((Arr5.get a0.To v192).Lo + (IntKind.wrap .u32 ((Arr5.get x222 v192).Lo - (Arr5.get a0.From v192).Lo)))) }:api_Range))) (Int.toNat v83) (Arr5.set x236 v192 ({ (Arr5.get x236 v192) with Hi:=(IntKind.wrap .u32 ((Arr5.get a0.To v192).Lo + (IntKind.wrap .u32 ((Arr5.get x233 v192).Hi - (Arr5.get a0.From v192).Lo)))) }:api_Range)))))),(6,(i64 v83)),(12,(i64 (List.length a1:Int))),(13,(i64 v83)),(17,(Zl a0.From)),(18,(i64 (IntKind.wrap .i64 (v192 + (1:Int)))))] ?_
       refine LeQ.start ?_
       refine LeQ.pk [1,2,5,6,12,13,17,18] 2 ?_
       exact ⟨n219,Nat.lt_succ_self _,(List.set (List.set v191 (Int.toNat v83) (Arr5.set x225 v192 ({ (Arr5.get x225 v192) with Lo:=(IntKind.wrap .u32 ((Arr5.get a0.To v192).Lo + (IntKind.wrap .u32 ((Arr5.get x222 v192).Lo - (Arr5.get a0.From v192).Lo)))) }:api_Range))) (Int.toNat v83) (Arr5.set x236 v192 ({ (Arr5.get x236 v192) with Hi:=(IntKind.wrap .u32 ((Arr5.get a0.To v192).Lo + (IntKind.wrap .u32 ((Arr5.get x233 v192).Hi - (Arr5.get a0.From v192).Lo)))) }:api_Range))),(IntKind.wrap .i64 (v192 + (1:Int))),hF,by kernel_rfl,by kernel_rfl⟩
      ·refine AWP.exit ?_
       refine LeQ.start ?_
       refine LeQ.pk [1,2,5,12,13] 2 ?_
       have hr:=someb hF
       subst hr
       exact ⟨rfl,by kernel_rfl,by kernel_rfl⟩
    ·rintro _ _ _ ⟨rfl,rfl,rfl⟩
     refine AWP.rg0 [] [(1,(slc 10 Za a1)),(2,(.ptr 0 0)),(5,(.own 1 (List.length v217))),(12,(i64 (List.length a1:Int))),(13,(i64 (IntKind.wrap .i64 (v83 + (1:Int)))))] ?_
     refine LeQ.start ?_
     refine LeQ.pk [1,2,5,12,13] 2 ?_
     exact ⟨n165,Nat.lt_succ_self _,v217,(IntKind.wrap .i64 (v83 + (1:Int))),hF,by kernel_rfl,by kernel_rfl⟩
   ·refine AWP.exit ?_
    refine LeQ.start ?_
    refine LeQ.pk [5] 2 ?_
    have hr:=someb hF
    subst hr
    exact ⟨rfl,by kernel_rfl,by kernel_rfl⟩
 ·rintro _ _ _ ⟨rfl,rfl,rfl⟩
  refine .seq (.rg0 [] [(4,(.own 1 (List.length v163)))] ?_)
  refine AWP.ret ?_
  have hr:=someb hF
  subst hr
  exact (FnQ.f1 0 (.inr rfl) (.inl (Wk.ownT (i:=1) (s:=10) (t:=57) (l:=v163) (sh:=false) (row:=Za) (by kernel_rfl) (.inl rfl))))
def Zhs (r:((List (Arr5 api_Range)) × Int)):PV→List Blk→Prop:=fun p K=>p=(.tup [(slc 10 Za r.1),(i64 r.2)])∧K=[]
theorem Zht (a0:(List (Arr5 api_Range))) (a1:(List (Arr5 api_Range))) (r:((List (Arr5 api_Range)) × Int)) (hF:Zdl a0 a1=some r):ACall Tryz.prog glob 133 [(slc 10 Za a0),(slc 10 Za a1),(.sc (.func (.func 132) #[] #[]))] [] (Zhs r):=by
 refine ACall.body Tryz.func133 rfl (by kernel_rfl) ?_
 unfold Zdl at hF
 refine .seq (.rg0 [] [(0,(slc 10 Za a0)),(1,(slc 10 Za a1)),(2,(.sc (.func (.func 132) #[] #[])))] ?_)
 refine AWP.seq ?_
 obtain ⟨r1,h2,hF⟩:=bindb hF
 refine AWP.rg0 [(1,.call Tryz.func140 [] (Zeb a0 r1 h2))] [(1,(slc 10 Za a1)),(2,(.sc (.func (.func 132) #[] #[]))),(8,(slc 10 Za r1.1)),(9,(i64 r1.2))] ?_
 refine AWP.seq ?_
 refine .seq (.rg0 [] [(1,(slc 10 Za a1)),(2,(.sc (.func (.func 132) #[] #[]))),(8,(slc 10 Za r1.1)),(9,(i64 r1.2)),(17,(vb (r1.2 != (0:Int))))] ?_)
 refine AWP.cif hF (fun h8 hF=>?_) (fun h8 hF=>?_)
 ·refine .seq (.rg0 [] [(6,nils),(7,(i64 r1.2))] ?_)
  refine AWP.ret ?_
  have hr:=someb hF
  subst hr
  exact (FnQ.f1 0 (.inr rfl) (.inr ⟨_,_,rfl,rfl,(.cons _ _ _ _ (.nil 10) (.cons _ _ _ _ (.refl _) .nil))⟩))
 ·refine AWP.skip ?_
  refine AWP.seq ?_
  obtain ⟨r3,h4,hF⟩:=bindb hF
  refine AWP.rg0 [(1,.call Tryz.func140 [] (Zeb a1 r3 h4))] [(2,(.sc (.func (.func 132) #[] #[]))),(8,(slc 10 Za r1.1)),(9,(i64 r3.2)),(10,(slc 10 Za r3.1))] ?_
  refine AWP.seq ?_
  refine .seq (.rg0 [] [(2,(.sc (.func (.func 132) #[] #[]))),(8,(slc 10 Za r1.1)),(9,(i64 r3.2)),(10,(slc 10 Za r3.1)),(25,(vb (r3.2 != (0:Int))))] ?_)
  refine AWP.cif hF (fun h7 hF=>?_) (fun h7 hF=>?_)
  ·refine .seq (.rg0 [] [(6,nils),(7,(i64 r3.2))] ?_)
   refine AWP.ret ?_
   have hr:=someb hF
   subst hr
   exact (FnQ.f1 0 (.inr rfl) (.inr ⟨_,_,rfl,rfl,(.cons _ _ _ _ (.nil 10) (.cons _ _ _ _ (.refl _) .nil))⟩))
  ·refine AWP.skip ?_
   refine AWP.seq ?_
   obtain ⟨r5,h6,hF⟩:=bindb hF
   refine AWP.rg0 [(3,.call Tryz.func131 [] (Ze7 r1.1 r3.1 r5 h6))] [(6,(slc 10 Za r5.1)),(7,(i64 r5.2))] ?_
   refine AWP.ret ?_
   have hr:=someb hF
   subst hr
   exact (FnQ.f0 0 (.inr rfl))
def Zjs (r:((List (Arr5 api_Range)) × Int)):PV→List Blk→Prop:=fun p K=>p=(.tup [(slc 10 Za r.1),(i64 r.2)])∧K=[]
theorem Zjt (a0:(List (Arr5 api_Range))) (a1:(List (Arr5 api_Range))) (r:((List (Arr5 api_Range)) × Int)) (hF:Zek a0 a1=some r):ACall Tryz.prog glob 102 [(slc 10 Za a0),(slc 10 Za a1)] [] (Zjs r):=by
 refine ACall.body Tryz.func102 rfl (by kernel_rfl) ?_
 unfold Zek at hF
 refine .seq (.rg0 [] [(0,(slc 10 Za a0)),(1,(slc 10 Za a1))] ?_)
 refine AWP.seq ?_
 obtain ⟨r1,h2,hF⟩:=bindb hF
 refine AWP.rg0 [(2,.call Tryz.func133 [] (Zht a0 a1 r1 h2))] [(4,(slc 10 Za r1.1)),(5,(i64 r1.2))] ?_
 refine AWP.ret ?_
 have hr:=someb hF
 subst hr
 exact (FnQ.f0 0 (.inr rfl))
def Zif (r:((List (Arr5 api_Range)) × rewrite_ledger)):PV→List Blk→Prop:=fun p K=>p=(slc 10 Za r.1)∧K=[.cells (Zg r.2)]
theorem Zd0 (a0:rewrite_ledger) (a1:(List (Arr5 api_Range))) (a2:(List (Arr5 api_Range))) (r:((List (Arr5 api_Range)) × rewrite_ledger)) (hF:Zbn a0 a1 a2=some r):ACall Tryz.prog glob 53 [(.ptr 0 0),(slc 10 Za a1),(slc 10 Za a2)] [.cells (Zg a0)] (Zif r):=by
 refine ACall.body Tryz.func53 rfl (by kernel_rfl) ?_
 unfold Zbn at hF
 refine .seq (.rg0 [] [(0,(.ptr 0 0)),(1,(slc 10 Za a1)),(2,(slc 10 Za a2))] ?_)
 refine AWP.seq ?_
 obtain ⟨r1,h2,hF⟩:=bindb hF
 obtain ⟨r3,h4,hF⟩:=bindb hF
 refine AWP.rg [(3,.call Tryz.func102 [] (Zjt a1 a2 r1 h2)),(6,.call Tryz.func100 [] (Zea a0 r1.1 r1.2 r3 h4))] [(6,(slc 10 Za r3.1))] [.cells (Zg r3.2)] ?_
 refine AWP.ret ?_
 have hr:=someb hF
 subst hr
 exact (FnQ.f0 1 (.inr rfl))
def Zhx (a0:rewrite_ledger) (r:((List (Arr5 api_Range)) × Int)):PV→List Blk→Prop:=fun p K=>p=(.tup [(slc 10 Za r.1),(i64 r.2)])∧K=[.cells (Zg a0)]
theorem Zf4 (a0:rewrite_ledger) (a1:(List (Arr5 api_Range))) (r:((List (Arr5 api_Range)) × Int)) (hF:Zcd a0 a1=some r):ACall Tryz.prog glob 55 [(.ptr 0 0),(slc 10 Za a1)] [.cells (Zg a0)] (Zhx a0 r):=by
 refine ACall.body Tryz.func55 rfl (by kernel_rfl) ?_
 unfold Zcd at hF
 refine .seq (.rg0 [] [(0,(.ptr 0 0)),(1,(slc 10 Za a1))] ?_)
 refine AWP.seq ?_
 refine .seq (.rg0 [] [(0,(.ptr 0 0)),(1,(slc 10 Za a1)),(10,(vb (a0.f_err != (0:Int))))] ?_)
 refine AWP.cif hF (fun h2 hF=>?_) (fun h2 hF=>?_)
 ·refine .seq (.dr [] 5 [] [] [] [(4,nils),(5,(i64 a0.f_err))] [.cells (Zg a0)] ?_)
  refine AWP.ret ?_
  have hr:=someb hF
  subst hr
  exact (FnQ.f1 1 (.inr rfl) (.inr ⟨_,_,rfl,rfl,(.cons _ _ _ _ (.nil 10) (.cons _ _ _ _ (.refl _) .nil))⟩))
 ·refine AWP.skip ?_
  refine AWP.seq ?_
  obtain ⟨h1,hF⟩:=chkb hF
  refine AWP.rg [(1,.clone Tryz.func103 Za (fun _=>by kernel_rfl) h1)] [(4,(.own 1 (List.length a1))),(5,(i64 (0:Int)))] [.cells (Zg a0),bf 10 57 Za a1 false] ?_
  refine AWP.ret ?_
  have hr:=someb hF
  subst hr
  exact (FnQ.f1 1 (.inr rfl) (.inr ⟨_,_,rfl,rfl,(.cons _ _ _ _ (Wk.ownT (i:=1) (s:=10) (t:=57) (l:=a1) (sh:=false) (row:=Za) (by kernel_rfl) (.inl rfl)) (.cons _ _ _ _ (.refl _) .nil))⟩))
def Zki (r:((List (Arr5 api_Range)) × Int)):PV→List Blk→Prop:=fun p K=>p=(.tup [(slc 10 Za r.1),(i64 r.2)])∧K=[]
theorem Zh6 (a0:(List api_Move)) (a1:(List (Arr5 api_Range))) (r:((List (Arr5 api_Range)) × Int)) (hF:Zd8 a0 a1=some r):ACall Tryz.prog glob 16 [(slc 20 Ze a0),(slc 10 Za a1)] [] (Zki r):=by
 refine ACall.body Tryz.func16 rfl (by kernel_rfl) ?_
 unfold Zd8 at hF
 refine .seq (.rg0 [] [(0,(slc 20 Ze a0)),(1,(slc 10 Za a1))] ?_)
 refine .seq (.rg [] [(0,(slc 20 Ze a0)),(1,(slc 10 Za a1)),(6,(.ptr 0 0))] [.cells (Zg Zcr)] ?_)
 refine AWP.seq ?_
 obtain ⟨r1,h2,hF⟩:=bindb hF
 obtain ⟨r3,h4,hF⟩:=bindb hF
 obtain ⟨r5,h6,hF⟩:=bindb hF
 refine AWP.rg [(1,.call Tryz.func50 [] (Zkt a0 r1 h2)),(3,.call Tryz.func51 [] (Zgl Zcr a1 r3 h4)),(4,.call Tryz.func49 [] (Zie r3.2 r1 r3.1 r5 h6))] [(0,(slc 20 Ze a0)),(6,(.ptr 0 0)),(7,(slc 1 Zh r5.1)),(8,(slc 10 Za r5.2.1))] [.cells (Zg r5.2.2)] ?_
 refine .seq (.rg0 [] [(0,(slc 20 Ze a0)),(6,(.ptr 0 0)),(7,(slc 1 Zh r5.1)),(8,(slc 10 Za r5.2.1)),(9,nils)] ?_)
 refine AWP.seq ?_
 refine .seq (.rg0 [(1,.len Zh r5.1)] [(0,(slc 20 Ze a0)),(6,(.ptr 0 0)),(8,(slc 10 Za r5.2.1)),(9,nils),(20,(slc 1 Zh r5.1)),(21,(i64 (List.length r5.1:Int))),(22,(i64 (0:Int)))] ?_)
 obtain ⟨o76,h77,hF⟩:=bindb hF
 refine AWP.mid (fun e st H=>(e=.normal∧∃ (v74:rewrite_ledger),∃ (v75:(List (Arr5 api_Range))),o76=(v74,v75)∧st=[(6,(.ptr 0 0)),(8,(slc 10 Za r5.2.1)),(9,(slc 10 Za v75))]∧H=[.cells (Zg v74)])) ?_ ?_
 ·clear hF
  refine AWP.wk (p:=nils) (q:=(slc 10 Za ([]:(List (Arr5 api_Range))))) (st':=[(9,(slc 10 Za ([]:(List (Arr5 api_Range))))),(0,(slc 20 Ze a0)),(6,(.ptr 0 0)),(8,(slc 10 Za r5.2.1)),(20,(slc 1 Zh r5.1)),(21,(i64 (List.length r5.1:Int))),(22,(i64 (0:Int)))]) 9 (by kernel_rfl) (.nil 10) (by kernel_rfl) ?_
  refine AWP.kp [0,6,8,9,20,21,22] 1 ?_
  refine AWP.bround (fun n st H=>∃ (v40:rewrite_ledger),∃ (v41:(List (Arr5 api_Range))),∃ (v42:Int),Zb0 a0 r5 n v40 v41 v42=some o76∧st=[(0,(slc 20 Ze a0)),(6,(.ptr 0 0)),(8,(slc 10 Za r5.2.1)),(9,(slc 10 Za v41)),(20,(slc 1 Zh r5.1)),(21,(i64 (List.length r5.1:Int))),(22,(i64 v42))]∧H=[.cells (Zg v40)]) fuel ⟨r5.2.2,([]:(List (Arr5 api_Range))),(0:Int),h77,by kernel_rfl,by kernel_rfl⟩ ?_
  rintro n78 st H ⟨v40,v41,v42,hF,rfl,rfl⟩
  cases n78 with
  | zero=>exact noneb hF
  | succ n78=>
   rw [Zb0] at hF
   refine .seq (.rg0 [] [(0,(slc 20 Ze a0)),(6,(.ptr 0 0)),(8,(slc 10 Za r5.2.1)),(9,(slc 10 Za v41)),(20,(slc 1 Zh r5.1)),(21,(i64 (List.length r5.1:Int))),(22,(i64 v42)),(23,(vb (decide (v42<(List.length r5.1:Int)))))] ?_)
   refine AWP.seq ?_
   refine AWP.cif hF (fun h109 hF=>?_) (fun h109 hF=>?_)
   ·refine AWP.skip ?_
    obtain ⟨o94,h95,hF⟩:=bindb hF
    refine AWP.seq ?_
    refine AWP.mid (fun e st H=>(e=.normal∧∃ (v92:rewrite_ledger),∃ (v93:(List (Arr5 api_Range))),o94=(v92,v93)∧st=[(0,(slc 20 Ze a0)),(6,(.ptr 0 0)),(8,(slc 10 Za r5.2.1)),(9,(slc 10 Za v93)),(20,(slc 1 Zh r5.1)),(21,(i64 (List.length r5.1:Int))),(22,(i64 v42))]∧H=[.cells (Zg v92)])) ?_ ?_
    ·clear hF
     have hF:=h95
     refine AWP.block ?_
     refine AWP.seq ?_
     obtain ⟨x96,h97,hF⟩:=bindb hF
     refine AWP.rg0 [(1,.idx Zh h97)] [(0,(slc 20 Ze a0)),(6,(.ptr 0 0)),(8,(slc 10 Za r5.2.1)),(9,(slc 10 Za v41)),(10,(i64 v42)),(11,(slc 10 Za x96)),(20,(slc 1 Zh r5.1)),(21,(i64 (List.length r5.1:Int))),(22,(i64 v42))] ?_
     refine AWP.seq ?_
     obtain ⟨x98,h99,hF⟩:=bindb hF
     obtain ⟨r100,h101,hF⟩:=bindb hF
     refine AWP.rg0 [(2,.idx Ze h99),(4,.call Tryz.func52 [] (Zfm x98 r100 h101))] [(0,(slc 20 Ze a0)),(6,(.ptr 0 0)),(8,(slc 10 Za r5.2.1)),(9,(slc 10 Za v41)),(10,(i64 v42)),(11,(slc 10 Za x96)),(20,(slc 1 Zh r5.1)),(21,(i64 (List.length r5.1:Int))),(22,(i64 v42)),(31,(vb r100))] ?_
     refine AWP.cif hF (fun h108 hF=>?_) (fun h108 hF=>?_)
     ·obtain ⟨x102,h103,hF⟩:=bindb hF
      obtain ⟨r104,h105,hF⟩:=bindb hF
      obtain ⟨r106,h107,hF⟩:=bindb hF
      refine AWP.rg [(3,.idx Ze h103),(6,.call Tryz.func54 [] (Zhh x102 x96 r104 h105)),(7,.call Tryz.func53 [] (Zd0 v40 v41 r104 r106 h107))] [(0,(slc 20 Ze a0)),(6,(.ptr 0 0)),(8,(slc 10 Za r5.2.1)),(9,(slc 10 Za r106.1)),(20,(slc 1 Zh r5.1)),(21,(i64 (List.length r5.1:Int))),(22,(i64 v42))] [.cells (Zg r106.2)] ?_
      refine LeQ.start ?_
      refine LeQ.pk [0,6,8,9,20,21,22] 1 ?_
      exact ⟨rfl,r106.2,r106.1,(someb hF).symm,by kernel_rfl,by kernel_rfl⟩
     ·refine AWP.skip ?_
      refine LeQ.start ?_
      refine LeQ.pk [0,6,8,9,20,21,22] 1 ?_
      exact ⟨rfl,v40,v41,(someb hF).symm,by kernel_rfl,by kernel_rfl⟩
    ·rintro _ _ _ ⟨rfl,v92,v93,rfl,rfl,rfl⟩
     refine AWP.rg0 [] [(0,(slc 20 Ze a0)),(6,(.ptr 0 0)),(8,(slc 10 Za r5.2.1)),(9,(slc 10 Za v93)),(20,(slc 1 Zh r5.1)),(21,(i64 (List.length r5.1:Int))),(22,(i64 (IntKind.wrap .i64 (v42 + (1:Int)))))] ?_
     refine LeQ.start ?_
     refine LeQ.pk [0,6,8,9,20,21,22] 1 ?_
     exact ⟨n78,Nat.lt_succ_self _,v92,v93,(IntKind.wrap .i64 (v42 + (1:Int))),hF,by kernel_rfl,by kernel_rfl⟩
   ·refine AWP.exit ?_
    refine LeQ.start ?_
    refine LeQ.pk [6,8,9] 1 ?_
    exact ⟨rfl,v40,v41,(someb hF).symm,by kernel_rfl,by kernel_rfl⟩
 ·rintro _ _ _ ⟨rfl,v74,v75,rfl,rfl,rfl⟩
  refine AWP.seq ?_
  obtain ⟨r110,h111,hF⟩:=bindb hF
  obtain ⟨r112,h113,hF⟩:=bindb hF
  refine AWP.rg [(2,.call Tryz.func53 [] (Zd0 v74 v75 r5.2.1 r110 h111)),(3,.call Tryz.func55 [] (Zf4 r110.2 r110.1 r112 h113))] [(4,(slc 10 Za r112.1)),(5,(i64 r112.2))] [.cells (Zg r110.2)] ?_
  refine AWP.ret ?_
  have hr:=someb hF
  subst hr
  exact (FnQ.f0 0 (.inr rfl))
def Zk8 (r:(Arr5 api_Range)):PV→List Blk→Prop:=fun p K=>p=(Zl r)∧K=[]
theorem Zk9 (r:(Arr5 api_Range)) (hF:Zhi=some r):ACall Tryz.prog glob 56 [] [] (Zk8 r):=by
 refine ACall.body Tryz.func56 rfl (by kernel_rfl) ?_
 unfold Zhi at hF
 refine .seq (.rg [] [(0,(.ptr 0 0))] [.cells (Za Zj)] ?_)
 refine .seq (.rg [] [(0,(.ptr 0 0)),(1,(.ptr 1 0))] [.cells (Za Zj),.cells (Za Zj)] ?_)
 refine AWP.seq ?_
 refine .seq (.rg0 [] [(0,(.ptr 0 0)),(1,(.ptr 1 0)),(4,(Zgk Zao)),(5,(i64 (0:Int)))] ?_)
 obtain ⟨v14,h15,hF⟩:=bindb hF
 refine AWP.mid (fun e st H=>e=.normal∧st=[(0,(.ptr 0 0)),(1,(.ptr 1 0))]∧H=[.cells (Za Zj),.cells (Za v14)]) ?_ ?_
 ·clear hF
  refine AWP.kp [0,1,4,5] 2 ?_
  refine AWP.bround (fun n st H=>∃ (v7:(Arr5 api_Range)),∃ (v8:Int),Zgd n v7 v8=some v14∧st=[(0,(.ptr 0 0)),(1,(.ptr 1 0)),(4,(Zgk Zao)),(5,(i64 v8))]∧H=[.cells (Za Zj),.cells (Za v7)]) fuel ⟨Zj,(0:Int),h15,by kernel_rfl,by kernel_rfl⟩ ?_
  rintro n16 st H ⟨v7,v8,hF,rfl,rfl⟩
  cases n16 with
  | zero=>exact noneb hF
  | succ n16=>
   rw [Zgd] at hF
   refine .seq (.rg0 [] [(0,(.ptr 0 0)),(1,(.ptr 1 0)),(4,(Zgk Zao)),(5,(i64 v8)),(6,(vb (decide (v8<(5:Int)))))] ?_)
   refine AWP.seq ?_
   refine AWP.cif hF (fun h21 hF=>?_) (fun h21 hF=>?_)
   ·refine AWP.skip ?_
    refine AWP.seq ?_
    refine AWP.block ?_
    refine AWP.seq ?_
    obtain ⟨h17,hF⟩:=chkb hF
    refine AWP.rg0 [(1,.ixA Zfz (Arr5.get Zao) h17)] [(0,(.ptr 0 0)),(1,(.ptr 1 0)),(2,(i64 v8)),(3,(u32 (Arr5.get Zao v8))),(4,(Zgk Zao)),(5,(i64 v8))] ?_
    obtain ⟨h18,hF⟩:=chkb hF
    refine AWP.rg [(2,.ixd h18),(4,.stA (fun q20=>Za (Arr5.set v7 q20 ({ (Arr5.get v7 q20) with Hi:=(Arr5.get Zao v8) }:api_Range))) 0 2 1 h18)] [(0,(.ptr 0 0)),(1,(.ptr 1 0)),(4,(Zgk Zao)),(5,(i64 v8))] [.cells (Za Zj),.cells (Za (Arr5.set v7 v8 ({ (Arr5.get v7 v8) with Hi:=(Arr5.get Zao v8) }:api_Range)))] ?_
    refine AWP.rg0 [] [(0,(.ptr 0 0)),(1,(.ptr 1 0)),(4,(Zgk Zao)),(5,(i64 (IntKind.wrap .i64 (v8 + (1:Int)))))] ?_
    refine LeQ.start ?_
    refine LeQ.pk [0,1,4,5] 2 ?_
    exact ⟨n16,Nat.lt_succ_self _,(Arr5.set v7 v8 ({ (Arr5.get v7 v8) with Hi:=(Arr5.get Zao v8) }:api_Range)),(IntKind.wrap .i64 (v8 + (1:Int))),hF,by kernel_rfl,by kernel_rfl⟩
   ·refine AWP.exit ?_
    refine LeQ.start ?_
    refine LeQ.pk [0,1] 2 ?_
    have hr:=someb hF
    subst hr
    exact ⟨rfl,by kernel_rfl,by kernel_rfl⟩
 ·rintro _ _ _ ⟨rfl,rfl,rfl⟩
  refine .seq (.rg [] [(0,(.ptr 0 0))] [.cells (Za v14),.cells (Za v14)] ?_)
  refine AWP.ret ?_
  have hr:=someb hF
  subst hr
  exact (FnQ.f0 0 (.inr rfl))
def Zj4 (r:api_Move):PV→List Blk→Prop:=fun p K=>p=(Zf9 r)∧K=[]
theorem Zj5 (a0:api_Move) (r:api_Move) (hF:Zfl a0=some r):ACall Tryz.prog glob 58 [(Zf9 a0)] [] (Zj4 r):=by
 refine ACall.body Tryz.func58 rfl (by kernel_rfl) ?_
 unfold Zfl at hF
 refine .seq (.rg [] [(1,(.ptr 0 0)),(2,(.ptr 1 0))] [.cells (Ze a0),.cells (Ze Zc8)] ?_)
 refine .seq (.rg [] [(2,(.ptr 1 0))] [.cells (Ze a0),.cells (Ze (api_Move.mk a0.To a0.From))] ?_)
 refine AWP.ret ?_
 have hr:=someb hF
 subst hr
 exact (FnQ.f0 0 (.inr rfl))
def Zjc (r:((List (Arr5 api_Range)) × Int)):PV→List Blk→Prop:=fun p K=>p=(.tup [(slc 10 Za r.1),(i64 r.2)])∧K=[]
theorem Zhd (a0:(List api_Move)) (a1:(List (Arr5 api_Range))) (r:((List (Arr5 api_Range)) × Int)) (hF:Zde a0 a1=some r):ACall Tryz.prog glob 17 [(slc 20 Ze a0),(slc 10 Za a1)] [] (Zjc r):=by
 refine ACall.body Tryz.func17 rfl (by kernel_rfl) ?_
 unfold Zde at hF
 refine .seq (.rg0 [] [(0,(slc 20 Ze a0)),(1,(slc 10 Za a1))] ?_)
 refine .seq (.rg [] [(0,(slc 20 Ze a0)),(1,(slc 10 Za a1)),(6,(.ptr 0 0))] [.cells (Zg Zcr)] ?_)
 refine AWP.seq ?_
 obtain ⟨r1,h2,hF⟩:=bindb hF
 refine AWP.rg [(1,.call Tryz.func51 [] (Zgl Zcr a1 r1 h2))] [(0,(slc 20 Ze a0)),(6,(.ptr 0 0)),(7,(slc 10 Za r1.1))] [.cells (Zg r1.2)] ?_
 refine .seq (.rg0 [] [(0,(slc 20 Ze a0)),(6,(.ptr 0 0)),(7,(slc 10 Za r1.1)),(8,nils)] ?_)
 refine AWP.seq ?_
 obtain ⟨r3,h4,hF⟩:=bindb hF
 refine AWP.rg0 [(0,.call Tryz.func56 [] (Zk9 r3 h4))] [(0,(slc 20 Ze a0)),(6,(.ptr 0 0)),(7,(slc 10 Za r1.1)),(8,nils),(9,(slc 10 Za [r3]))] ?_
 refine AWP.seq ?_
 refine .seq (.rg0 [(1,.len Ze a0)] [(6,(.ptr 0 0)),(7,(slc 10 Za r1.1)),(8,nils),(9,(slc 10 Za [r3])),(18,(slc 20 Ze a0)),(19,(i64 (List.length a0:Int))),(20,(i64 (0:Int)))] ?_)
 obtain ⟨o103,h104,hF⟩:=bindb hF
 refine AWP.mid (fun e st H=>(e=.normal∧∃ (v100:rewrite_ledger),∃ (v101:(List (Arr5 api_Range))),∃ (v102:(List (Arr5 api_Range))),o103=(v100,v101,v102)∧st=[(6,(.ptr 0 0)),(7,(slc 10 Za r1.1)),(8,(slc 10 Za v101)),(9,(slc 10 Za v102))]∧H=[.cells (Zg v100)])) ?_ ?_
 ·clear hF
  refine AWP.wk (p:=nils) (q:=(slc 10 Za ([]:(List (Arr5 api_Range))))) (st':=[(8,(slc 10 Za ([]:(List (Arr5 api_Range))))),(6,(.ptr 0 0)),(7,(slc 10 Za r1.1)),(9,(slc 10 Za [r3])),(18,(slc 20 Ze a0)),(19,(i64 (List.length a0:Int))),(20,(i64 (0:Int)))]) 8 (by kernel_rfl) (.nil 10) (by kernel_rfl) ?_
  refine AWP.kp [6,7,8,9,18,19,20] 1 ?_
  refine AWP.bround (fun n st H=>∃ (v52:rewrite_ledger),∃ (v53:(List (Arr5 api_Range))),∃ (v54:(List (Arr5 api_Range))),∃ (v55:Int),Zbf a0 r1 n v52 v53 v54 v55=some o103∧st=[(6,(.ptr 0 0)),(7,(slc 10 Za r1.1)),(8,(slc 10 Za v53)),(9,(slc 10 Za v54)),(18,(slc 20 Ze a0)),(19,(i64 (List.length a0:Int))),(20,(i64 v55))]∧H=[.cells (Zg v52)]) fuel ⟨r1.2,([]:(List (Arr5 api_Range))),[r3],(0:Int),h104,by kernel_rfl,by kernel_rfl⟩ ?_
  rintro n105 st H ⟨v52,v53,v54,v55,hF,rfl,rfl⟩
  cases n105 with
  | zero=>exact noneb hF
  | succ n105=>
   rw [Zbf] at hF
   refine .seq (.rg0 [] [(6,(.ptr 0 0)),(7,(slc 10 Za r1.1)),(8,(slc 10 Za v53)),(9,(slc 10 Za v54)),(18,(slc 20 Ze a0)),(19,(i64 (List.length a0:Int))),(20,(i64 v55)),(21,(vb (decide (v55<(List.length a0:Int)))))] ?_)
   refine AWP.seq ?_
   refine AWP.cif hF (fun h149 hF=>?_) (fun h149 hF=>?_)
   ·refine AWP.skip ?_
    obtain ⟨o128,h129,hF⟩:=bindb hF
    refine AWP.seq ?_
    refine AWP.mid (fun e st H=>(e=.normal∧∃ (v125:rewrite_ledger),∃ (v126:(List (Arr5 api_Range))),∃ (v127:(List (Arr5 api_Range))),o128=(v125,v126,v127)∧st=[(6,(.ptr 0 0)),(7,(slc 10 Za r1.1)),(8,(slc 10 Za v126)),(9,(slc 10 Za v127)),(18,(slc 20 Ze a0)),(19,(i64 (List.length a0:Int))),(20,(i64 v55))]∧H=[.cells (Zg v125)])) ?_ ?_
    ·clear hF
     have hF:=h129
     refine AWP.block ?_
     refine AWP.seq ?_
     obtain ⟨x130,h131,hF⟩:=bindb hF
     refine AWP.rg [(0,.idx Ze h131)] [(6,(.ptr 0 0)),(7,(slc 10 Za r1.1)),(8,(slc 10 Za v53)),(9,(slc 10 Za v54)),(11,(.ptr 1 0)),(18,(slc 20 Ze a0)),(19,(i64 (List.length a0:Int))),(20,(i64 v55))] [.cells (Zg v52),.cells (Ze x130)] ?_
     refine AWP.seq ?_
     refine AWP.seq ?_
     obtain ⟨r132,h133,hF⟩:=bindb hF
     refine AWP.rg0 [(1,.call Tryz.func52 [] (Zfm x130 r132 h133))] [(6,(.ptr 0 0)),(7,(slc 10 Za r1.1)),(8,(slc 10 Za v53)),(9,(slc 10 Za v54)),(11,(.ptr 1 0)),(18,(slc 20 Ze a0)),(19,(i64 (List.length a0:Int))),(20,(i64 v55)),(26,(vb (!r132)))] ?_
     refine AWP.cif hF (fun h148 hF=>?_) (fun h148 hF=>?_)
     ·refine AWP.exit ?_
      refine LeQ.start ?_
      refine LeQ.pk [6,7,8,9,18,19,20] 1 ?_
      exact ⟨rfl,v52,v53,v54,(someb hF).symm,by kernel_rfl,by kernel_rfl⟩
     ·refine AWP.skip ?_
      refine AWP.seq ?_
      obtain ⟨r134,h135,hF⟩:=bindb hF
      refine AWP.rg [(4,.call Tryz.func57 [] (Zcg v52 v54 [x130.From] r134 h135))] [(6,(.ptr 0 0)),(7,(slc 10 Za r1.1)),(8,(slc 10 Za v53)),(9,(slc 10 Za v54)),(11,(.ptr 1 0)),(12,(slc 10 Za r134.1)),(18,(slc 20 Ze a0)),(19,(i64 (List.length a0:Int))),(20,(i64 v55))] [.cells (Zg r134.2),.cells (Ze x130)] ?_
      refine AWP.seq ?_
      obtain ⟨r136,h137,hF⟩:=bindb hF
      obtain ⟨r138,h139,hF⟩:=bindb hF
      obtain ⟨r140,h141,hF⟩:=bindb hF
      obtain ⟨r142,h143,hF⟩:=bindb hF
      refine AWP.dr [(2,.call Tryz.func58 [] (Zj5 x130 r136 h137)),(7,.call Tryz.func57 [] (Zcg r134.2 r1.1 [x130.To] r138 h139)),(8,.call Tryz.func54 [] (Zhh r136 r138.1 r140 h141)),(9,.call Tryz.func57 [] (Zcg r138.2 r134.1 r140 r142 h143))] 10 [] [7,8,9] [] [(6,(.ptr 0 0)),(7,(slc 10 Za r1.1)),(8,(slc 10 Za v53)),(9,(slc 10 Za v54)),(11,(.ptr 1 0)),(13,(slc 10 Za r142.1)),(18,(slc 20 Ze a0)),(19,(i64 (List.length a0:Int))),(20,(i64 v55))] [.cells (Zg r142.2),.cells (Ze x130)] ?_
      refine AWP.seq ?_
      obtain ⟨r144,h145,hF⟩:=bindb hF
      refine AWP.rg [(2,.call Tryz.func53 [] (Zd0 r142.2 v53 r142.1 r144 h145))] [(6,(.ptr 0 0)),(7,(slc 10 Za r1.1)),(8,(slc 10 Za r144.1)),(9,(slc 10 Za v54)),(11,(.ptr 1 0)),(18,(slc 20 Ze a0)),(19,(i64 (List.length a0:Int))),(20,(i64 v55))] [.cells (Zg r144.2),.cells (Ze x130)] ?_
      obtain ⟨r146,h147,hF⟩:=bindb hF
      refine AWP.rg [(4,.call Tryz.func59 [] (Zfo r144.2 v54 [x130.From] r146 h147))] [(6,(.ptr 0 0)),(7,(slc 10 Za r1.1)),(8,(slc 10 Za r144.1)),(9,(slc 10 Za r146.1)),(18,(slc 20 Ze a0)),(19,(i64 (List.length a0:Int))),(20,(i64 v55))] [.cells (Zg r146.2),.cells (Ze x130)] ?_
      refine LeQ.start ?_
      refine LeQ.pk [6,7,8,9,18,19,20] 1 ?_
      exact ⟨rfl,r146.2,r144.1,r146.1,(someb hF).symm,by kernel_rfl,by kernel_rfl⟩
    ·rintro _ _ _ ⟨rfl,v125,v126,v127,rfl,rfl,rfl⟩
     refine AWP.rg0 [] [(6,(.ptr 0 0)),(7,(slc 10 Za r1.1)),(8,(slc 10 Za v126)),(9,(slc 10 Za v127)),(18,(slc 20 Ze a0)),(19,(i64 (List.length a0:Int))),(20,(i64 (IntKind.wrap .i64 (v55 + (1:Int)))))] ?_
     refine LeQ.start ?_
     refine LeQ.pk [6,7,8,9,18,19,20] 1 ?_
     exact ⟨n105,Nat.lt_succ_self _,v125,v126,v127,(IntKind.wrap .i64 (v55 + (1:Int))),hF,by kernel_rfl,by kernel_rfl⟩
   ·refine AWP.exit ?_
    refine LeQ.start ?_
    refine LeQ.pk [6,7,8,9] 1 ?_
    exact ⟨rfl,v52,v53,v54,(someb hF).symm,by kernel_rfl,by kernel_rfl⟩
 ·rintro _ _ _ ⟨rfl,v100,v101,v102,rfl,rfl,rfl⟩
  refine AWP.seq ?_
  obtain ⟨r150,h151,hF⟩:=bindb hF
  obtain ⟨r152,h153,hF⟩:=bindb hF
  obtain ⟨r154,h155,hF⟩:=bindb hF
  refine AWP.rg [(3,.call Tryz.func57 [] (Zcg v100 v102 r1.1 r150 h151)),(4,.call Tryz.func53 [] (Zd0 r150.2 v101 r150.1 r152 h153)),(5,.call Tryz.func55 [] (Zf4 r152.2 r152.1 r154 h155))] [(4,(slc 10 Za r154.1)),(5,(i64 r154.2))] [.cells (Zg r152.2)] ?_
  refine AWP.ret ?_
  have hr:=someb hF
  subst hr
  exact (FnQ.f0 0 (.inr rfl))
def Zkj (r:(List (Arr5 api_Range))):PV→List Blk→Prop:=fun p K=>p=(slc 10 Za r)∧K=[]
theorem Zh7 (a0:(List (Arr5 api_Range))) (r:(List (Arr5 api_Range))) (hF:Zd9 a0=some r):ACall Tryz.prog glob 61 [(slc 10 Za a0)] [] (Zkj r):=by
 refine ACall.body Tryz.func61 rfl (by kernel_rfl) ?_
 unfold Zd9 at hF
 refine .seq (.rg0 [] [(0,(slc 10 Za a0))] ?_)
 refine .seq (.rg0 [] [(0,(slc 10 Za a0)),(3,nils)] ?_)
 refine AWP.own (H':=[bf 10 57 Za ([]:(List (Arr5 api_Range))) false]) (st':=[(3,(.own 0 (List.length ([]:(List (Arr5 api_Range)))))),(0,(slc 10 Za a0))]) 3 10 57 (by kernel_rfl) (by kernel_rfl) (by kernel_rfl) ?_
 refine AWP.pick (st':=[(0,(slc 10 Za a0)),(3,(.own 0 (List.length ([]:(List (Arr5 api_Range))))))]) (ks:=[0,3]) (by kernel_rfl) ?_
 refine AWP.seq ?_
 refine .seq (.rg0 [] [(0,(slc 10 Za a0)),(3,(.own 0 (List.length ([]:(List (Arr5 api_Range)))))),(4,(i64 (0:Int)))] ?_)
 obtain ⟨v42,h43,hF⟩:=bindb hF
 refine AWP.mid (fun e st H=>e=.normal∧st=[(3,(.own 0 (List.length v42)))]∧H=[bf 10 57 Za v42 false]) ?_ ?_
 ·clear hF
  refine AWP.kp [0,3,4] 1 ?_
  refine AWP.bround (fun n st H=>∃ (v21:(List (Arr5 api_Range))),∃ (v22:Int),Zcw a0 n v21 v22=some v42∧st=[(0,(slc 10 Za a0)),(3,(.own 0 (List.length v21))),(4,(i64 v22))]∧H=[bf 10 57 Za v21 false]) fuel ⟨([]:(List (Arr5 api_Range))),(0:Int),h43,by kernel_rfl,by kernel_rfl⟩ ?_
  rintro n44 st H ⟨v21,v22,hF,rfl,rfl⟩
  cases n44 with
  | zero=>exact noneb hF
  | succ n44=>
   rw [Zcw] at hF
   refine AWP.seq ?_
   refine .seq (.rg0 [(2,.len Za a0)] [(0,(slc 10 Za a0)),(3,(.own 0 (List.length v21))),(4,(i64 v22)),(8,(vb (decide (v22<(List.length a0:Int)))))] ?_)
   refine AWP.cif hF (fun h63 hF=>?_) (fun h63 hF=>?_)
   ·refine AWP.skip ?_
    obtain ⟨v53,h54,hF⟩:=bindb hF
    refine AWP.seq ?_
    refine AWP.mid (fun e st H=>e=.normal∧st=[(0,(slc 10 Za a0)),(3,(.own 0 (List.length v53))),(4,(i64 v22))]∧H=[bf 10 57 Za v53 false]) ?_ ?_
    ·clear hF
     have hF:=h54
     refine AWP.block ?_
     refine AWP.seq ?_
     obtain ⟨x55,h56,hF⟩:=bindb hF
     obtain ⟨r57,h58,hF⟩:=bindb hF
     refine AWP.rg0 [(2,.idx Za h56),(4,.call Tryz.func96 [] (Zh2 x55 r57 h58))] [(0,(slc 10 Za a0)),(3,(.own 0 (List.length v21))),(4,(i64 v22)),(15,(vb r57))] ?_
     refine AWP.cif hF (fun h62 hF=>?_) (fun h62 hF=>?_)
     ·obtain ⟨x59,h60,hF⟩:=bindb hF
      obtain ⟨h61,hF⟩:=chkb hF
      refine AWP.rg [(3,.idx Za h60),(6,.app Za (fun _=>by kernel_rfl) h61)] [(0,(slc 10 Za a0)),(3,(.own 0 (List.length (v21++[x59])))),(4,(i64 v22))] [bf 10 57 Za (v21++[x59]) false] ?_
      refine LeQ.start ?_
      refine LeQ.pk [0,3,4] 1 ?_
      have hr:=someb hF
      subst hr
      exact ⟨rfl,by kernel_rfl,by kernel_rfl⟩
     ·refine AWP.skip ?_
      refine LeQ.start ?_
      refine LeQ.pk [0,3,4] 1 ?_
      have hr:=someb hF
      subst hr
      exact ⟨rfl,by kernel_rfl,by kernel_rfl⟩
    ·rintro _ _ _ ⟨rfl,rfl,rfl⟩
     refine AWP.rg0 [] [(0,(slc 10 Za a0)),(3,(.own 0 (List.length v53))),(4,(i64 (IntKind.wrap .i64 (v22 + (1:Int)))))] ?_
     refine LeQ.start ?_
     refine LeQ.pk [0,3,4] 1 ?_
     exact ⟨n44,Nat.lt_succ_self _,v53,(IntKind.wrap .i64 (v22 + (1:Int))),hF,by kernel_rfl,by kernel_rfl⟩
   ·refine AWP.exit ?_
    refine LeQ.start ?_
    refine LeQ.pk [3] 1 ?_
    have hr:=someb hF
    subst hr
    exact ⟨rfl,by kernel_rfl,by kernel_rfl⟩
 ·rintro _ _ _ ⟨rfl,rfl,rfl⟩
  refine .seq (.rg0 [] [(2,(.own 0 (List.length v42)))] ?_)
  refine AWP.ret ?_
  have hr:=someb hF
  subst hr
  exact (FnQ.f1 0 (.inr rfl) (.inl (Wk.ownT (i:=0) (s:=10) (t:=57) (l:=v42) (sh:=false) (row:=Za) (by kernel_rfl) (.inl rfl))))
def Zj6 (r:Bool):PV→List Blk→Prop:=fun p K=>p=(vb r)∧K=[]
theorem Zer (a0:(List (Arr5 api_Range))) (a1:(List (Arr5 api_Range))) (r:Bool) (hF:Zdy a0 a1=some r):ACall Tryz.prog glob 18 [(slc 10 Za a0),(slc 10 Za a1)] [] (Zj6 r):=by
 refine ACall.body Tryz.func18 rfl (by kernel_rfl) ?_
 unfold Zdy at hF
 refine .seq (.rg0 [] [(0,(slc 10 Za a0)),(1,(slc 10 Za a1))] ?_)
 refine AWP.seq ?_
 obtain ⟨r1,h2,hF⟩:=bindb hF
 obtain ⟨r3,h4,hF⟩:=bindb hF
 obtain ⟨r5,h6,hF⟩:=bindb hF
 refine AWP.rg0 [(1,.call Tryz.func61 [] (Zh7 a0 r1 h2)),(3,.call Tryz.func61 [] (Zh7 a1 r3 h4)),(4,.call Tryz.func60 [] (Zh4 r1 r3 (2:Int) (0:Int) r5 h6)),(5,.len Za r5)] [(4,(vb ((List.length r5:Int) == (0:Int))))] ?_
 refine AWP.ret ?_
 have hr:=someb hF
 subst hr
 exact (FnQ.f0 0 (.inr rfl))
def Zhy (r:Bool):PV→List Blk→Prop:=fun p K=>p=(vb r)∧K=[]
theorem Zhz (a0:(List Int)) (r:Bool) (hF:Zds a0=some r):ACall Tryz.prog glob 4 [(slc 1 Z3 a0)] [] (Zhy r):=by
 refine ACall.body Tryz.func4 rfl (by kernel_rfl) ?_
 unfold Zds at hF
 refine .seq (.rg0 [] [(0,(slc 1 Z3 a0))] ?_)
 refine AWP.seq ?_
 obtain ⟨r1,h2,hF⟩:=bindb hF
 refine AWP.rg [(1,.call Tryz.func8 [] (Zk1 a0 r1 h2))] [(3,(.ptr 0 0))] [.cells (Zd r1)] ?_
 refine AWP.seq ?_
 obtain ⟨r3,h4,hF⟩:=bindb hF
 obtain ⟨r5,h6,hF⟩:=bindb hF
 refine AWP.rg [(1,.call Tryz.func9 [] (Ziw r1 (3:Int) true r3 h4)),(3,.call Tryz.func15 [] (Zjj r3.2 (3:Int) r5 h6))] [(4,(slc 20 Ze r3.1)),(5,(slc 10 Za r5.1))] [.cells (Zd r5.2)] ?_
 refine AWP.seq ?_
 obtain ⟨r7,h8,hF⟩:=bindb hF
 refine AWP.rg0 [(2,.call Tryz.func16 [] (Zh6 r3.1 r5.1 r7 h8))] [(4,(slc 20 Ze r3.1)),(5,(slc 10 Za r5.1)),(6,(slc 10 Za r7.1)),(7,(i64 r7.2))] ?_
 refine AWP.seq ?_
 obtain ⟨r9,h10,hF⟩:=bindb hF
 refine AWP.rg0 [(2,.call Tryz.func17 [] (Zhd r3.1 r5.1 r9 h10))] [(4,(slc 20 Ze r3.1)),(5,(slc 10 Za r5.1)),(6,(slc 10 Za r7.1)),(7,(i64 r7.2)),(8,(slc 10 Za r9.1)),(9,(i64 r9.2))] ?_
 refine AWP.seq ?_
 refine AWP.seq ?_
 obtain ⟨b11,h12,hF⟩:=bindb hF
 replace h12:=someb h12
 refine AWP.to [(4,(slc 20 Ze r3.1)),(5,(slc 10 Za r5.1)),(6,(slc 10 Za r7.1)),(7,(i64 r7.2)),(8,(slc 10 Za r9.1)),(9,(i64 r9.2)),(37,(vb (b11 || (r9.2 != (0:Int)))))] [.cells (Zd r5.2)] ?_ ?_
 ·cases b11 with
  | false=>
   exact AWP.rgT [(2,.bool h12)]
  | true=>
   exact AWP.rgT [(2,.bool h12)]
 refine AWP.cif hF (fun h61 hF=>?_) (fun h61 hF=>?_)
 ·refine AWP.seq ?_
  obtain ⟨b13,h14,hF⟩:=bindb hF
  replace h14:=someb h14
  obtain ⟨b15,h16,hF⟩:=bindb hF
  replace h16:=someb h16
  obtain ⟨v19,h20,hF⟩:=bindb hF
  refine AWP.to [(2,(vb v19))] [.cells (Zd r5.2)] ?_ ?_
  ·cases b13 with
   | false=>
    cases b15 with
    | false=>
     have h21:=someb (ifF h20 rfl)
     subst h21
     exact AWP.rgT [(2,.bool h14),(6,.bool h16)]
    | true=>
     have h22:=ifT h20 rfl
     obtain ⟨r17,h18,h22⟩:=bindb h22
     replace h22:=someb h22
     subst h22
     exact AWP.rgT [(2,.bool h14),(6,.bool h16),(7,.call Tryz.func14 [] (Zfk r17 h18))]
   | true=>
    subst h16
    have h23:=ifT h20 rfl
    obtain ⟨r17,h18,h23⟩:=bindb h23
    replace h23:=someb h23
    subst h23
    exact AWP.rgT [(2,.bool h14),(7,.call Tryz.func14 [] (Zfk r17 h18))]
  refine AWP.ret ?_
  have hr:=someb hF
  subst hr
  exact (FnQ.f0 0 (.inr rfl))
 ·refine AWP.skip ?_
  refine AWP.seq ?_
  obtain ⟨r24,h25,hF⟩:=bindb hF
  refine AWP.rg0 [(2,.call Tryz.func16 [] (Zh6 r3.1 r9.1 r24 h25))] [(4,(slc 20 Ze r3.1)),(5,(slc 10 Za r5.1)),(6,(slc 10 Za r7.1)),(10,(slc 10 Za r24.1)),(11,(i64 r24.2))] ?_
  refine AWP.seq ?_
  obtain ⟨r26,h27,hF⟩:=bindb hF
  refine AWP.rg0 [(2,.call Tryz.func17 [] (Zhd r3.1 r7.1 r26 h27))] [(5,(slc 10 Za r5.1)),(10,(slc 10 Za r24.1)),(11,(i64 r24.2)),(12,(slc 10 Za r26.1)),(13,(i64 r26.2))] ?_
  refine AWP.seq ?_
  refine AWP.seq ?_
  obtain ⟨b28,h29,hF⟩:=bindb hF
  replace h29:=someb h29
  refine AWP.to [(5,(slc 10 Za r5.1)),(10,(slc 10 Za r24.1)),(11,(i64 r24.2)),(12,(slc 10 Za r26.1)),(13,(i64 r26.2)),(64,(vb (b28 || (r26.2 != (0:Int)))))] [.cells (Zd r5.2)] ?_ ?_
  ·cases b28 with
   | false=>
    exact AWP.rgT [(2,.bool h29)]
   | true=>
    exact AWP.rgT [(2,.bool h29)]
  refine AWP.cif hF (fun h60 hF=>?_) (fun h60 hF=>?_)
  ·refine AWP.seq ?_
   obtain ⟨b30,h31,hF⟩:=bindb hF
   replace h31:=someb h31
   obtain ⟨b32,h33,hF⟩:=bindb hF
   replace h33:=someb h33
   obtain ⟨v36,h37,hF⟩:=bindb hF
   refine AWP.to [(2,(vb v36))] [.cells (Zd r5.2)] ?_ ?_
   ·cases b30 with
    | false=>
     cases b32 with
     | false=>
      have h38:=someb (ifF h37 rfl)
      subst h38
      exact AWP.rgT [(2,.bool h31),(6,.bool h33)]
     | true=>
      have h39:=ifT h37 rfl
      obtain ⟨r34,h35,h39⟩:=bindb h39
      replace h39:=someb h39
      subst h39
      exact AWP.rgT [(2,.bool h31),(6,.bool h33),(7,.call Tryz.func14 [] (Zfk r34 h35))]
    | true=>
     subst h33
     have h40:=ifT h37 rfl
     obtain ⟨r34,h35,h40⟩:=bindb h40
     replace h40:=someb h40
     subst h40
     exact AWP.rgT [(2,.bool h31),(7,.call Tryz.func14 [] (Zfk r34 h35))]
   refine AWP.ret ?_
   have hr:=someb hF
   subst hr
   exact (FnQ.f0 0 (.inr rfl))
  ·refine AWP.skip ?_
   refine AWP.seq ?_
   obtain ⟨r41,h42,hF⟩:=bindb hF
   obtain ⟨b43,h44,hF⟩:=bindb hF
   replace h44:=someb h44
   obtain ⟨v47,h48,hF⟩:=bindb hF
   obtain ⟨b49,h50,hF⟩:=bindb hF
   replace h50:=someb h50
   obtain ⟨v53,h54,hF⟩:=bindb hF
   refine AWP.to [(2,(vb v53))] [.cells (Zd r5.2)] ?_ ?_
   ·cases b43 with
    | false=>
     have h55:=someb (ifF h48 rfl)
     subst h55
     subst h50
     have h56:=someb (ifF h54 rfl)
     subst h56
     exact AWP.rgT [(2,.call Tryz.func18 [] (Zer r24.1 r5.1 r41 h42)),(3,.bool h44)]
    | true=>
     have h57:=ifT h48 rfl
     obtain ⟨r45,h46,h57⟩:=bindb h57
     replace h57:=someb h57
     subst h57
     cases b49 with
     | false=>
      have h58:=someb (ifF h54 rfl)
      subst h58
      exact AWP.rgT [(2,.call Tryz.func18 [] (Zer r24.1 r5.1 r41 h42)),(3,.bool h44),(6,.call Tryz.func18 [] (Zer r5.1 r26.1 r45 h46)),(8,.bool h50)]
     | true=>
      have h59:=ifT h54 rfl
      obtain ⟨r51,h52,h59⟩:=bindb h59
      replace h59:=someb h59
      subst h59
      exact AWP.rgT [(2,.call Tryz.func18 [] (Zer r24.1 r5.1 r41 h42)),(3,.bool h44),(6,.call Tryz.func18 [] (Zer r5.1 r26.1 r45 h46)),(8,.bool h50),(9,.call Tryz.func14 [] (Zfk r51 h52))]
   refine AWP.ret ?_
   have hr:=someb hF
   subst hr
   exact (FnQ.f0 0 (.inr rfl))
end Go.AM
set_option maxRecDepth 100000
namespace Go.AM
open Go
def Ok {α:Type} (x:Option α) (p:α→Prop):Prop:=∃ r,x=some r∧p r
theorem Ok.bind {α γ:Type} {x:Option α} {p:α→Prop} {f:α→Option γ} {q:γ→Prop} (h:Ok x p) (k:∀ v,p v→Ok (f v) q):Ok (x.bind f) q:=by
 obtain ⟨v,rfl,hv⟩:=h
 exact k v hv
theorem Ok.ret {α:Type} {r:α} {p:α→Prop} (h:p r):Ok (some r) p:=⟨r,rfl,h⟩
theorem Ok.chk {α:Type} {c:Prop} [Decidable c] {x:Option α} {p:α→Prop} (hc:c) (h:Ok x p):Ok (if c then x else none) p:=by rw [if_pos hc]; exact h
theorem Ok.ite {α:Type} {c:Prop} [Decidable c] {x y:Option α} {p:α→Prop} (h1:c→Ok x p) (h2:¬ c→Ok y p):Ok (if c then x else y) p:=by
 split
 ·exact h1 (by assumption)
 ·exact h2 (by assumption)
theorem Ok.lift {α γ:Type} {b:α} {f:α→Option γ} {q:γ→Prop} (h:Ok (f b) q):Ok ((Option.some b).bind f) q:=h
theorem Ok.mono {α:Type} {x:Option α} {p q:α→Prop} (h:Ok x p) (k:∀ v,p v→q v):Ok x q:=by
 obtain ⟨v,h1,h2⟩:=h
 exact ⟨v,h1,k v h2⟩
theorem Ok.get {α:Type} {x:Option α} {p:α→Prop} (h:Ok x p) {r:α} (e:x=some r):p r:=by
 obtain ⟨v,h1,h2⟩:=h
 rw [h1] at e; cases e; exact h2
theorem Ok.eq {α:Type} {x:Option α} {r:α} (h:Ok x (·=r)):x=some r:=by
 obtain ⟨v,h1,rfl⟩:=h; exact h1
theorem Ok.idx {α:Type} {l:List α} {i:Int} {p:α→Prop} (h0:0≤i) (h1:i<l.length) (h:∀ x∈l,p x):Ok (idx l i) p:=by
 have hi:i.toNat<l.length:=by omega
 exact ⟨l[i.toNat],by simp [AM.idx,h0,hi],h _ (List.getElem_mem hi)⟩
theorem idx_get {α:Type} {l:List α} {i:Nat} (h:i<l.length):AM.idx l (i:Int)=some l[i]:=by simp [AM.idx,h]
theorem wrap_u (k:IntKind) (b:Nat) (hs:k.signed=false) (hb:k.bits=b) (x:Int):k.wrap x=x % (2 ^ b:Int):=by
 subst hb; simp [IntKind.wrap,hs]
theorem wi64 {x:Int} (h0:-9223372036854775808≤x) (h1:x<9223372036854775808):IntKind.wrap .i64 x=x:=by
 simp only [IntKind.wrap,IntKind.bits,IntKind.signed]
 simp
 omega
theorem wu64 {x:Int} (h0:0≤x) (h1:x<18446744073709551616):IntKind.wrap .u64 x=x:=by
 simp only [IntKind.wrap,IntKind.bits,IntKind.signed]
 simp
 omega
theorem wu32 {x:Int} (h0:0≤x) (h1:x<4294967296):IntKind.wrap .u32 x=x:=by
 simp only [IntKind.wrap,IntKind.bits,IntKind.signed]
 simp
 omega
theorem wu32_range (x:Int):0≤IntKind.wrap .u32 x∧IntKind.wrap .u32 x<4294967296:=by
 simp only [IntKind.wrap,IntKind.bits,IntKind.signed]
 simp
 omega
theorem wu64_range (x:Int):0≤IntKind.wrap .u64 x∧IntKind.wrap .u64 x<18446744073709551616:=by
 simp only [IntKind.wrap,IntKind.bits,IntKind.signed]
 simp
 omega
theorem bShl_one {k:Nat} (h:k<64):bShl .u64 1 (k:Int)=(2 ^ k:Nat):=by
 have h2:(2:Nat) ^ k<2 ^ 64:=Nat.pow_lt_pow_right (by omega) h
 unfold bShl
 have e:((1:Int) * 2 ^ min (k:Int).toNat (IntKind.bits .u64))=((2 ^ k:Nat):Int):=by
  rw [show IntKind.bits .u64=64 from rfl,Int.toNat_natCast,Nat.min_eq_left (by omega)]; simp
 have h3:((2 ^ k:Nat):Int)<18446744073709551616:=Int.ofNat_lt.2 h2
 rw [e]
 exact wu64 (Int.natCast_nonneg _) h3
structure TOk (t:nsggen_Tape):Prop where
 h0:0≤t.f_i
 h1:t.f_i≤t.f_l.length
 h2:(t.f_l.length:Int)<9223372036854775808
theorem New_ok {l:List Int} (h:(l.length:Int)<9223372036854775808):Ok (Zgr l) TOk:=Ok.ret ⟨Int.le_refl 0,by simp,h⟩
theorem Mod_ok {x n:Int} (h1:1≤n) (h2:n<9223372036854775808):Ok (Zfd x n) fun v=>0≤v∧v<n:=by
 unfold Zfd
 have hn:IntKind.wrap .u64 n=n:=wu64 (by omega) (by omega)
 rw [hn]
 have hx:=wu64_range x
 have h3:0≤Int.tmod (IntKind.wrap .u64 x) n:=Int.tmod_nonneg _ hx.1
 have h4:Int.tmod (IntKind.wrap .u64 x) n<n:=Int.tmod_lt_of_pos _ (by omega)
 refine Ok.chk (by omega) (Ok.ret ?_)
 rw [wi64 (by omega) (by omega)]
 exact ⟨h3,h4⟩
theorem Next_ok {t:nsggen_Tape} (ht:TOk t) (n:Int) (h2:n<9223372036854775808):Ok (Zk t n) fun r=>(0≤r.1∧(r.1<n∨r.1=0))∧TOk r.2:=by
 unfold Zk
 refine Ok.lift (Ok.ite (fun hc=>Ok.ret ⟨⟨by simp,.inr rfl⟩,ht⟩) fun hc=>?_)
 simp only [Bool.or_eq_true,decide_eq_true_eq] at hc
 have hc1:¬ n≤1:=fun h=>hc (.inl h)
 have hc2:¬ t.f_i ≥ t.f_l.length:=fun h=>hc (.inr h)
 have h0:=ht.h0
 have h1:=ht.h2
 have e1:IntKind.wrap .i64 (t.f_i + 1)=t.f_i + 1:=wi64 (by omega) (by omega)
 rw [e1]
 have e2:IntKind.wrap .i64 (t.f_i + 1 - 1)=t.f_i:=by rw [Int.add_sub_cancel]; exact wi64 (by omega) (by omega)
 rw [e2]
 refine Ok.bind (Ok.idx (p:=fun _=>True) h0 (by omega) fun _ _=>trivial) fun x _=>?_
 refine Ok.bind (Mod_ok (by omega) h2) fun v hv=>Ok.ret ⟨⟨hv.1,.inl hv.2⟩,?_⟩
 exact ⟨by show 0≤t.f_i + 1; omega,by show t.f_i + 1≤t.f_l.length; omega,h1⟩
theorem Next_lt {t:nsggen_Tape} (ht:TOk t) (n:Int) (h1:1≤n) (h2:n<9223372036854775808):Ok (Zk t n) fun r=>(0≤r.1∧r.1<n)∧TOk r.2:=
 (Next_ok ht n h2).mono fun r ⟨⟨h3,h4⟩,h5⟩=>⟨⟨h3,by omega⟩,h5⟩
def full:Arr5 api_Range:=⟨⟨0,4294967295⟩,⟨0,4294967295⟩,⟨0,255⟩,⟨0,65535⟩,⟨0,65535⟩⟩
theorem Full_eq:Zfe=some full:=by kernel_rfl
structure ROk (top:Int) (r:api_Range):Prop where
 h0:0≤r.Lo
 h1:r.Lo≤r.Hi
 h2:r.Hi≤top
structure RIn (r:api_Range):Prop where
 h0:0≤r.Lo
 h1:r.Lo<4294967296
 h2:0≤r.Hi
 h3:r.Hi<4294967296
theorem ROk.rin {top:Int} {r:api_Range} (h:ROk top r) (ht:top<4294967296):RIn r:=⟨h.h0,by have:=h.h1; have:=h.h2; omega,by have:=h.h0; have:=h.h1; omega,by have:=h.h2; omega⟩
structure BOk (b:Arr5 api_Range):Prop where
 h0:ROk 4294967295 b.x0
 h1:ROk 4294967295 b.x1
 h2:ROk 255 b.x2
 h3:ROk 65535 b.x3
 h4:ROk 65535 b.x4
structure BIn (b:Arr5 api_Range):Prop where
 h0:RIn b.x0
 h1:RIn b.x1
 h2:RIn b.x2
 h3:RIn b.x3
 h4:RIn b.x4
theorem BOk.bin {b:Arr5 api_Range} (h:BOk b):BIn b:=⟨h.h0.rin (by omega),h.h1.rin (by omega),h.h2.rin (by omega),h.h3.rin (by omega),h.h4.rin (by omega)⟩
theorem full_ok:BOk full:=⟨⟨by decide,by decide,by decide⟩,⟨by decide,by decide,by decide⟩,⟨by decide,by decide,by decide⟩,⟨by decide,by decide,by decide⟩,⟨by decide,by decide,by decide⟩⟩
def topOf (i:Int):Int:=if i=0 then 4294967295 else if i=1 then 4294967295 else if i=2 then 255 else 65535
theorem Top_eq (f:Int) (h0:0≤f) (h1:f<5):Zec f=some (topOf f):=by
 have hk:f=0∨f=1∨f=2∨f=3∨f=4:=by omega
 rcases hk with rfl | rfl | rfl | rfl | rfl <;> rfl
theorem fuel6:fuel=1180591620717411303418 + 6:=by kernel_rfl
theorem Number_ok {t:nsggen_Tape} (ht:TOk t) {top:Int} (h0:0≤top) (h1:top<4294967296):Ok (Zbv t top) fun r=>(0≤r.1∧r.1≤top)∧TOk r.2:=by
 unfold Zbv
 refine Ok.bind (Next_lt ht 17 (by omega) (by omega)) fun r ⟨⟨h2,h3⟩,h4⟩=>?_
 have hw:=wu32_range (Int.tdiv top 2)
 have hw2:=wu32_range (top - 1)
 refine Ok.bind (Ok.idx (p:=fun x=>0≤x) h2 (by simpa using h3) fun x hx=>?_) fun x hx=>Ok.ret ⟨⟨?_,?_⟩,h4⟩
 ·simp only [List.mem_cons,List.not_mem_nil,or_false] at hx
  omega
 ·show 0≤iMin x top
  unfold iMin; split <;> omega
 ·show iMin x top≤top
  unfold iMin; split <;> omega
theorem Range_ok {t:nsggen_Tape} (ht:TOk t) {top:Int} (h0:0≤top) (h1:top<4294967296):Ok (Zc4 t top) fun r=>ROk top r.1∧TOk r.2:=by
 unfold Zc4
 refine Ok.bind (Number_ok ht h0 h1) fun r ⟨⟨h2,h3⟩,h4⟩=>Ok.bind (Number_ok h4 h0 h1) fun s ⟨⟨h5,h6⟩,h7⟩=>Ok.ret ⟨⟨?_,?_,?_⟩,h7⟩
 ·show 0≤iMin r.1 s.1
  unfold iMin; split <;> omega
 ·show iMin r.1 s.1≤iMax r.1 s.1
  unfold iMin iMax; split <;> split <;> omega
 ·show iMax r.1 s.1≤top
  unfold iMax; split <;> omega
def subnets:List api_Prefix:=[⟨167772160,24⟩,⟨167772416,24⟩,⟨167772672,25⟩,⟨167772800,26⟩,⟨2886729728,16⟩,⟨3232237321,32⟩]
theorem Subnet_ok {x:Int}:Ok (Zdi x) fun p=>p∈subnets:=by
 unfold Zdi
 refine Ok.bind (Mod_ok (by omega) (by omega)) fun r ⟨h0,h1⟩=>?_
 exact Ok.bind (Ok.idx (p:=fun p=>p∈subnets) h0 (by simpa using h1) fun x hx=>hx) fun x hx=>Ok.ret hx
theorem Of_ok {p:api_Prefix} (hp:p∈subnets):Ok (Zff p) fun r=>ROk 4294967295 r.1:=by
 simp only [subnets,List.mem_cons,List.not_mem_nil,or_false] at hp
 rcases hp with rfl | rfl | rfl | rfl | rfl | rfl
 ·exact ⟨(⟨167772160,167772415⟩,true),by kernel_rfl,by decide,by decide,by decide⟩
 ·exact ⟨(⟨167772416,167772671⟩,true),by kernel_rfl,by decide,by decide,by decide⟩
 ·exact ⟨(⟨167772672,167772799⟩,true),by kernel_rfl,by decide,by decide,by decide⟩
 ·exact ⟨(⟨167772800,167772863⟩,true),by kernel_rfl,by decide,by decide,by decide⟩
 ·exact ⟨(⟨2886729728,2886795263⟩,true),by kernel_rfl,by decide,by decide,by decide⟩
 ·exact ⟨(⟨3232237321,3232237321⟩,true),by kernel_rfl,by decide,by decide,by decide⟩
theorem Addr_ok {t:nsggen_Tape} (ht:TOk t):Ok (Zcs t) fun r=>(0≤r.1∧r.1≤4294967295)∧TOk r.2:=by
 unfold Zcs
 refine Ok.bind (Next_lt ht 5 (by omega) (by omega)) fun r ⟨⟨h2,h3⟩,h4⟩=>Ok.ite (fun _=>?_) fun _=>?_
 ·refine Ok.bind (Next_lt h4 6 (by omega) (by omega)) fun r ⟨⟨h2,h3⟩,h4⟩=>?_
  refine Ok.bind (Ok.idx (p:=fun x=>0≤x∧x≤4294967295) h2 (by simpa using h3) fun x hx=>?_) fun x hx=>Ok.ret ⟨hx,h4⟩
  simp only [List.mem_cons,List.not_mem_nil,or_false] at hx
  omega
 ·refine Ok.bind (Next_lt h4 6 (by omega) (by omega)) fun r ⟨⟨h2,h3⟩,h4⟩=>Ok.bind Subnet_ok fun p hp=>Ok.bind (Of_ok hp) fun q hq=>?_
  refine Ok.bind (Next_lt h4 5 (by omega) (by omega)) fun r ⟨⟨h2,h3⟩,h4⟩=>?_
  refine Ok.bind (Ok.idx (p:=fun x=>0≤x∧x≤4294967295) h2 (by simpa using h3) fun x hx=>?_) fun x hx=>Ok.ret ⟨hx,h4⟩
  have g0:=hq.h0
  have g1:=hq.h1
  have g2:=hq.h2
  have w1:=wu32_range (q.1.Lo + 5)
  have w2:=wu32_range (q.1.Hi + 1)
  have w3:=wu32_range (q.1.Lo - 1)
  simp only [List.mem_cons,List.not_mem_nil,or_false] at hx
  omega
theorem addresses_ok {t:nsggen_Tape} (ht:TOk t):Ok (Zcc t) fun r=>ROk 4294967295 r.1∧TOk r.2:=by
 unfold Zcc
 refine Ok.bind (Next_lt ht 4 (by omega) (by omega)) fun r ⟨⟨h2,h3⟩,h4⟩=>Ok.ite (fun _=>?_) fun _=>Ok.ite (fun _=>?_) fun _=>Ok.ite (fun _=>?_) fun _=>?_
 ·exact Ok.bind (Next_lt h4 6 (by omega) (by omega)) fun r ⟨⟨h2,h3⟩,h4⟩=>Ok.bind Subnet_ok fun p hp=>Ok.bind (Of_ok hp) fun q hq=>Ok.ret ⟨hq,h4⟩
 ·refine Ok.bind (Addr_ok h4) fun a ⟨⟨a1,a2⟩,a3⟩=>Ok.bind (Addr_ok a3) fun b ⟨⟨b1,b2⟩,b3⟩=>Ok.ret ⟨⟨?_,?_,?_⟩,b3⟩
  ·show 0≤iMin a.1 b.1
   unfold iMin; split <;> omega
  ·show iMin a.1 b.1≤iMax a.1 b.1
   unfold iMin iMax; split <;> split <;> omega
  ·show iMax a.1 b.1≤4294967295
   unfold iMax; split <;> omega
 ·exact Ok.bind (Addr_ok h4) fun a ⟨⟨a1,a2⟩,a3⟩=>Ok.ret ⟨⟨a1,Int.le_refl _,a2⟩,a3⟩
 ·exact Ok.ret ⟨⟨Int.le_refl _,(by decide:(0:Int)≤4294967295),Int.le_refl _⟩,h4⟩
theorem Box_L1_ok:∀ (n:Nat) (t:nsggen_Tape) (b:Arr5 api_Range) (i:Int),TOk t→BOk b→i≤n→0≤i→i<100→Ok (Zbw (n + 1) t b i) fun r=>TOk r.1∧BOk r.2
 | 0,t,b,i,ht,hb,hi,h0,h9=>by
  rw [Zbw]
  exact Ok.ite (fun hc=>absurd (of_decide_eq_true hc) (by omega)) fun _=>Ok.ret ⟨ht,hb⟩
 | n + 1,t,b,i,ht,hb,hi,h0,h9=>by
  rw [Zbw]
  refine Ok.ite (fun hc=>?_) fun _=>Ok.ret ⟨ht,hb⟩
  have hc:=of_decide_eq_true hc
  refine Ok.bind (p:=fun r=>TOk r.1∧BOk r.2) ?_ fun r ⟨h1,h2⟩=>?_
  ·refine Ok.bind (Next_lt ht 5 (by omega) (by omega)) fun r ⟨_,h4⟩=>Ok.ite (fun _=>?_) fun _=>Ok.ite (fun _=>?_) fun _=>Ok.ite (fun _=>?_) fun _=>Ok.ite (fun _=>?_) fun _=>?_
   ·exact Ok.bind (addresses_ok h4) fun q ⟨g1,g2⟩=>Ok.ret ⟨g2,⟨g1,hb.h1,hb.h2,hb.h3,hb.h4⟩⟩
   ·exact Ok.bind (addresses_ok h4) fun q ⟨g1,g2⟩=>Ok.ret ⟨g2,⟨hb.h0,g1,hb.h2,hb.h3,hb.h4⟩⟩
   ·refine Ok.bind (Next_lt h4 6 (by omega) (by omega)) fun r ⟨⟨h2,h3⟩,h4⟩=>?_
    refine Ok.bind (Ok.idx (p:=fun x=>0≤x∧x≤255) h2 (by simpa using h3) fun x hx=>?_) fun x hx=>Ok.ret ⟨h4,⟨hb.h0,hb.h1,⟨hx.1,Int.le_refl _,hx.2⟩,hb.h3,hb.h4⟩⟩
    simp only [List.mem_cons,List.not_mem_nil,or_false] at hx
    omega
   ·exact Ok.bind (Range_ok h4 (by omega) (by omega)) fun q ⟨g1,g2⟩=>Ok.ret ⟨g2,⟨hb.h0,hb.h1,hb.h2,g1,hb.h4⟩⟩
   ·exact Ok.bind (Range_ok h4 (by omega) (by omega)) fun q ⟨g1,g2⟩=>Ok.ret ⟨g2,⟨hb.h0,hb.h1,hb.h2,hb.h3,g1⟩⟩
  ·obtain ⟨r1,r2⟩:=r
   show Ok (Zbw (n + 1) r1 r2 (IntKind.wrap .i64 (i - 1))) _
   rw [wi64 (by omega) (by omega)]
   exact Box_L1_ok n r1 r2 (i - 1) h1 h2 (by omega) (by omega) (by omega)
theorem Box_ok {t:nsggen_Tape} (ht:TOk t):Ok (Zeg t) fun r=>BOk r.1∧TOk r.2:=by
 unfold Zeg
 rw [Full_eq]
 refine Ok.lift (Ok.bind (Next_lt ht 3 (by omega) (by omega)) fun r ⟨⟨h2,h3⟩,h4⟩=>?_)
 have e:IntKind.wrap .i64 (1 + r.1)=1 + r.1:=wi64 (by omega) (by omega)
 rw [e]
 refine Ok.bind (Box_L1_ok 1180591620717411303423 r.2 full (1 + r.1) h4 full_ok (by omega) (by omega) (by omega)) fun q ⟨g1,g2⟩=>?_
 obtain ⟨q1,q2⟩:=q
 exact Ok.ret ⟨g2,g1⟩
theorem five {k:Int} (h0:0≤k) (h1:k<5):k=0∨k=1∨k=2∨k=3∨k=4:=by omega
theorem wnext {k:Int} (h0:0≤k) (h1:k<1000000):IntKind.wrap .i64 (k + (1:Int))=k + 1:=wi64 (by omega) (by omega)
def sideBad (top:Int) (r:api_Range):Bool:=decide (r.Lo > r.Hi) || decide (r.Hi > top)
theorem tops_get {k:Int} (h0:0≤k) (h1:k<5):Arr5.get Zao k=topOf k:=by
 rcases five h0 h1 with rfl | rfl | rfl | rfl | rfl <;> rfl
theorem vstep (b:Arr5 api_Range) (n:Nat) {k:Int} (h0:0≤k) (h1:k<5):Zad b (n + 1) k=if sideBad (topOf k) (b.get k)=true then some (.inr false) else Zad b n (k + 1):=by
 rw [Zad,if_pos (decide_eq_true h1),if_pos ⟨h0,h1⟩,if_pos ⟨h0,h1⟩,tops_get h0 h1,wnext h0 (by omega)]
 unfold sideBad
 cases decide ((b.get k).Lo > (b.get k).Hi) <;> simp
theorem rvstep (b:Arr5 api_Range) (n:Nat) {k:Int} (h0:0≤k) (h1:k<5):Zy b (n + 1) k=if sideBad (topOf k) (b.get k)=true then some (.inr false) else Zy b n (k + 1):=by
 rw [Zy,if_pos (decide_eq_true h1),if_pos ⟨h0,h1⟩,if_pos ⟨h0,h1⟩,if_pos ⟨h0,h1⟩,Top_eq k h0 h1,wnext h0 (by omega)]
 unfold sideBad
 cases decide ((b.get k).Lo > (b.get k).Hi) <;> simp
def vB (b:Arr5 api_Range):Bool:=
 if sideBad 4294967295 b.x0=true then false else if sideBad 4294967295 b.x1=true then false else if sideBad 255 b.x2=true then false else if sideBad 65535 b.x3=true then false else if sideBad 65535 b.x4=true then false else true
theorem Valid_eq (b:Arr5 api_Range):Zem b=some (vB b):=by
 unfold Zem
 rw [fuel6]
 generalize (1180591620717411303418:Nat)=m
 have s0:Zad b (m + 6) 0=if sideBad 4294967295 b.x0=true then some (.inr false) else Zad b (m + 5) 1:=vstep b (m + 5) (by omega) (by omega)
 have s1:Zad b (m + 5) 1=if sideBad 4294967295 b.x1=true then some (.inr false) else Zad b (m + 4) 2:=vstep b (m + 4) (by omega) (by omega)
 have s2:Zad b (m + 4) 2=if sideBad 255 b.x2=true then some (.inr false) else Zad b (m + 3) 3:=vstep b (m + 3) (by omega) (by omega)
 have s3:Zad b (m + 3) 3=if sideBad 65535 b.x3=true then some (.inr false) else Zad b (m + 2) 4:=vstep b (m + 2) (by omega) (by omega)
 have s4:Zad b (m + 2) 4=if sideBad 65535 b.x4=true then some (.inr false) else Zad b (m + 1) 5:=vstep b (m + 1) (by omega) (by omega)
 have s5:Zad b (m + 1) 5=some (.inl ()):=by rw [Zad]; rfl
 rw [s0,s1,s2,s3,s4,s5]
 unfold vB
 repeat' split
 all_goals first | rfl | (simp_all; done) | skip
theorem rValid_eq (b:Arr5 api_Range):Zd6 b=some (vB b):=by
 unfold Zd6
 rw [fuel6]
 generalize (1180591620717411303418:Nat)=m
 have s0:Zy b (m + 6) 0=if sideBad 4294967295 b.x0=true then some (.inr false) else Zy b (m + 5) 1:=rvstep b (m + 5) (by omega) (by omega)
 have s1:Zy b (m + 5) 1=if sideBad 4294967295 b.x1=true then some (.inr false) else Zy b (m + 4) 2:=rvstep b (m + 4) (by omega) (by omega)
 have s2:Zy b (m + 4) 2=if sideBad 255 b.x2=true then some (.inr false) else Zy b (m + 3) 3:=rvstep b (m + 3) (by omega) (by omega)
 have s3:Zy b (m + 3) 3=if sideBad 65535 b.x3=true then some (.inr false) else Zy b (m + 2) 4:=rvstep b (m + 2) (by omega) (by omega)
 have s4:Zy b (m + 2) 4=if sideBad 65535 b.x4=true then some (.inr false) else Zy b (m + 1) 5:=rvstep b (m + 1) (by omega) (by omega)
 have s5:Zy b (m + 1) 5=some (.inl ()):=by rw [Zy]; rfl
 rw [s0,s1,s2,s3,s4,s5]
 unfold vB
 repeat' split
 all_goals first | rfl | (simp_all; done) | skip
theorem vB_ok {b:Arr5 api_Range} (hb:BIn b) (h:vB b=true):BOk b:=by
 unfold vB sideBad at h
 simp only [Bool.or_eq_true,decide_eq_true_eq] at h
 split at h; · cases h
 split at h; · cases h
 split at h; · cases h
 split at h; · cases h
 split at h; · cases h
 exact ⟨⟨hb.h0.h0,by omega,by omega⟩,⟨hb.h1.h0,by omega,by omega⟩,⟨hb.h2.h0,by omega,by omega⟩,⟨hb.h3.h0,by omega,by omega⟩,⟨hb.h4.h0,by omega,by omega⟩⟩
theorem ok_vB {b:Arr5 api_Range} (h:BOk b):vB b=true:=by
 obtain ⟨⟨_,a1,a2⟩,⟨_,b1,b2⟩,⟨_,c1,c2⟩,⟨_,d1,d2⟩,⟨_,e1,e2⟩⟩:=h
 unfold vB sideBad
 simp only [Bool.or_eq_true,decide_eq_true_eq]
 rw [if_neg (by omega),if_neg (by omega),if_neg (by omega),if_neg (by omega),if_neg (by omega)]
theorem BIn.get {b:Arr5 api_Range} (h:BIn b) (k:Int):RIn (b.get k):=by
 unfold Arr5.get
 split
 ·exact h.h0
 split
 ·exact h.h1
 split
 ·exact h.h2
 split
 ·exact h.h3
 ·exact h.h4
theorem BIn.set {b:Arr5 api_Range} (h:BIn b) {r:api_Range} (hr:RIn r) (k:Int):BIn (b.set k r):=by
 unfold Arr5.set
 split
 ·exact ⟨hr,h.h1,h.h2,h.h3,h.h4⟩
 split
 ·exact ⟨h.h0,hr,h.h2,h.h3,h.h4⟩
 split
 ·exact ⟨h.h0,h.h1,hr,h.h3,h.h4⟩
 split
 ·exact ⟨h.h0,h.h1,h.h2,hr,h.h4⟩
 ·exact ⟨h.h0,h.h1,h.h2,h.h3,hr⟩
theorem BIn.setHi {b:Arr5 api_Range} (h:BIn b) {v:Int} (h0:0≤v) (h1:v<4294967296) (k:Int):BIn (b.set k { (b.get k) with Hi:=v }):=by
 have hg:=h.get k
 generalize b.get k=r at hg ⊢
 exact BIn.set h (r:=⟨r.Lo,v⟩) (RIn.mk hg.h0 hg.h1 h0 h1) k
theorem BIn.setLo {b:Arr5 api_Range} (h:BIn b) {v:Int} (h0:0≤v) (h1:v<4294967296) (k:Int):BIn (b.set k { (b.get k) with Lo:=v }):=by
 have hg:=h.get k
 generalize b.get k=r at hg ⊢
 exact BIn.set h (r:=⟨v,r.Hi⟩) (RIn.mk h0 h1 hg.h2 hg.h3) k
theorem SpoilBox_ok {t:nsggen_Tape} (ht:TOk t) {b:Arr5 api_Range} (hb:BIn b):Ok (Zch t b) fun r=>BIn r.1∧TOk r.2:=by
 unfold Zch
 refine Ok.bind (Next_lt ht 5 (by omega) (by omega)) fun r1 ⟨⟨h2,h3⟩,h4⟩=>?_
 refine Ok.bind (p:=fun o=>TOk o.1∧BIn o.2) ?_ fun o ⟨g1,g2⟩=>Ok.ret ⟨g2,g1⟩
 refine Ok.bind (Next_lt h4 3 (by omega) (by omega)) fun r20 ⟨_,h6⟩=>?_
 have hk:0≤r1.1∧r1.1<5:=⟨h2,h3⟩
 have hg:=hb.get r1.1
 refine Ok.ite (fun _=>?_) fun _=>Ok.ite (fun _=>?_) fun _=>?_
 ·refine Ok.chk hk (Ok.chk hk (Ok.chk hk (Ok.chk hk (Ok.ret ⟨h6,?_⟩))))
  exact (hb.setLo hg.h2 hg.h3 _).setHi hg.h0 hg.h1 _
 ·exact Ok.chk hk (Ok.ret ⟨h6,hb.setHi (by decide) (by decide) _⟩)
 ·exact Ok.chk hk (Ok.ret ⟨h6,hb.set ⟨by decide,by decide,by decide,by decide⟩ _⟩)
def GB (wild:Bool) (b:Arr5 api_Range):Prop:=BIn b∧(wild=false→BOk b)
theorem Boxes_L1_ok (wild:Bool):∀ (n:Nat) (t:nsggen_Tape) (l:List (Arr5 api_Range)) (i:Int),TOk t→(∀ x∈l,GB wild x)→i≤n→0≤i→i<100→(l.length:Int) + i<1000 →
  Ok (Zbl wild (n + 1) t l i) fun r=>TOk r.1∧(∀ x∈r.2,GB wild x)∧(r.2.length:Int)=l.length + i
 | 0,t,l,i,ht,hl,hi,h0,h9,hlen=>by
  rw [Zbl]
  exact Ok.ite (fun hc=>absurd (of_decide_eq_true hc) (by omega)) fun _=>Ok.ret ⟨ht,hl,by show (l.length:Int)=_; omega⟩
 | n + 1,t,l,i,ht,hl,hi,h0,h9,hlen=>by
  rw [Zbl]
  refine Ok.ite (fun hc=>?_) fun hc=>Ok.ret ⟨ht,hl,by simp at hc; show (l.length:Int)=_; omega⟩
  have hc:=of_decide_eq_true hc
  refine Ok.bind (p:=fun r=>TOk r.1∧(∀ x∈r.2,GB wild x)∧r.2.length=l.length + 1) ?_ fun r ⟨h1,h2,h3⟩=>?_
  ·refine Ok.bind (Box_ok ht) fun q ⟨g1,g2⟩=>?_
   refine Ok.bind (p:=fun o=>TOk o.1∧GB wild o.2) ?_ fun o ⟨k1,k2⟩=>?_
   ·refine Ok.lift ?_
    refine Ok.bind (p:=fun v=>TOk v.2∧(v.1=true→wild=true)) ?_ fun v ⟨k1,k2⟩=>?_
    ·refine Ok.ite (fun hw=>?_) fun _=>Ok.ret ⟨g2,fun h=>by cases h⟩
     exact Ok.bind (Next_lt g2 8 (by omega) (by omega)) fun r190 ⟨_,h6⟩=>Ok.ret ⟨h6,fun _=>hw⟩
    ·refine Ok.ite (fun hv=>?_) fun _=>Ok.ret ⟨k1,g1.bin,fun _=>g1⟩
     refine Ok.bind (SpoilBox_ok k1 g1.bin) fun r196 ⟨m1,m2⟩=>Ok.ret ⟨m2,m1,fun hw=>?_⟩
     rw [k2 hv] at hw; cases hw
   ·obtain ⟨o1,o2⟩:=o
    refine Ok.chk (by simp only [List.length_singleton]; unfold lim; omega) (Ok.ret ⟨k1,fun x hx=>?_,by simp⟩)
    rcases List.mem_append.1 hx with hx | hx
    ·exact hl x hx
    ·simp only [List.mem_singleton] at hx; subst hx; exact k2
  ·obtain ⟨r1,r2⟩:=r
   simp only at h1 h2 h3
   show Ok (Zbl wild (n + 1) r1 r2 (IntKind.wrap .i64 (i - 1))) _
   rw [wi64 (by omega) (by omega)]
   refine (Boxes_L1_ok wild n r1 r2 (i - 1) h1 h2 (by omega) (by omega) (by omega) (by omega)).mono fun v ⟨e1,e2,e3⟩=>⟨e1,e2,?_⟩
   omega
theorem Boxes_ok (wild:Bool) {t:nsggen_Tape} (ht:TOk t) {n:Int} (h0:0≤n) (h1:n<90):Ok (Zdu t n wild) fun r=>(∀ x∈r.1,GB wild x)∧(r.1.length:Int)≤n∧TOk r.2:=by
 unfold Zdu
 rw [wi64 (x:=n + 1) (by omega) (by omega)]
 refine Ok.bind (Next_lt ht (n + 1) (by omega) (by omega)) fun r ⟨⟨h2,h3⟩,h4⟩=>?_
 refine Ok.bind (Boxes_L1_ok wild 1180591620717411303423 r.2 [] r.1 h4 (by simp) (by omega) h2 (by omega) (by simp; omega)) fun q ⟨g1,g2,g3⟩=>?_
 obtain ⟨q1,q2⟩:=q
 refine Ok.ret ⟨g2,?_,g1⟩
 simp at g3
 show (q2.length:Int)≤n
 omega
theorem fuel_cut (m:Nat) (h:m≤1000000000000):∃ n,fuel=n + m + 1:=⟨fuel - m - 1,by unfold fuel; omega⟩
theorem Zle {t:List Int} (h:Zjv t):(t.length:Int)<9223372036854775808:=by have:=h.1; omega
end Go.AM
set_option maxRecDepth 100000
namespace Go.AM
open Go
theorem five_find {ρ:Type} {L:Nat→Int→Option (Unit ⊕ ρ)} {bad:Int→Bool} {v:ρ}
  (step:∀ n (k:Int),0≤k→k<5→L (n + 1) k=if bad k=true then some (.inr v) else L n (k + 1)) (stop:∀ n,L (n + 1) 5=some (.inl ())) :
  L fuel 0=some (if (bad 0 || bad 1 || bad 2 || bad 3 || bad 4)=true then .inr v else .inl ()):=by
 rw [fuel6]
 rw [step _ 0 (by omega) (by omega),step _ (0 + 1) (by omega) (by omega),step _ (0 + 1 + 1) (by omega) (by omega),step _ (0 + 1 + 1 + 1) (by omega) (by omega),step _ (0 + 1 + 1 + 1 + 1) (by omega) (by omega)]
 rw [show (0:Int) + 1 + 1 + 1 + 1 + 1=5 from rfl,stop,show (0:Int) + 1=1 from rfl,show (1:Int) + 1=2 from rfl,show (2:Int) + 1=3 from rfl,show (3:Int) + 1=4 from rfl]
 cases bad 0 <;> cases bad 1 <;> cases bad 2 <;> cases bad 3 <;> cases bad 4 <;> rfl
theorem wsucc {i:Nat} (h:i<1000000000001):IntKind.wrap .i64 ((i:Int) + (1:Int))=((i + 1:Nat):Int):=by
 rw [wi64 (by omega) (by omega)]; omega
def findI {α ρ:Type} (g:Nat→α→Option ρ):Nat→List α→Option ρ
 | _,[]=>none
 | i,x :: xs=>match g i x with
  | some r=>some r
  | none=>findI g (i + 1) xs
def orS {ρ:Type}:Option ρ→Unit ⊕ ρ
 | some r=>.inr r
 | none=>.inl ()
theorem list_find {α ρ:Type} {L:Nat→Int→Option (Unit ⊕ ρ)} (l:List α) (g:Nat→α→Option ρ) (hl:l.length≤1000000000000)
  (step:∀ n (i:Nat) (h:i<l.length),L (n + 1) (i:Int)=match g i l[i] with
   | some r=>some (.inr r)
   | none=>L n ((i + 1:Nat):Int))
  (stop:∀ n,L (n + 1) (l.length:Int)=some (.inl ())):L fuel 0=some (orS (findI g 0 l)):=by
 have key:∀ (m n i:Nat),i + m=l.length→L (n + m + 1) (i:Int)=some (orS (findI g i (l.drop i))):=by
  intro m
  induction m with
  | zero=>
   intro n i h
   have hi:i=l.length:=by omega
   subst hi
   rw [List.drop_length]
   exact stop _
  | succ m ih=>
   intro n i h
   have hi:i<l.length:=by omega
   rw [show n + (m + 1) + 1=(n + m + 1) + 1 by omega,step _ i hi,List.drop_eq_getElem_cons hi]
   simp only [findI]
   cases hg:g i l[i] with
   | some r=>rfl
   | none=>exact ih n (i + 1) (by omega)
 obtain ⟨f,hf⟩:=fuel_cut l.length hl
 rw [hf]
 exact key l.length f 0 (by omega)
def foldI {α σ:Type} (f:σ→Nat→α→σ):σ→Nat→List α→σ
 | s,_,[]=>s
 | s,i,x :: xs=>foldI f (f s i x) (i + 1) xs
theorem list_fold {α σ ρ:Type} {L:Nat→σ→Int→Option ρ} (l:List α) (f:σ→Nat→α→σ) (fin:σ→ρ) (I:Nat→σ→Prop) (hl:l.length≤1000000000000)
  (step:∀ n s (i:Nat) (h:i<l.length),I i s→L (n + 1) s (i:Int)=L n (f s i l[i]) ((i + 1:Nat):Int)∧I (i + 1) (f s i l[i]))
  (stop:∀ n s,I l.length s→L (n + 1) s (l.length:Int)=some (fin s)) (s:σ) (hs:I 0 s):L fuel s 0=some (fin (foldI f s 0 l))∧I l.length (foldI f s 0 l):=by
 have key:∀ (m n i:Nat) (s:σ),I i s→i + m=l.length→L (n + m + 1) s (i:Int)=some (fin (foldI f s i (l.drop i)))∧I l.length (foldI f s i (l.drop i)):=by
  intro m
  induction m with
  | zero=>
   intro n i s hs h
   have hi:i=l.length:=by omega
   subst hi
   rw [List.drop_length]
   exact ⟨stop _ _ hs,hs⟩
  | succ m ih=>
   intro n i s hs h
   have hi:i<l.length:=by omega
   obtain ⟨h1,h2⟩:=step (n + m + 1) s i hi hs
   rw [show n + (m + 1) + 1=(n + m + 1) + 1 by omega,h1,List.drop_eq_getElem_cons hi]
   simp only [foldI]
   exact ih n (i + 1) _ h2 (by omega)
 obtain ⟨g,hg⟩:=fuel_cut l.length hl
 rw [hg]
 exact key l.length g 0 s hs (by omega)
theorem list_ok {α σ ρ:Type} {L:Nat→σ→Int→Option ρ} (l:List α) (I:Nat→σ→Prop) {q:ρ→Prop} (hl:l.length≤1000000000000)
  (step:∀ n s (i:Nat),i<l.length→I i s→(∀ s',I (i + 1) s'→Ok (L n s' ((i + 1:Nat):Int)) q)→Ok (L (n + 1) s (i:Int)) q)
  (stop:∀ n s,I l.length s→Ok (L (n + 1) s (l.length:Int)) q) (s:σ) (hs:I 0 s):Ok (L fuel s 0) q:=by
 have key:∀ (m n i:Nat) (s:σ),I i s→i + m=l.length→Ok (L (n + m + 1) s (i:Int)) q:=by
  intro m
  induction m with
  | zero=>
   intro n i s hs h
   have hi:i=l.length:=by omega
   subst hi
   exact stop _ _ hs
  | succ m ih=>
   intro n i s hs h
   rw [show n + (m + 1) + 1=(n + m + 1) + 1 by omega]
   exact step _ s i (by omega) hs fun s' hs'=>ih n (i + 1) s' hs' (by omega)
 obtain ⟨g,hg⟩:=fuel_cut l.length hl
 rw [hg]
 exact key l.length g 0 s hs (by omega)
theorem foldI_map {α β:Type} (g:α→β):∀ (l:List α) (acc:List β) (i:Nat),foldI (fun s _ x=>s++[g x]) acc i l=acc++l.map g
 | [],acc,i=>by simp [foldI]
 | x :: xs,acc,i=>by simp only [foldI]; rw [foldI_map g xs]; simp
theorem foldI_flat {α β:Type} (g:α→List β):∀ (l:List α) (acc:List β) (i:Nat),foldI (fun s _ x=>s++g x) acc i l=acc++l.flatMap g
 | [],acc,i=>by simp [foldI]
 | x :: xs,acc,i=>by simp only [foldI]; rw [foldI_flat g xs]; simp
end Go.AM
set_option maxRecDepth 100000
namespace Go.AM
open Go
instance decRg:DecidableEq api_Range:=fun a b=>
 if h:a.Lo=b.Lo∧a.Hi=b.Hi then .isTrue (by cases a; cases b; obtain ⟨h1,h2⟩:=h; simp only at h1 h2; rw [h1,h2]) else .isFalse fun e=>h (by rw [e]; exact ⟨rfl,rfl⟩)
def inR (v:Int) (r:api_Range):Bool:=decide (r.Lo≤v) && decide (v≤r.Hi)
def mB:List api_Range→List Int→Bool
 | [],[]=>true
 | r :: b,v :: p=>inR v r && mB b p
 | _,_=>false
def mS (l:List (List api_Range)) (p:List Int):Bool:=l.any (mB · p)
def atv (l:List (List api_Range)) (v:Int):List (List api_Range):=l.flatMap fun b=>match b with
 | r :: b'=>if inR v r then [b'] else []
 | []=>[]
def vP:List Int→List Int→Prop
 | [],[]=>True
 | t :: ts,v :: p=>0≤v∧v≤t∧vP ts p
 | _,_=>False
def vR:List Int→List api_Range→Prop
 | [],[]=>True
 | t :: ts,r :: b=>0≤r.Lo∧r.Lo≤r.Hi∧r.Hi≤t∧vR ts b
 | _,_=>False
theorem mS_cons (l:List (List api_Range)) (v:Int) (p:List Int):mS l (v :: p)=mS (atv l v) p:=by
 induction l with
 | nil=>rfl
 | cons b l ih=>
  have e:mS (b :: l) (v :: p)=(mB b (v :: p) || mS l (v :: p)):=rfl
  rw [e,ih]
  cases b with
  | nil=>rfl
  | cons r b=>
   have e2:atv ((r :: b) :: l) v=(if inR v r then [b] else [])++atv l v:=rfl
   rw [e2]
   unfold mS
   rw [List.any_append]
   simp only [mB]
   cases inR v r <;> simp
theorem mS_app (a b:List (List api_Range)) (p:List Int):mS (a++b) p=(mS a p || mS b p):=by unfold mS; rw [List.any_append]
theorem mS_nil (p:List Int):mS [] p=false:=rfl
theorem atv_app (a b:List (List api_Range)) (v:Int):atv (a++b) v=atv a v++atv b v:=by unfold atv; rw [List.flatMap_append]
theorem mS_iff {l:List (List api_Range)} {p:List Int}:mS l p=true ↔ ∃ b∈l,mB b p=true:=by unfold mS; rw [List.any_eq_true]
abbrev Cell:=api_Range × List (List api_Range)
def gp (y x:Cell):Prop:=y.1.Hi<x.1.Lo∧(y.1.Hi + 1=x.1.Lo→y.2 ≠ x.2)
def lk (c:List Cell) (v:Int):List (List api_Range):=c.flatMap fun x=>if inR v x.1 then x.2 else []
def flt (c:List Cell):List (List api_Range):=c.flatMap fun x=>x.2.map (x.1 :: ·)
structure Ord (t:Int) (c:List Cell):Prop where
 pw:c.Pairwise gp
 ok:∀ x∈c,0≤x.1.Lo∧x.1.Lo≤x.1.Hi∧x.1.Hi≤t∧x.2 ≠ []
def CF:List Int→List (List api_Range)→Prop
 | [],l=>l=[]∨l=[[]]
 | t :: ts,l=>∃ c,l=flt c∧Ord t c∧∀ x∈c,CF ts x.2
theorem lk_app (a b:List Cell) (v:Int):lk (a++b) v=lk a v++lk b v:=by unfold lk; rw [List.flatMap_append]
theorem lk_cons (x:Cell) (b:List Cell) (v:Int):lk (x :: b) v=(if inR v x.1 then x.2 else [])++lk b v:=rfl
theorem flt_app (a b:List Cell):flt (a++b)=flt a++flt b:=by unfold flt; rw [List.flatMap_append]
theorem flt_cons (x:Cell) (b:List Cell):flt (x :: b)=x.2.map (x.1 :: ·)++flt b:=rfl
theorem atv_map (r:api_Range) (v:Int):∀ (l:List (List api_Range)),atv (l.map (r :: ·)) v=if inR v r then l else []
 | []=>by simp [atv]
 | b :: l=>by
  have e:atv ((b :: l).map (r :: ·)) v=(if inR v r then [b] else [])++atv (l.map (r :: ·)) v:=rfl
  rw [e,atv_map r v l]
  split <;> rfl
theorem atv_flt (c:List Cell) (v:Int):atv (flt c) v=lk c v:=by
 induction c with
 | nil=>rfl
 | cons x c ih=>rw [flt_cons,lk_cons,atv_app,atv_map,ih]
theorem inR_iff {v:Int} {r:api_Range}:inR v r=true ↔ r.Lo≤v∧v≤r.Hi:=by unfold inR; simp
theorem lk_nil_of {c:List Cell} {v:Int} (h:∀ x∈c,¬ (x.1.Lo≤v∧v≤x.1.Hi)):lk c v=[]:=by
 induction c with
 | nil=>rfl
 | cons x c ih=>
  rw [lk_cons,ih fun y hy=>h y (List.mem_cons_of_mem _ hy),if_neg (by rw [inR_iff]; exact h x (List.mem_cons_self ..))]; rfl
theorem Ord.tail {t:Int} {x:Cell} {c:List Cell} (h:Ord t (x :: c)):Ord t c:=⟨(List.pairwise_cons.1 h.pw).2,fun y hy=>h.ok y (List.mem_cons_of_mem _ hy)⟩
theorem lk_mem {t:Int}:∀ {c:List Cell},Ord t c→∀ {x:Cell},x∈c→∀ {v:Int},x.1.Lo≤v→v≤x.1.Hi→lk c v=x.2
 | [],_,_,h,_,_,_=>(by cases h)
 | y :: c,ho,x,hx,v,h1,h2=>by
  have hp:=List.pairwise_cons.1 ho.pw
  rw [lk_cons]
  rcases List.mem_cons.1 hx with rfl | hx
  ·rw [if_pos (inR_iff.2 ⟨h1,h2⟩),lk_nil_of,List.append_nil]
   intro z hz
   have:=(hp.1 z hz).1
   omega
  ·have:=(hp.1 x hx).1
   rw [if_neg (by rw [inR_iff]; omega),lk_mem ho.tail hx h1 h2]; rfl
theorem lk_some {c:List Cell} {v:Int} (h:lk c v ≠ []):∃ x∈c,x.1.Lo≤v∧v≤x.1.Hi:=by
 apply Classical.byContradiction
 intro hn
 exact h (lk_nil_of fun x hx hv=>hn ⟨x,hx,hv⟩)
theorem Ord.inj {t:Int}:∀ {c c':List Cell},Ord t c→Ord t c'→(∀ v,lk c v=lk c' v)→c=c'
 | [],[],_,_,_=>rfl
 | [],y :: c',_,h',h=>by
  have hy:=h'.ok y (List.mem_cons_self ..)
  have:=h y.1.Lo
  rw [lk_mem h' (List.mem_cons_self ..) (Int.le_refl _) hy.2.1] at this
  exact absurd this.symm hy.2.2.2
 | x :: c,[],h,_,he=>by
  have hy:=h.ok x (List.mem_cons_self ..)
  have:=he x.1.Lo
  rw [lk_mem h (List.mem_cons_self ..) (Int.le_refl _) hy.2.1] at this
  exact absurd this hy.2.2.2
 | x :: c,y :: c',h,h',he=>by
  have hx:=h.ok x (List.mem_cons_self ..)
  have hy:=h'.ok y (List.mem_cons_self ..)
  have px:=List.pairwise_cons.1 h.pw
  have py:=List.pairwise_cons.1 h'.pw
  have low:∀ {x:Cell} {c c':List Cell} {y:Cell},Ord t (x :: c)→Ord t (y :: c')→(∀ v,lk (x :: c) v=lk (y :: c') v)→y.1.Lo≤x.1.Lo:=by
   intro x c c' y h h' he
   have hx:=h.ok x (List.mem_cons_self ..)
   have py:=List.pairwise_cons.1 h'.pw
   have h1:=he x.1.Lo
   rw [lk_mem h (List.mem_cons_self ..) (Int.le_refl _) hx.2.1] at h1
   obtain ⟨z,hz,h2,h3⟩:=lk_some (c:=y :: c') (v:=x.1.Lo) (by rw [← h1]; exact hx.2.2.2)
   rcases List.mem_cons.1 hz with rfl | hz
   ·exact h2
   ·have:=(py.1 z hz).1
    have:=(h'.ok y (List.mem_cons_self ..)).2.1
    omega
  have e1:x.1.Lo=y.1.Lo:=Int.le_antisymm (low h' h fun v=>(he v).symm) (low h h' he)
  have e2:x.2=y.2:=by
   have h1:=he x.1.Lo
   rw [lk_mem h (List.mem_cons_self ..) (Int.le_refl _) hx.2.1,lk_mem h' (List.mem_cons_self ..) (by omega) (by omega)] at h1
   exact h1
  have hi:∀ {x:Cell} {c c':List Cell} {y:Cell},Ord t (x :: c)→Ord t (y :: c')→(∀ v,lk (x :: c) v=lk (y :: c') v)→x.1.Lo=y.1.Lo→x.2=y.2→¬ x.1.Hi<y.1.Hi:=by
   intro x c c' y h h' he e1 e2 hlt
   have hx:=h.ok x (List.mem_cons_self ..)
   have px:=List.pairwise_cons.1 h.pw
   have h1:=he (x.1.Hi + 1)
   rw [lk_mem h' (v:=x.1.Hi + 1) (List.mem_cons_self ..) (by omega) (by omega)] at h1
   obtain ⟨z,hz,h2,h3⟩:=lk_some (c:=x :: c) (v:=x.1.Hi + 1) (by rw [h1,← e2]; exact hx.2.2.2)
   rcases List.mem_cons.1 hz with rfl | hzc
   ·omega
   ·have hg:=px.1 z hzc
    rw [lk_mem h hz h2 h3,← e2] at h1
    exact hg.2 (by have:=hg.1; omega) h1.symm
  have e3:x.1.Hi=y.1.Hi:=by
   have a1:=hi h h' he e1 e2
   have a2:=hi h' h (fun v=>(he v).symm) e1.symm e2.symm
   omega
  have exy:x=y:=by
   obtain ⟨⟨a,b⟩,r⟩:=x
   obtain ⟨⟨a',b'⟩,r'⟩:=y
   simp only at e1 e2 e3
   subst e1 e2 e3
   rfl
  subst exy
  congr 1
  refine Ord.inj h.tail h'.tail fun v=>?_
  have h1:=he v
  rw [lk_cons,lk_cons] at h1
  exact List.append_cancel_left h1
theorem CF_nil:∀ ts,CF ts []
 | []=>.inl rfl
 | _ :: _=>⟨[],rfl,⟨List.Pairwise.nil,fun _ h=>(by cases h)⟩,fun _ h=>(by cases h)⟩
theorem CF_lk {ts:List Int} {t:Int} {c:List Cell} (h:Ord t c) (hc:∀ x∈c,CF ts x.2) (v:Int):CF ts (lk c v):=by
 by_cases hv:lk c v=[]
 ·rw [hv]; exact CF_nil ts
 ·obtain ⟨x,hx,h1,h2⟩:=lk_some hv
  rw [lk_mem h hx h1 h2]
  exact hc x hx
theorem lk_out {t:Int} {c:List Cell} (h:Ord t c) {v:Int} (hv:v<0∨t<v):lk c v=[]:=
 lk_nil_of fun x hx=>by have:=h.ok x hx; omega
theorem CF_inj:∀ (ts:List Int) {l l':List (List api_Range)},CF ts l→CF ts l'→(∀ p,vP ts p→mS l p=mS l' p)→l=l'
 | [],l,l',h,h',he=>by
  have:=he [] trivial
  rcases h with rfl | rfl <;> rcases h' with rfl | rfl
  ·rfl
  ·simp [mS,mB] at this
  ·simp [mS,mB] at this
  ·rfl
 | t :: ts,l,l',h,h',he=>by
  obtain ⟨c,rfl,ho,hc⟩:=h
  obtain ⟨c',rfl,ho',hc'⟩:=h'
  rw [Ord.inj ho ho' fun v=>?_]
  by_cases hv:0≤v∧v≤t
  ·refine CF_inj ts (CF_lk ho hc v) (CF_lk ho' hc' v) fun p hp=>?_
   have:=he (v :: p) ⟨hv.1,hv.2,hp⟩
   rw [mS_cons,mS_cons,atv_flt,atv_flt] at this
   exact this
  ·rw [lk_out ho (by omega),lk_out ho' (by omega)]
def joinC (c:List Cell) (lo hi:Int) (rest:List (List api_Range)):List Cell:=
 if rest=[] then c else match c.getLast? with
  | some y=>if y.1.Hi + 1=lo∧y.2=rest then c.dropLast++[(⟨y.1.Lo,hi⟩,rest)] else c++[(⟨lo,hi⟩,rest)]
  | none=>c++[(⟨lo,hi⟩,rest)]
structure Upto (g:Int→List (List api_Range)) (p:Int) (c:List Cell):Prop where
 ord:Ord (p - 1) c
 at_:∀ v,lk c v=if 0≤v∧v<p then g v else []
theorem Ord.mono {t t':Int} (h:t≤t') {c:List Cell} (ho:Ord t c):Ord t' c:=⟨ho.pw,fun x hx=>by have:=ho.ok x hx; exact ⟨this.1,this.2.1,by omega,this.2.2.2⟩⟩
theorem Upto.nil (g:Int→List (List api_Range)):Upto g 0 []:=⟨⟨List.Pairwise.nil,fun _ h=>(by cases h)⟩,fun v=>by rw [if_neg (by omega)]; rfl⟩
theorem Upto.inj {g:Int→List (List api_Range)} {p:Int} {c c':List Cell} (h:Upto g p c) (h':Upto g p c'):c=c':=Ord.inj h.ord h'.ord fun v=>by rw [h.at_,h'.at_]
theorem lk_one (lo hi:Int) (rest:List (List api_Range)) (v:Int):lk [(⟨lo,hi⟩,rest)] v=if lo≤v∧v≤hi then rest else []:=by
 rw [lk_cons]
 show _++[]=_
 rw [List.append_nil]
 by_cases h:lo≤v∧v≤hi
 ·rw [if_pos h,if_pos (inR_iff.2 h)]
 ·rw [if_neg h,if_neg (by rw [inR_iff]; exact h)]
theorem Upto.step {g:Int→List (List api_Range)} {p q:Int} {c:List Cell} (h:Upto g p c) (hp:0≤p) (hq:p<q) (hg:∀ v,p≤v→v<q→g v=g p):Upto g q (joinC c p (q - 1) (g p)):=by
 unfold joinC
 by_cases hr:g p=[]
 ·rw [if_pos hr]
  refine ⟨h.ord.mono (by omega),fun v=>?_⟩
  rw [h.at_]
  by_cases h1:0≤v∧v<p
  ·rw [if_pos h1,if_pos ⟨h1.1,by omega⟩]
  ·rw [if_neg h1]
   split
   ·rw [hg v (by omega) (by omega),hr]
   ·rfl
 ·rw [if_neg hr]
  have snoc:∀ (d:List Cell) (lo:Int),d.Pairwise gp→(∀ x∈d,0≤x.1.Lo∧x.1.Lo≤x.1.Hi∧x.1.Hi≤p - 1∧x.2 ≠ [])→(∀ y∈d,gp y (⟨lo,q - 1⟩,g p))→0≤lo→lo≤p →
    Ord (q - 1) (d++[(⟨lo,q - 1⟩,g p)]):=by
   intro d lo h1 h2 h3 h4 h5
   refine ⟨List.pairwise_append.2 ⟨h1,List.pairwise_singleton ..,fun y hy x hx=>by rw [List.mem_singleton] at hx; subst hx; exact h3 y hy⟩,fun x hx=>?_⟩
   rcases List.mem_append.1 hx with hx | hx
   ·have:=h2 x hx
    exact ⟨this.1,this.2.1,by omega,this.2.2.2⟩
   ·rw [List.mem_singleton] at hx
    subst hx
    exact ⟨h4,by show lo≤q - 1; omega,by show q - 1≤q - 1; omega,hr⟩
  have look:∀ v,lk c v++(if p≤v∧v≤q - 1 then g p else [])=if 0≤v∧v<q then g v else []:=by
   intro v
   rw [h.at_]
   by_cases h1:0≤v∧v<p
   ·rw [if_pos h1,if_neg (show ¬ (p≤v∧v≤q - 1) by omega),if_pos (show 0≤v∧v<q by omega),List.append_nil]
   ·rw [if_neg h1,List.nil_append]
    by_cases h2:p≤v∧v≤q - 1
    ·rw [if_pos h2,if_pos (by omega),hg v h2.1 (by omega)]
    ·rw [if_neg h2,if_neg (by omega)]
  cases hl:c.getLast? with
  | none=>
   rw [List.getLast?_eq_none_iff] at hl
   subst hl
   refine ⟨snoc [] p List.Pairwise.nil (fun _ h=>(by cases h)) (fun _ h=>(by cases h)) hp (Int.le_refl _),fun v=>?_⟩
   rw [lk_app,lk_one]
   exact look v
  | some y=>
   obtain ⟨d,rfl⟩:=List.getLast?_eq_some_iff.1 hl
   have hyo:=h.ord.ok y (List.mem_append_right _ (List.mem_singleton.2 rfl))
   have hpw:=List.pairwise_append.1 h.ord.pw
   have hbe:∀ x∈d,gp x y:=fun x hx=>hpw.2.2 x hx y (List.mem_singleton.2 rfl)
   simp only
   by_cases hj:y.1.Hi + 1=p∧y.2=g p
   ·rw [if_pos hj,List.dropLast_concat]
    refine ⟨snoc d y.1.Lo hpw.1 (fun x hx=>h.ord.ok x (List.mem_append_left _ hx)) (fun x hx=>⟨(hbe x hx).1,by rw [← hj.2]; exact (hbe x hx).2⟩) hyo.1 (by omega),fun v=>?_⟩
    rw [lk_app,lk_one,← look v,lk_app,List.append_assoc]
    congr 1
    obtain ⟨⟨ylo,yhi⟩,yr⟩:=y
    rw [lk_one]
    simp only at hj hyo ⊢
    obtain ⟨h1,rfl⟩:=hj
    by_cases h2:ylo≤v∧v≤yhi
    ·rw [if_pos h2,if_neg (show ¬ (p≤v∧v≤q - 1) by omega),if_pos (show ylo≤v∧v≤q - 1 by omega),List.append_nil]
    ·rw [if_neg h2,List.nil_append]
     by_cases h3:p≤v∧v≤q - 1
     ·rw [if_pos h3,if_pos (show ylo≤v∧v≤q - 1 by omega)]
     ·rw [if_neg h3,if_neg (show ¬ (ylo≤v∧v≤q - 1) by omega)]
   ·rw [if_neg hj]
    refine ⟨snoc (d++[y]) p h.ord.pw h.ord.ok (fun x hx=>⟨?_,fun e1 e2=>?_⟩) hp (Int.le_refl _),fun v=>?_⟩
    ·have:=h.ord.ok x hx
     show x.1.Hi<p
     omega
    ·simp only at e1 e2
     rcases List.mem_append.1 hx with hx | hx
     ·have:=(hbe x hx).1
      omega
     ·rw [List.mem_singleton] at hx
      subst hx
      exact hj ⟨e1,e2⟩
    ·rw [lk_app,lk_one]
     exact look v
theorem Upto.exists_ (g:Int→List (List api_Range)):∀ n:Nat,∃ c,Upto g n c
 | 0=>⟨[],Upto.nil g⟩
 | n + 1=>by
  obtain ⟨c,h⟩:=Upto.exists_ g n
  refine ⟨_,h.step (q:=((n + 1:Nat):Int)) (by omega) (by omega) fun v h1 h2=>?_⟩
  rw [show v=(n:Int) by omega]
structure Is (op:Bool→Bool→Bool) (ts:List Int) (a b l:List (List api_Range)):Prop where
 cf:CF ts l
 mem:∀ p,vP ts p→mS l p=op (mS a p) (mS b p)
theorem Is.inj {op:Bool→Bool→Bool} {ts:List Int} {a b l l':List (List api_Range)} (h:Is op ts a b l) (h':Is op ts a b l'):l=l':=
 CF_inj ts h.cf h'.cf fun p hp=>by rw [h.mem p hp,h'.mem p hp]
theorem Is.exists_ (op:Bool→Bool→Bool):∀ (ts:List Int),(∀ t∈ts,0≤t)→∀ a b,∃ l,Is op ts a b l
 | [],_,a,b=>by
  by_cases h:op (mS a []) (mS b [])=true
  ·exact ⟨[[]],.inr rfl,fun p hp=>by cases p with | nil=>rw [h]; rfl | cons _ _=>exact hp.elim⟩
  ·exact ⟨[],.inl rfl,fun p hp=>by cases p with | nil=>rw [Bool.not_eq_true] at h; rw [h]; rfl | cons _ _=>exact hp.elim⟩
 | t :: ts,ht,a,b=>by
  have ih:=fun v=>Is.exists_ op ts (fun x hx=>ht x (List.mem_cons_of_mem _ hx)) (atv a v) (atv b v)
  have h0:=ht t (List.mem_cons_self ..)
  obtain ⟨c,hc⟩:=Upto.exists_ (fun v=>(ih v).choose) (t + 1).toNat
  have hg:=fun v=>(ih v).choose_spec
  refine ⟨flt c,⟨c,rfl,hc.ord.mono (by omega),fun x hx=>?_⟩,fun p hp=>?_⟩
  ·have hx2:=hc.ord.ok x hx
   have:=hc.at_ x.1.Lo
   rw [lk_mem hc.ord hx (Int.le_refl _) hx2.2.1,if_pos (by omega)] at this
   rw [this]
   exact (hg _).cf
  ·cases p with
   | nil=>exact hp.elim
   | cons v p=>
    rw [mS_cons,atv_flt,hc.at_,if_pos (by have:=hp.1; have:=hp.2.1; omega),(hg v).mem p hp.2.2,mS_cons,mS_cons]
theorem Is.at_ {op:Bool→Bool→Bool} {t:Int} {ts:List Int} {a b:List (List api_Range)} {c:List Cell} (ho:Ord t c) (hc:∀ x∈c,CF ts x.2) (h:Is op (t :: ts) a b (flt c)) {v:Int} (h0:0≤v) (h1:v≤t) :
  Is op ts (atv a v) (atv b v) (lk c v):=
 ⟨CF_lk ho hc v,fun p hp=>by have:=h.mem (v :: p) ⟨h0,h1,hp⟩; rw [mS_cons,mS_cons,mS_cons,atv_flt] at this; exact this⟩
end Go.AM

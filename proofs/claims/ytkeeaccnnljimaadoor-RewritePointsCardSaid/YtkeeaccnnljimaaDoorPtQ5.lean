/- Parts of a proof, printed short. No condition. -/
import Derived.Test.YtkeeaccnnljimaaDoorProg
import Derived.Sort.AssemblyPlain
import Derived.Test.YtkeeaccnnljimaaDoorPtQ4
set_option maxRecDepth 100000
namespace Go.AM
open Go Go.Proofs
def Zdv (s0:List Value) (r:(List Int)):PV→List Blk→Prop:=fun p K=>p=(.tup [])∧K=[.cells (cel Zb r s0)]
abbrev Zfd (s0:List Value) (r:(List Int)):Exit→St→List Blk→Prop:=FnQ Tryd.prog Tryd.f92.results 1 (Zdv s0 r)
theorem Zgr:∀ (nr:Nat) (a0:Nat) (a1:(List Int)) (s0:List Value) (a2:Int) (a3:Int) (a4:Int) (r:(List Int)) (hF:Zs nr a0 a1 a2 a3 a4=some r),ACall Tryd.prog glob 92 [(.vw 0 0 a0),(i64 a2),(i64 a3),(i64 a4)] [.cells (cel Zb a1 s0)] (Zdv s0 r):=by
 intro nr
 induction nr with
 | zero=>intro a0 a1 s0 a2 a3 a4 r hF; exact noneb (by rw [Zs] at hF; exact hF)
 | succ nr ih=>
  intro a0 a1 s0 a2 a3 a4 r hF
  refine ACall.body Tryd.func92 rfl (by kernel_rfl) ?_
  rw [Zs] at hF
  refine .seq (.rg0 [] [(0,(.vw 0 0 a0)),(1,(i64 a2)),(2,(i64 a3)),(3,(i64 a4)),(8,(vb true))] ?_)
  refine .seq (.rg0 [] [(0,(.vw 0 0 a0)),(1,(i64 a2)),(2,(i64 a3)),(3,(i64 a4)),(8,(vb true)),(9,(vb true))] ?_)
  obtain ⟨o154,h155,hF⟩:=bindb hF
  refine AWP.mid (fun e st H=>(e=.ret∧∃ (r:(List Int)),o154=r∧Zfd s0 r e st H)) ?_ ?_
  ·clear hF
   refine AWP.kp [0,1,2,3,8,9] 1 ?_
   refine AWP.bround (fun n st H=>∃ (v77:(List Int)),∃ (v78:Int),∃ (v79:Int),∃ (v80:Int),∃ (v81:Bool),∃ (v82:Bool),Zad a0 (Zs nr) n v77 v78 v79 v80 v81 v82=some o154∧st=[(0,(.vw 0 0 a0)),(1,(i64 v78)),(2,(i64 v79)),(3,(i64 v80)),(8,(vb v81)),(9,(vb v82))]∧H=[.cells (cel Zb v77 s0)]) fuel ⟨a1,a2,a3,a4,true,true,h155,by kernel_rfl,by kernel_rfl⟩ ?_
   rintro n156 st H ⟨v77,v78,v79,v80,v81,v82,hF,rfl,rfl⟩
   cases n156 with
   | zero=>exact noneb hF
   | succ n156=>
    rw [Zad] at hF
    refine AWP.block ?_
    refine .seq (.rg0 [] [(0,(.vw 0 0 a0)),(1,(i64 v78)),(2,(i64 v79)),(3,(i64 v80)),(8,(vb v81)),(9,(vb v82)),(10,(i64 (IntKind.wrap .i64 (v79 - v78))))] ?_)
    refine AWP.seq ?_
    refine .seq (.rg0 [] [(0,(.vw 0 0 a0)),(1,(i64 v78)),(2,(i64 v79)),(3,(i64 v80)),(8,(vb v81)),(9,(vb v82)),(10,(i64 (IntKind.wrap .i64 (v79 - v78)))),(23,(vb (decide ((IntKind.wrap .i64 (v79 - v78))≤(12:Int)))))] ?_)
    refine AWP.cif hF (fun h227 hF=>?_) (fun h227 hF=>?_)
    ·refine AWP.seq ?_
     obtain ⟨r157,h158,hF⟩:=bindb hF
     refine AWP.rg [(3,.callC Tryd.func94 [] (closedH.c (cel_closed (row:=Zb) (fun _=>rfl) v77 s0) closedH.n) (closedH.c (cel_closed (row:=Zb) (fun _=>rfl) r157 s0) closedH.n) (Zf2 a0 v77 s0 v78 v79 r157 h158))] [] [.cells (cel Zb r157 s0)] ?_
     refine AWP.ret ?_
     exact LeQ.of ⟨rfl,r157,(someb hF).symm,(FnQ.f0 1 (.inr rfl))⟩
    ·refine AWP.skip ?_
     refine AWP.seq ?_
     refine .seq (.rg0 [] [(0,(.vw 0 0 a0)),(1,(i64 v78)),(2,(i64 v79)),(3,(i64 v80)),(8,(vb v81)),(9,(vb v82)),(10,(i64 (IntKind.wrap .i64 (v79 - v78)))),(29,(vb (v80 == (0:Int))))] ?_)
     refine AWP.cif hF (fun h226 hF=>?_) (fun h226 hF=>?_)
     ·refine AWP.seq ?_
      obtain ⟨r159,h160,hF⟩:=bindb hF
      refine AWP.rg [(3,.callC Tryd.func95 [] (closedH.c (cel_closed (row:=Zb) (fun _=>rfl) v77 s0) closedH.n) (closedH.c (cel_closed (row:=Zb) (fun _=>rfl) r159 s0) closedH.n) (Zgx a0 v77 s0 v78 v79 r159 h160))] [] [.cells (cel Zb r159 s0)] ?_
      refine AWP.ret ?_
      exact LeQ.of ⟨rfl,r159,(someb hF).symm,(FnQ.f0 1 (.inr rfl))⟩
     ·refine AWP.skip ?_
      obtain ⟨o166,h167,hF⟩:=bindb hF
      refine AWP.seq ?_
      refine AWP.mid (fun e st H=>(e=.normal∧∃ (v164:(List Int)),∃ (v165:Int),o166=(v164,v165)∧st=[(0,(.vw 0 0 a0)),(1,(i64 v78)),(2,(i64 v79)),(3,(i64 v165)),(8,(vb v81)),(9,(vb v82)),(10,(i64 (IntKind.wrap .i64 (v79 - v78))))]∧H=[.cells (cel Zb v164 s0)])) ?_ ?_
      ·clear hF
       have hF:=h167
       refine .seq (.rg0 [] [(0,(.vw 0 0 a0)),(1,(i64 v78)),(2,(i64 v79)),(3,(i64 v80)),(8,(vb v81)),(9,(vb v82)),(10,(i64 (IntKind.wrap .i64 (v79 - v78)))),(35,(vb (!v81)))] ?_)
       refine AWP.cif hF (fun h170 hF=>?_) (fun h170 hF=>?_)
       ·refine AWP.seq ?_
        obtain ⟨r168,h169,hF⟩:=bindb hF
        refine AWP.rg [(3,.callC Tryd.func96 [] (closedH.c (cel_closed (row:=Zb) (fun _=>rfl) v77 s0) closedH.n) (closedH.c (cel_closed (row:=Zb) (fun _=>rfl) r168 s0) closedH.n) (Zf4 a0 v77 s0 v78 v79 r168 h169))] [(0,(.vw 0 0 a0)),(1,(i64 v78)),(2,(i64 v79)),(3,(i64 v80)),(8,(vb v81)),(9,(vb v82)),(10,(i64 (IntKind.wrap .i64 (v79 - v78))))] [.cells (cel Zb r168 s0)] ?_
        refine AWP.rg0 [] [(0,(.vw 0 0 a0)),(1,(i64 v78)),(2,(i64 v79)),(3,(i64 (IntKind.wrap .i64 (v80 - (1:Int))))),(8,(vb v81)),(9,(vb v82)),(10,(i64 (IntKind.wrap .i64 (v79 - v78))))] ?_
        refine LeQ.start ?_
        refine LeQ.pk [0,1,2,3,8,9,10] 1 ?_
        exact ⟨rfl,r168,(IntKind.wrap .i64 (v80 - (1:Int))),(someb hF).symm,by kernel_rfl,by kernel_rfl⟩
       ·refine AWP.skip ?_
        refine LeQ.start ?_
        refine LeQ.pk [0,1,2,3,8,9,10] 1 ?_
        exact ⟨rfl,v77,v80,(someb hF).symm,by kernel_rfl,by kernel_rfl⟩
      ·rintro _ _ _ ⟨rfl,v164,v165,rfl,rfl,rfl⟩
       refine AWP.seq ?_
       obtain ⟨r171,h172,hF⟩:=bindb hF
       refine AWP.rg0 [(3,.callC Tryd.func97 [] (closedH.c (cel_closed (row:=Zb) (fun _=>rfl) v164 s0) closedH.n) (closedH.c (cel_closed (row:=Zb) (fun _=>rfl) v164 s0) closedH.n) (Zgh a0 v164 s0 v78 v79 r171 h172))] [(0,(.vw 0 0 a0)),(1,(i64 v78)),(2,(i64 v79)),(3,(i64 v165)),(8,(vb v81)),(9,(vb v82)),(10,(i64 (IntKind.wrap .i64 (v79 - v78)))),(11,(i64 r171.1)),(12,(i64 r171.2))] ?_
       obtain ⟨o179,h180,hF⟩:=bindb hF
       refine AWP.seq ?_
       refine AWP.mid (fun e st H=>(e=.normal∧∃ (v176:(List Int)),∃ (v177:Int),∃ (v178:Int),o179=(v176,v177,v178)∧st=[(0,(.vw 0 0 a0)),(1,(i64 v78)),(2,(i64 v79)),(3,(i64 v165)),(8,(vb v81)),(9,(vb v82)),(10,(i64 (IntKind.wrap .i64 (v79 - v78)))),(11,(i64 v177)),(12,(i64 v178))]∧H=[.cells (cel Zb v176 s0)])) ?_ ?_
       ·clear hF
        have hF:=h180
        refine .seq (.rg0 [] [(0,(.vw 0 0 a0)),(1,(i64 v78)),(2,(i64 v79)),(3,(i64 v165)),(8,(vb v81)),(9,(vb v82)),(10,(i64 (IntKind.wrap .i64 (v79 - v78)))),(11,(i64 r171.1)),(12,(i64 r171.2)),(50,(vb (r171.2 == (2:Int))))] ?_)
        refine AWP.cif hF (fun h183 hF=>?_) (fun h183 hF=>?_)
        ·refine AWP.seq ?_
         obtain ⟨r181,h182,hF⟩:=bindb hF
         refine AWP.rg [(3,.callC Tryd.func98 [] (closedH.c (cel_closed (row:=Zb) (fun _=>rfl) v164 s0) closedH.n) (closedH.c (cel_closed (row:=Zb) (fun _=>rfl) r181 s0) closedH.n) (Zgb a0 v164 s0 v78 v79 r181 h182))] [(0,(.vw 0 0 a0)),(1,(i64 v78)),(2,(i64 v79)),(3,(i64 v165)),(8,(vb v81)),(9,(vb v82)),(10,(i64 (IntKind.wrap .i64 (v79 - v78)))),(11,(i64 r171.1))] [.cells (cel Zb r181 s0)] ?_
         refine .seq (.rg0 [] [(0,(.vw 0 0 a0)),(1,(i64 v78)),(2,(i64 v79)),(3,(i64 v165)),(8,(vb v81)),(9,(vb v82)),(10,(i64 (IntKind.wrap .i64 (v79 - v78)))),(11,(i64 (IntKind.wrap .i64 ((IntKind.wrap .i64 (v79 - (1:Int))) - (IntKind.wrap .i64 (r171.1 - v78))))))] ?_)
         refine AWP.rg0 [] [(0,(.vw 0 0 a0)),(1,(i64 v78)),(2,(i64 v79)),(3,(i64 v165)),(8,(vb v81)),(9,(vb v82)),(10,(i64 (IntKind.wrap .i64 (v79 - v78)))),(11,(i64 (IntKind.wrap .i64 ((IntKind.wrap .i64 (v79 - (1:Int))) - (IntKind.wrap .i64 (r171.1 - v78)))))),(12,(i64 (1:Int)))] ?_
         refine LeQ.start ?_
         refine LeQ.pk [0,1,2,3,8,9,10,11,12] 1 ?_
         exact ⟨rfl,r181,(IntKind.wrap .i64 ((IntKind.wrap .i64 (v79 - (1:Int))) - (IntKind.wrap .i64 (r171.1 - v78)))),(1:Int),(someb hF).symm,by kernel_rfl,by kernel_rfl⟩
        ·refine AWP.skip ?_
         refine LeQ.start ?_
         refine LeQ.pk [0,1,2,3,8,9,10,11,12] 1 ?_
         exact ⟨rfl,v164,r171.1,r171.2,(someb hF).symm,by kernel_rfl,by kernel_rfl⟩
       ·rintro _ _ _ ⟨rfl,v176,v177,v178,rfl,rfl,rfl⟩
        obtain ⟨o193,h194,hF⟩:=bindb hF
        refine AWP.seq ?_
        refine AWP.mid (fun e st H=>(e=.normal∧∃ (v192:(List Int)),o193=(.inl v192)∧st=[(0,(.vw 0 0 a0)),(1,(i64 v78)),(2,(i64 v79)),(3,(i64 v165)),(8,(vb v81)),(9,(vb v82)),(10,(i64 (IntKind.wrap .i64 (v79 - v78)))),(11,(i64 v177))]∧H=[.cells (cel Zb v192 s0)])∨(e=.ret∧∃ (r:(List Int)),o193=(.inr r)∧Zfd s0 r e st H)) ?_ ?_
        ·clear hF
         have hF:=h194
         refine AWP.seq ?_
         obtain ⟨b195,h196,hF⟩:=bindb hF
         replace h196:=someb h196
         obtain ⟨b197,h198,hF⟩:=bindb hF
         replace h198:=someb h198
         refine AWP.to [(0,(.vw 0 0 a0)),(1,(i64 v78)),(2,(i64 v79)),(3,(i64 v165)),(8,(vb v81)),(9,(vb v82)),(10,(i64 (IntKind.wrap .i64 (v79 - v78)))),(11,(i64 v177)),(68,(vb (b197 && (v178 == (1:Int)))))] [.cells (cel Zb v176 s0)] ?_ ?_
         ·cases b195 with
          | false=>
           subst h198
           exact AWP.rgT [(1,.bool h196)]
          | true=>
           cases b197 with
           | false=>
            exact AWP.rgT [(1,.bool h196),(4,.bool h198)]
           | true=>
            exact AWP.rgT [(1,.bool h196),(4,.bool h198)]
         refine AWP.cif hF (fun h202 hF=>?_) (fun h202 hF=>?_)
         ·refine AWP.seq ?_
          obtain ⟨r199,h200,hF⟩:=bindb hF
          refine AWP.rg [(3,.callC Tryd.func99 [] (closedH.c (cel_closed (row:=Zb) (fun _=>rfl) v176 s0) closedH.n) (closedH.c (cel_closed (row:=Zb) (fun _=>rfl) r199.2 s0) closedH.n) (Zfi a0 v176 s0 v78 v79 r199 h200))] [(0,(.vw 0 0 a0)),(1,(i64 v78)),(2,(i64 v79)),(3,(i64 v165)),(8,(vb v81)),(9,(vb v82)),(10,(i64 (IntKind.wrap .i64 (v79 - v78)))),(11,(i64 v177)),(72,(vb r199.1))] [.cells (cel Zb r199.2 s0)] ?_
          refine AWP.cif hF (fun h201 hF=>?_) (fun h201 hF=>?_)
          ·refine AWP.ret ?_
           exact LeQ.of (.inr ⟨rfl,r199.2,(someb hF).symm,(FnQ.f0 1 (.inr rfl))⟩)
          ·refine AWP.skip ?_
           refine LeQ.start ?_
           refine LeQ.pk [0,1,2,3,8,9,10,11] 1 ?_
           exact (.inl ⟨rfl,r199.2,(someb hF).symm,by kernel_rfl,by kernel_rfl⟩)
         ·refine AWP.skip ?_
          refine LeQ.start ?_
          refine LeQ.pk [0,1,2,3,8,9,10,11] 1 ?_
          exact (.inl ⟨rfl,v176,(someb hF).symm,by kernel_rfl,by kernel_rfl⟩)
        ·rintro _ _ _ (⟨rfl,v192,rfl,rfl,rfl⟩ | ⟨rfl,r225,rfl,hq⟩)
         ·refine AWP.seq ?_
          refine AWP.seq ?_
          obtain ⟨b203,h204,hF⟩:=bindb hF
          replace h204:=someb h204
          obtain ⟨v211,h212,hF⟩:=bindb hF
          refine AWP.to [(0,(.vw 0 0 a0)),(1,(i64 v78)),(2,(i64 v79)),(3,(i64 v165)),(8,(vb v81)),(9,(vb v82)),(10,(i64 (IntKind.wrap .i64 (v79 - v78)))),(11,(i64 v177)),(87,(vb v211))] [.cells (cel Zb v192 s0)] ?_ ?_
          ·cases b203 with
           | false=>
            have h213:=someb (ifF h212 rfl)
            subst h213
            exact AWP.drT [(2,.bool h204)] 15 [] [] []
           | true=>
            have h214:=ifT h212 rfl
            obtain ⟨x205,h206,h214⟩:=bindb h214
            obtain ⟨x207,h208,h214⟩:=bindb h214
            obtain ⟨r209,h210,h214⟩:=bindb h214
            replace h214:=someb h214
            subst h214
            exact AWP.drT [(2,.bool h204),(6,.idxV (idxn_lt h206)),(7,.ldV Zb (s:=1) (fun _=>rfl) s0 (idxn_idx h206) (0 + Int.toNat (IntKind.wrap .i64 (v78 - (1:Int))) * 1) (Nat.zero_add _) []),(10,.idxV (idxn_lt h208)),(11,.ldV Zb (s:=1) (fun _=>rfl) s0 (idxn_idx h208) (0 + Int.toNat v177 * 1) (Nat.zero_add _) []),(12,.call Tryd.func100 [] (Zav x205 x207 r209 h210))] 15 [] [] []
          refine AWP.cif hF (fun h224 hF=>?_) (fun h224 hF=>?_)
          ·refine AWP.seq ?_
           obtain ⟨r215,h216,hF⟩:=bindb hF
           refine AWP.rg [(4,.callC Tryd.func101 [] (closedH.c (cel_closed (row:=Zb) (fun _=>rfl) v192 s0) closedH.n) (closedH.c (cel_closed (row:=Zb) (fun _=>rfl) r215.2 s0) closedH.n) (Zfz a0 v192 s0 v78 v79 v177 r215 h216))] [(0,(.vw 0 0 a0)),(2,(i64 v79)),(3,(i64 v165)),(8,(vb v81)),(9,(vb v82)),(13,(i64 r215.1))] [.cells (cel Zb r215.2 s0)] ?_
           refine .seq (.rg0 [] [(0,(.vw 0 0 a0)),(1,(i64 r215.1)),(2,(i64 v79)),(3,(i64 v165)),(8,(vb v81)),(9,(vb v82))] ?_)
           refine AWP.exit ?_
           refine LeQ.start ?_
           refine LeQ.pk [0,1,2,3,8,9] 1 ?_
           exact ⟨n156,Nat.lt_succ_self _,r215.2,r215.1,v79,v165,v81,v82,hF,by kernel_rfl,by kernel_rfl⟩
          ·refine AWP.skip ?_
           refine AWP.seq ?_
           obtain ⟨r217,h218,hF⟩:=bindb hF
           refine AWP.rg [(4,.callC Tryd.func102 [] (closedH.c (cel_closed (row:=Zb) (fun _=>rfl) v192 s0) closedH.n) (closedH.c (cel_closed (row:=Zb) (fun _=>rfl) r217.2.2 s0) closedH.n) (Zgq a0 v192 s0 v78 v79 v177 r217 h218))] [(0,(.vw 0 0 a0)),(1,(i64 v78)),(2,(i64 v79)),(3,(i64 v165)),(10,(i64 (IntKind.wrap .i64 (v79 - v78)))),(14,(i64 r217.1)),(15,(vb r217.2.1))] [.cells (cel Zb r217.2.2 s0)] ?_
           refine .seq (.rg0 [] [(0,(.vw 0 0 a0)),(1,(i64 v78)),(2,(i64 v79)),(3,(i64 v165)),(9,(vb r217.2.1)),(10,(i64 (IntKind.wrap .i64 (v79 - v78)))),(14,(i64 r217.1))] ?_)
           refine .seq (.rg0 [] [(0,(.vw 0 0 a0)),(1,(i64 v78)),(2,(i64 v79)),(3,(i64 v165)),(9,(vb r217.2.1)),(10,(i64 (IntKind.wrap .i64 (v79 - v78)))),(14,(i64 r217.1)),(16,(i64 (IntKind.wrap .i64 (r217.1 - v78)))),(17,(i64 (IntKind.wrap .i64 (v79 - r217.1))))] ?_)
           refine .seq (.rg0 [] [(0,(.vw 0 0 a0)),(1,(i64 v78)),(2,(i64 v79)),(3,(i64 v165)),(9,(vb r217.2.1)),(14,(i64 r217.1)),(16,(i64 (IntKind.wrap .i64 (r217.1 - v78)))),(17,(i64 (IntKind.wrap .i64 (v79 - r217.1)))),(18,(i64 (IntKind.wrap .i64 (Int.tdiv (IntKind.wrap .i64 (v79 - v78)) (8:Int)))))] ?_)
           refine .seq (.rg0 [] [(0,(.vw 0 0 a0)),(1,(i64 v78)),(2,(i64 v79)),(3,(i64 v165)),(9,(vb r217.2.1)),(14,(i64 r217.1)),(16,(i64 (IntKind.wrap .i64 (r217.1 - v78)))),(17,(i64 (IntKind.wrap .i64 (v79 - r217.1)))),(18,(i64 (IntKind.wrap .i64 (Int.tdiv (IntKind.wrap .i64 (v79 - v78)) (8:Int))))),(113,(vb (decide ((IntKind.wrap .i64 (r217.1 - v78))<(IntKind.wrap .i64 (v79 - r217.1))))))] ?_)
           refine AWP.cif hF (fun h223 hF=>?_) (fun h223 hF=>?_)
           ·refine .seq (.rg0 [] [(0,(.vw 0 0 a0)),(1,(i64 v78)),(2,(i64 v79)),(3,(i64 v165)),(8,(vb (decide ((IntKind.wrap .i64 (r217.1 - v78)) ≥ (IntKind.wrap .i64 (Int.tdiv (IntKind.wrap .i64 (v79 - v78)) (8:Int))))))),(9,(vb r217.2.1)),(14,(i64 r217.1))] ?_)
            refine AWP.seq ?_
            obtain ⟨r219,h220,hF⟩:=bindb hF
            refine AWP.rg [(4,.callC Tryd.func92 [] (closedH.c (cel_closed (row:=Zb) (fun _=>rfl) r217.2.2 s0) closedH.n) (closedH.c (cel_closed (row:=Zb) (fun _=>rfl) r219 s0) closedH.n) (ih a0 r217.2.2 s0 v78 r217.1 v165 r219 h220))] [(0,(.vw 0 0 a0)),(2,(i64 v79)),(3,(i64 v165)),(8,(vb (decide ((IntKind.wrap .i64 (r217.1 - v78)) ≥ (IntKind.wrap .i64 (Int.tdiv (IntKind.wrap .i64 (v79 - v78)) (8:Int))))))),(9,(vb r217.2.1)),(14,(i64 r217.1))] [.cells (cel Zb r219 s0)] ?_
            refine AWP.rg0 [] [(0,(.vw 0 0 a0)),(1,(i64 (IntKind.wrap .i64 (r217.1 + (1:Int))))),(2,(i64 v79)),(3,(i64 v165)),(8,(vb (decide ((IntKind.wrap .i64 (r217.1 - v78)) ≥ (IntKind.wrap .i64 (Int.tdiv (IntKind.wrap .i64 (v79 - v78)) (8:Int))))))),(9,(vb r217.2.1))] ?_
            refine LeQ.start ?_
            refine LeQ.pk [0,1,2,3,8,9] 1 ?_
            exact ⟨n156,Nat.lt_succ_self _,r219,(IntKind.wrap .i64 (r217.1 + (1:Int))),v79,v165,(decide ((IntKind.wrap .i64 (r217.1 - v78)) ≥ (IntKind.wrap .i64 (Int.tdiv (IntKind.wrap .i64 (v79 - v78)) (8:Int))))),r217.2.1,hF,by kernel_rfl,by kernel_rfl⟩
           ·refine .seq (.rg0 [] [(0,(.vw 0 0 a0)),(1,(i64 v78)),(2,(i64 v79)),(3,(i64 v165)),(8,(vb (decide ((IntKind.wrap .i64 (v79 - r217.1)) ≥ (IntKind.wrap .i64 (Int.tdiv (IntKind.wrap .i64 (v79 - v78)) (8:Int))))))),(9,(vb r217.2.1)),(14,(i64 r217.1))] ?_)
            refine AWP.seq ?_
            obtain ⟨r221,h222,hF⟩:=bindb hF
            refine AWP.rg [(5,.callC Tryd.func92 [] (closedH.c (cel_closed (row:=Zb) (fun _=>rfl) r217.2.2 s0) closedH.n) (closedH.c (cel_closed (row:=Zb) (fun _=>rfl) r221 s0) closedH.n) (ih a0 r217.2.2 s0 (IntKind.wrap .i64 (r217.1 + (1:Int))) v79 v165 r221 h222))] [(0,(.vw 0 0 a0)),(1,(i64 v78)),(3,(i64 v165)),(8,(vb (decide ((IntKind.wrap .i64 (v79 - r217.1)) ≥ (IntKind.wrap .i64 (Int.tdiv (IntKind.wrap .i64 (v79 - v78)) (8:Int))))))),(9,(vb r217.2.1)),(14,(i64 r217.1))] [.cells (cel Zb r221 s0)] ?_
            refine AWP.rg0 [] [(0,(.vw 0 0 a0)),(1,(i64 v78)),(2,(i64 r217.1)),(3,(i64 v165)),(8,(vb (decide ((IntKind.wrap .i64 (v79 - r217.1)) ≥ (IntKind.wrap .i64 (Int.tdiv (IntKind.wrap .i64 (v79 - v78)) (8:Int))))))),(9,(vb r217.2.1))] ?_
            refine LeQ.start ?_
            refine LeQ.pk [0,1,2,3,8,9] 1 ?_
            exact ⟨n156,Nat.lt_succ_self _,r221,v78,r217.1,v165,(decide ((IntKind.wrap .i64 (v79 - r217.1)) ≥ (IntKind.wrap .i64 (Int.tdiv (IntKind.wrap .i64 (v79 - v78)) (8:Int))))),r217.2.1,hF,by kernel_rfl,by kernel_rfl⟩
         ·exact LeQ.of ⟨rfl,r225,(someb hF).symm,hq⟩
  ·rintro _ _ _ ⟨rfl,r228,rfl,hq⟩
   have hr:=someb hF
   subst hr
   exact hq
theorem Zg6 (a0:Nat) (a1:(List Int)) (s0:List Value) (a2:Int) (a3:Int) (a4:Int) (r:(List Int)) (hF:Zs fuel a0 a1 a2 a3 a4=some r):ACall Tryd.prog glob 92 [(.vw 0 0 a0),(i64 a2),(i64 a3),(i64 a4)] [.cells (cel Zb a1 s0)] (Zdv s0 r):=Zgr fuel a0 a1 s0 a2 a3 a4 r hF
def Zhl (s0:List Value) (r:(List Int)):PV→List Blk→Prop:=fun p K=>p=(.tup [])∧K=[.cells (cel Zb r s0)]
theorem Zhm (a0:Nat) (a1:(List Int)) (s0:List Value) (r:(List Int)) (hF:Zcn a0 a1=some r):ACall Tryd.prog glob 90 [(.vw 0 0 a0)] [.cells (cel Zb a1 s0)] (Zhl s0 r):=by
 refine ACall.body Tryd.func90 rfl (by kernel_rfl) ?_
 unfold Zcn at hF
 refine .seq (.rg0 [(1,.lenV a0)] [(0,(.vw 0 0 a0)),(2,(i64 (a0:Int)))] ?_)
 obtain ⟨r1,h2,hF⟩:=bindb hF
 obtain ⟨r3,h4,hF⟩:=bindb hF
 refine AWP.rg [(4,.call Tryd.func93 [] (Zif (IntKind.wrap .u64 (a0:Int)) r1 h2)),(5,.callC Tryd.func92 [] (closedH.c (cel_closed (row:=Zb) (fun _=>rfl) a1 s0) closedH.n) (closedH.c (cel_closed (row:=Zb) (fun _=>rfl) r3 s0) closedH.n) (Zg6 a0 a1 s0 (0:Int) (a0:Int) r1 r3 h4))] [] [.cells (cel Zb r3 s0)] ?_
 have hr:=someb hF
 subst hr
 exact (FnQ.f0 1 (.inl rfl))
def Zfe (s0:List Value) (r:(Nat × (List Int))):PV→List Blk→Prop:=fun p K=>p=(.vw 0 0 r.1)∧K=[.cells (cel Zb r.2 s0)]
abbrev Zg7 (s0:List Value) (r:(Nat × (List Int))):Exit→St→List Blk→Prop:=FnQ Tryd.prog Tryd.f91.results 1 (Zfe s0 r)
theorem Zg8 (a0:Nat) (a1:(List Int)) (s0:List Value) (r:(Nat × (List Int))) (hF:Zb8 a0 a1=some r):ACall Tryd.prog glob 91 [(.vw 0 0 a0)] [.cells (cel Zb a1 s0)] (Zfe s0 r):=by
 refine ACall.body Tryd.func91 rfl (by kernel_rfl) ?_
 unfold Zb8 at hF
 refine .seq (.rg0 [] [(0,(.vw 0 0 a0))] ?_)
 refine AWP.seq ?_
 refine .seq (.rg0 [(1,.lenV a0)] [(0,(.vw 0 0 a0)),(8,(vb (decide ((a0:Int)<(2:Int)))))] ?_)
 refine AWP.cif hF (fun h184 hF=>?_) (fun h184 hF=>?_)
 ·refine .seq (.rg0 [] [(2,(.vw 0 0 a0))] ?_)
  refine AWP.ret ?_
  have hr:=someb hF
  subst hr
  exact (FnQ.f0 1 (.inr rfl))
 ·refine AWP.skip ?_
  refine AWP.seq ?_
  refine .seq (.rg0 [] [(0,(.vw 0 0 a0)),(3,(i64 (1:Int)))] ?_)
  obtain ⟨o91,h92,hF⟩:=bindb hF
  refine AWP.mid (fun e st H=>(e=.normal∧o91=(.inl ())∧st=[(0,(.vw 0 0 a0))]∧H=[.cells (cel Zb a1 s0)])∨(e=.ret∧∃ (r:(Nat × (List Int))),o91=(.inr r)∧Zg7 s0 r e st H)) ?_ ?_
  ·clear hF
   refine AWP.kp [0,3] 1 ?_
   refine AWP.bround (fun n st H=>∃ (v1:Int),Zas a0 a1 n v1=some o91∧st=[(0,(.vw 0 0 a0)),(3,(i64 v1))]∧H=[.cells (cel Zb a1 s0)]) fuel ⟨(1:Int),h92,by kernel_rfl,by kernel_rfl⟩ ?_
   rintro n93 st H ⟨v1,hF,rfl,rfl⟩
   cases n93 with
   | zero=>exact noneb hF
   | succ n93=>
    rw [Zas] at hF
    refine AWP.seq ?_
    refine .seq (.rg0 [(2,.lenV a0)] [(0,(.vw 0 0 a0)),(3,(i64 v1)),(13,(vb (decide (v1<(a0:Int)))))] ?_)
    refine AWP.cif hF (fun h182 hF=>?_) (fun h182 hF=>?_)
    ·refine AWP.skip ?_
     refine AWP.seq ?_
     refine AWP.block ?_
     refine AWP.seq ?_
     obtain ⟨x94,h95,hF⟩:=bindb hF
     obtain ⟨x96,h97,hF⟩:=bindb hF
     refine AWP.dr [(2,.idxV (idxn_lt h95)),(3,.ldV Zb (s:=1) (fun _=>rfl) s0 (idxn_idx h95) (0 + Int.toNat v1 * 1) (Nat.zero_add _) []),(7,.idxV (idxn_lt h97)),(8,.ldV Zb (s:=1) (fun _=>rfl) s0 (idxn_idx h97) (0 + Int.toNat (IntKind.wrap .i64 (v1 - (1:Int))) * 1) (Nat.zero_add _) [])] 10 [] [] [] [(0,(.vw 0 0 a0)),(3,(i64 v1)),(25,(vb (x94 == x96)))] [.cells (cel Zb a1 s0)] ?_
     refine AWP.cif hF (fun h181 hF=>?_) (fun h181 hF=>?_)
     ·refine AWP.seq ?_
      obtain ⟨h98,hF⟩:=chkb hF
      refine AWP.rg0 [(2,.sliceV h98)] [(0,(.vw 0 0 a0)),(3,(i64 v1)),(4,(.vw 0 (0 + Int.toNat v1 * 1) (Int.toNat (a0:Int) - Int.toNat v1)))] ?_
      refine AWP.seq ?_
      refine .seq (.rg0 [] [(0,(.vw 0 0 a0)),(3,(i64 v1)),(4,(.vw 0 (0 + Int.toNat v1 * 1) (Int.toNat (a0:Int) - Int.toNat v1))),(5,(i64 (1:Int)))] ?_)
      obtain ⟨o152,h153,hF⟩:=bindb hF
      refine AWP.mid (fun e st H=>(e=.normal∧∃ (v150:(List Int)),∃ (v151:Int),o152=(v150,v151)∧st=[(0,(.vw 0 0 a0)),(3,(i64 v151))]∧H=[.cells (cel Zb v150 s0)])) ?_ ?_
      ·clear hF
       refine AWP.kp [0,3,4,5] 1 ?_
       refine AWP.bround (fun n st H=>∃ (v124:(List Int)),∃ (v125:Int),∃ (v126:Int),Zar a0 v1 n v124 v125 v126=some o152∧st=[(0,(.vw 0 0 a0)),(3,(i64 v125)),(4,(.vw 0 (0 + Int.toNat v1 * 1) (Int.toNat (a0:Int) - Int.toNat v1))),(5,(i64 v126))]∧H=[.cells (cel Zb v124 s0)]) fuel ⟨a1,v1,(1:Int),h153,by kernel_rfl,by kernel_rfl⟩ ?_
       rintro n154 st H ⟨v124,v125,v126,hF,rfl,rfl⟩
       cases n154 with
       | zero=>exact noneb hF
       | succ n154=>
        rw [Zar] at hF
        refine AWP.seq ?_
        refine .seq (.rg0 [(2,.lenV (Int.toNat (a0:Int) - Int.toNat v1))] [(0,(.vw 0 0 a0)),(3,(i64 v125)),(4,(.vw 0 (0 + Int.toNat v1 * 1) (Int.toNat (a0:Int) - Int.toNat v1))),(5,(i64 v126)),(32,(vb (decide (v126<(((Int.toNat (a0:Int) - Int.toNat v1):Nat):Int)))))] ?_)
        refine AWP.cif hF (fun h177 hF=>?_) (fun h177 hF=>?_)
        ·refine AWP.skip ?_
         obtain ⟨o166,h167,hF⟩:=bindb hF
         refine AWP.seq ?_
         refine AWP.mid (fun e st H=>(e=.normal∧∃ (v164:(List Int)),∃ (v165:Int),o166=(v164,v165)∧st=[(0,(.vw 0 0 a0)),(3,(i64 v165)),(4,(.vw 0 (0 + Int.toNat v1 * 1) (Int.toNat (a0:Int) - Int.toNat v1))),(5,(i64 v126))]∧H=[.cells (cel Zb v164 s0)])) ?_ ?_
         ·clear hF
          have hF:=h167
          refine AWP.block ?_
          refine AWP.seq ?_
          obtain ⟨x168,h169,hF⟩:=bindb hF
          obtain ⟨x170,h171,hF⟩:=bindb hF
          refine AWP.dr [(2,.idxV (idxv_lt h169)),(3,.ldV Zb (s:=1) (fun _=>rfl) s0 (idxv_idx h169) ((0 + Int.toNat v1 * 1) + Int.toNat v126 * 1) (off_add h98.1 (idxv_lt h169).1 _) []),(7,.idxV (idxv_lt h171)),(8,.ldV Zb (s:=1) (fun _=>rfl) s0 (idxv_idx h171) ((0 + Int.toNat v1 * 1) + Int.toNat (IntKind.wrap .i64 (v126 - (1:Int))) * 1) (off_add h98.1 (idxv_lt h171).1 _) [])] 10 [] [] [] [(0,(.vw 0 0 a0)),(3,(i64 v125)),(4,(.vw 0 (0 + Int.toNat v1 * 1) (Int.toNat (a0:Int) - Int.toNat v1))),(5,(i64 v126)),(44,(vb (x168 != x170)))] [.cells (cel Zb v124 s0)] ?_
          refine AWP.cif hF (fun h176 hF=>?_) (fun h176 hF=>?_)
          ·refine AWP.seq ?_
           obtain ⟨x172,h173,hF⟩:=bindb hF
           obtain ⟨x174,h175,hF⟩:=bindb hF
           refine AWP.rg [(4,.idxV (idxv_lt h173)),(5,.ldV Zb (s:=1) (fun _=>rfl) s0 (idxv_idx h173) ((0 + Int.toNat v1 * 1) + Int.toNat v126 * 1) (off_add h98.1 (idxv_lt h173).1 _) []),(6,.idxV (idxn_lt h175)),(7,.stV Zb (s:=1) (fun _=>rfl) s0 (idxn_idx h175) x172 (0 + Int.toNat v125 * 1) (Nat.zero_add _) [])] [(0,(.vw 0 0 a0)),(3,(i64 v125)),(4,(.vw 0 (0 + Int.toNat v1 * 1) (Int.toNat (a0:Int) - Int.toNat v1))),(5,(i64 v126))] [.cells (cel Zb (List.set v124 (Int.toNat v125) x172) s0)] ?_
           refine AWP.rg0 [] [(0,(.vw 0 0 a0)),(3,(i64 (IntKind.wrap .i64 (v125 + (1:Int))))),(4,(.vw 0 (0 + Int.toNat v1 * 1) (Int.toNat (a0:Int) - Int.toNat v1))),(5,(i64 v126))] ?_
           refine LeQ.start ?_
           refine LeQ.pk [0,3,4,5] 1 ?_
           exact ⟨rfl,(List.set v124 (Int.toNat v125) x172),(IntKind.wrap .i64 (v125 + (1:Int))),(someb hF).symm,by kernel_rfl,by kernel_rfl⟩
          ·refine AWP.skip ?_
           refine LeQ.start ?_
           refine LeQ.pk [0,3,4,5] 1 ?_
           exact ⟨rfl,v124,v125,(someb hF).symm,by kernel_rfl,by kernel_rfl⟩
         ·rintro _ _ _ ⟨rfl,v164,v165,rfl,rfl,rfl⟩
          refine AWP.rg0 [] [(0,(.vw 0 0 a0)),(3,(i64 v165)),(4,(.vw 0 (0 + Int.toNat v1 * 1) (Int.toNat (a0:Int) - Int.toNat v1))),(5,(i64 (IntKind.wrap .i64 (v126 + (1:Int)))))] ?_
          refine LeQ.start ?_
          refine LeQ.pk [0,3,4,5] 1 ?_
          exact ⟨n154,Nat.lt_succ_self _,v164,v165,(IntKind.wrap .i64 (v126 + (1:Int))),hF,by kernel_rfl,by kernel_rfl⟩
        ·refine AWP.exit ?_
         refine LeQ.start ?_
         refine LeQ.pk [0,3] 1 ?_
         exact ⟨rfl,v124,v125,(someb hF).symm,by kernel_rfl,by kernel_rfl⟩
      ·rintro _ _ _ ⟨rfl,v150,v151,rfl,rfl,rfl⟩
       refine AWP.seq ?_
       obtain ⟨h178,hF⟩:=chkb hF
       obtain ⟨h179,hF⟩:=chkb hF
       refine AWP.rg [(2,.sliceV h178),(3,.clrV Zb (s:=1) (fun _=>rfl) (fun _=>rfl) s0 v150 (0:Int) (lo:=Int.toNat v151) (n:=(Int.toNat (a0:Int) - Int.toNat v151)) h179 (0 + Int.toNat v151 * 1) (Nat.zero_add _))] [(0,(.vw 0 0 a0)),(3,(i64 v151))] [.cells (cel Zb (List.take (Int.toNat v151) v150++List.replicate (Int.toNat (a0:Int) - Int.toNat v151) (0:Int)++List.drop (Int.toNat v151 + (Int.toNat (a0:Int) - Int.toNat v151)) v150) s0)] ?_
       refine AWP.seq ?_
       obtain ⟨h180,hF⟩:=chkb hF
       refine AWP.rg0 [(2,.sliceV h180)] [(2,(.vw 0 0 (Int.toNat v151)))] ?_
       refine AWP.ret ?_
       exact LeQ.of (.inr ⟨rfl,((Int.toNat v151),(List.take (Int.toNat v151) v150++List.replicate (Int.toNat (a0:Int) - Int.toNat v151) (0:Int)++List.drop (Int.toNat v151 + (Int.toNat (a0:Int) - Int.toNat v151)) v150)),(someb hF).symm,(FnQ.f0 1 (.inr rfl))⟩)
     ·refine AWP.skip ?_
      refine AWP.rg0 [] [(0,(.vw 0 0 a0)),(3,(i64 (IntKind.wrap .i64 (v1 + (1:Int)))))] ?_
      refine LeQ.start ?_
      refine LeQ.pk [0,3] 1 ?_
      exact ⟨n93,Nat.lt_succ_self _,(IntKind.wrap .i64 (v1 + (1:Int))),hF,by kernel_rfl,by kernel_rfl⟩
    ·refine AWP.exit ?_
     refine LeQ.start ?_
     refine LeQ.pk [0] 1 ?_
     exact (.inl ⟨rfl,(someb hF).symm,by kernel_rfl,by kernel_rfl⟩)
  ·rintro _ _ _ (⟨rfl,rfl,rfl,rfl⟩ | ⟨rfl,r183,rfl,hq⟩)
   ·refine .seq (.rg0 [] [(2,(.vw 0 0 a0))] ?_)
    refine AWP.ret ?_
    have hr:=someb hF
    subst hr
    exact (FnQ.f0 1 (.inr rfl))
   ·have hr:=someb hF
    subst hr
    exact hq
def Zeg (r:(List Int)):PV→List Blk→Prop:=fun p K=>p=(slc 1 Zb r)∧K=[]
abbrev Zf5 (r:(List Int)):Exit→St→List Blk→Prop:=FnQ Tryd.prog Tryd.f91.results 0 (Zeg r)
theorem Zf6 (r:(List Int)) (hF:Zb9=some r):ACall Tryd.prog glob 91 [(slc 1 Zb ([]:(List Int)))] [] (Zeg r):=by
 refine ACall.body Tryd.func91 rfl (by kernel_rfl) ?_
 unfold Zb9 at hF
 refine .seq (.rg0 [] [(0,(slc 1 Zb ([]:(List Int))))] ?_)
 refine AWP.seq ?_
 refine .seq (.rg0 [(1,.len Zb ([]:(List Int)))] [(0,(slc 1 Zb ([]:(List Int)))),(8,(vb (decide ((List.length ([]:(List Int)):Int)<(2:Int)))))] ?_)
 refine AWP.cif hF (fun h82 hF=>?_) (fun h82 hF=>?_)
 ·refine .seq (.rg0 [] [(2,(slc 1 Zb ([]:(List Int))))] ?_)
  refine AWP.ret ?_
  have hr:=someb hF
  subst hr
  exact (FnQ.f0 0 (.inr rfl))
 ·refine AWP.skip ?_
  refine AWP.seq ?_
  refine .seq (.rg0 [] [(0,(slc 1 Zb ([]:(List Int)))),(3,(i64 (1:Int)))] ?_)
  obtain ⟨o40,h41,hF⟩:=bindb hF
  refine AWP.mid (fun e st H=>(e=.normal∧o40=(.inl ())∧st=[(0,(slc 1 Zb ([]:(List Int))))]∧H=[])∨(e=.ret∧∃ (r:(List Int)),o40=(.inr r)∧Zf5 r e st H)) ?_ ?_
  ·clear hF
   refine AWP.kp [0,3] 0 ?_
   refine AWP.bround (fun n st H=>∃ (v1:Int),Zby n v1=some o40∧st=[(0,(slc 1 Zb ([]:(List Int)))),(3,(i64 v1))]∧H=[]) fuel ⟨(1:Int),h41,by kernel_rfl,by kernel_rfl⟩ ?_
   rintro n42 st H ⟨v1,hF,rfl,rfl⟩
   cases n42 with
   | zero=>exact noneb hF
   | succ n42=>
    rw [Zby] at hF
    refine AWP.seq ?_
    refine .seq (.rg0 [(2,.len Zb ([]:(List Int)))] [(0,(slc 1 Zb ([]:(List Int)))),(3,(i64 v1)),(13,(vb (decide (v1<(List.length ([]:(List Int)):Int)))))] ?_)
    refine AWP.cif hF (fun h80 hF=>?_) (fun h80 hF=>?_)
    ·refine AWP.skip ?_
     refine AWP.seq ?_
     refine AWP.block ?_
     refine AWP.seq ?_
     obtain ⟨x43,h44,hF⟩:=bindb hF
     obtain ⟨x45,h46,hF⟩:=bindb hF
     refine AWP.dr [(2,.idx Zb h44),(7,.idx Zb h46)] 10 [] [] [] [(0,(slc 1 Zb ([]:(List Int)))),(3,(i64 v1)),(25,(vb (x43 == x45)))] [] ?_
     refine AWP.cif hF (fun h79 hF=>?_) (fun h79 hF=>?_)
     ·refine AWP.seq ?_
      obtain ⟨h47,hF⟩:=chkb hF
      refine AWP.rg0 [(2,.slice Zb ([]:(List Int)) h47)] [(0,(slc 1 Zb ([]:(List Int)))),(3,(i64 v1)),(4,(slc 1 Zb (List.drop (Int.toNat v1) (List.take (Int.toNat (List.length ([]:(List Int)):Int)) ([]:(List Int))))))] ?_
      refine AWP.seq ?_
      refine .seq (.rg0 [] [(0,(slc 1 Zb ([]:(List Int)))),(3,(i64 v1)),(4,(slc 1 Zb (List.drop (Int.toNat v1) (List.take (Int.toNat (List.length ([]:(List Int)):Int)) ([]:(List Int)))))),(5,(i64 (1:Int)))] ?_)
      obtain ⟨v63,h64,hF⟩:=bindb hF
      refine AWP.mid (fun e st H=>e=.normal∧st=[(0,(slc 1 Zb ([]:(List Int)))),(3,(i64 v63))]∧H=[]) ?_ ?_
      ·clear hF
       refine AWP.kp [0,3,4,5] 0 ?_
       refine AWP.bround (fun n st H=>∃ (v48:Int),∃ (v49:Int),Zbx v1 n v48 v49=some v63∧st=[(0,(slc 1 Zb ([]:(List Int)))),(3,(i64 v48)),(4,(slc 1 Zb (List.drop (Int.toNat v1) (List.take (Int.toNat (List.length ([]:(List Int)):Int)) ([]:(List Int)))))),(5,(i64 v49))]∧H=[]) fuel ⟨v1,(1:Int),h64,by kernel_rfl,by kernel_rfl⟩ ?_
       rintro n65 st H ⟨v48,v49,hF,rfl,rfl⟩
       cases n65 with
       | zero=>exact noneb hF
       | succ n65=>
        rw [Zbx] at hF
        refine AWP.seq ?_
        refine .seq (.rg0 [(2,.len Zb (List.drop (Int.toNat v1) (List.take (Int.toNat (List.length ([]:(List Int)):Int)) ([]:(List Int)))))] [(0,(slc 1 Zb ([]:(List Int)))),(3,(i64 v48)),(4,(slc 1 Zb (List.drop (Int.toNat v1) (List.take (Int.toNat (List.length ([]:(List Int)):Int)) ([]:(List Int)))))),(5,(i64 v49)),(32,(vb (decide (v49<(List.length (List.drop (Int.toNat v1) (List.take (Int.toNat (List.length ([]:(List Int)):Int)) ([]:(List Int)))):Int)))))] ?_)
        refine AWP.cif hF (fun h78 hF=>?_) (fun h78 hF=>?_)
        ·refine AWP.skip ?_
         obtain ⟨o71,h72,hF⟩:=bindb hF
         refine AWP.seq ?_
         refine AWP.mid (fun e st H=>(e=.normal∧o71=()∧st=[(0,(slc 1 Zb ([]:(List Int)))),(3,(i64 v48)),(4,(slc 1 Zb (List.drop (Int.toNat v1) (List.take (Int.toNat (List.length ([]:(List Int)):Int)) ([]:(List Int)))))),(5,(i64 v49))]∧H=[])) ?_ ?_
         ·clear hF
          have hF:=h72
          refine AWP.block ?_
          refine AWP.seq ?_
          obtain ⟨x73,h74,hF⟩:=bindb hF
          obtain ⟨x75,h76,hF⟩:=bindb hF
          refine AWP.dr [(2,.idx Zb h74),(7,.idx Zb h76)] 10 [] [] [] [(0,(slc 1 Zb ([]:(List Int)))),(3,(i64 v48)),(4,(slc 1 Zb (List.drop (Int.toNat v1) (List.take (Int.toNat (List.length ([]:(List Int)):Int)) ([]:(List Int)))))),(5,(i64 v49)),(44,(vb (x73 != x75)))] [] ?_
          refine AWP.cif hF (fun h77 hF=>?_) (fun h77 hF=>?_)
          ·refine AWP.seq ?_
           exact noneb hF
          ·refine AWP.skip ?_
           refine LeQ.start ?_
           refine LeQ.pk [0,3,4,5] 0 ?_
           exact ⟨rfl,(someb hF).symm,by kernel_rfl,by kernel_rfl⟩
         ·rintro _ _ _ ⟨rfl,rfl,rfl,rfl⟩
          refine AWP.rg0 [] [(0,(slc 1 Zb ([]:(List Int)))),(3,(i64 v48)),(4,(slc 1 Zb (List.drop (Int.toNat v1) (List.take (Int.toNat (List.length ([]:(List Int)):Int)) ([]:(List Int)))))),(5,(i64 (IntKind.wrap .i64 (v49 + (1:Int)))))] ?_
          refine LeQ.start ?_
          refine LeQ.pk [0,3,4,5] 0 ?_
          exact ⟨n65,Nat.lt_succ_self _,v48,(IntKind.wrap .i64 (v49 + (1:Int))),hF,by kernel_rfl,by kernel_rfl⟩
        ·refine AWP.exit ?_
         refine LeQ.start ?_
         refine LeQ.pk [0,3] 0 ?_
         have hr:=someb hF
         subst hr
         exact ⟨rfl,by kernel_rfl,by kernel_rfl⟩
      ·rintro _ _ _ ⟨rfl,rfl,rfl⟩
       refine AWP.seq ?_
       exact noneb hF
     ·refine AWP.skip ?_
      refine AWP.rg0 [] [(0,(slc 1 Zb ([]:(List Int)))),(3,(i64 (IntKind.wrap .i64 (v1 + (1:Int)))))] ?_
      refine LeQ.start ?_
      refine LeQ.pk [0,3] 0 ?_
      exact ⟨n42,Nat.lt_succ_self _,(IntKind.wrap .i64 (v1 + (1:Int))),hF,by kernel_rfl,by kernel_rfl⟩
    ·refine AWP.exit ?_
     refine LeQ.start ?_
     refine LeQ.pk [0] 0 ?_
     exact (.inl ⟨rfl,(someb hF).symm,by kernel_rfl,by kernel_rfl⟩)
  ·rintro _ _ _ (⟨rfl,rfl,rfl,rfl⟩ | ⟨rfl,r81,rfl,hq⟩)
   ·refine .seq (.rg0 [] [(2,(slc 1 Zb ([]:(List Int))))] ?_)
    refine AWP.ret ?_
    have hr:=someb hF
    subst hr
    exact (FnQ.f0 0 (.inr rfl))
   ·have hr:=someb hF
    subst hr
    exact hq
def Zj8 (r:(List Int)):PV→List Blk→Prop:=fun p K=>p=(slc 1 Zb r)∧K=[]
theorem Zgs (a0:Int) (a1:(List (List (Arr5 api_Range)))) (r:(List Int)) (hF:Zc4 a0 a1=some r):ACall Tryd.prog glob 87 [(i64 a0),(slc 1 Zi a1)] [] (Zj8 r):=by
 refine ACall.body Tryd.func87 rfl (by kernel_rfl) ?_
 unfold Zc4 at hF
 refine .seq (.rg0 [] [(0,(i64 a0)),(1,(slc 1 Zi a1))] ?_)
 refine AWP.seq ?_
 obtain ⟨r1,h2,hF⟩:=bindb hF
 refine AWP.rg [(1,.call Tryd.func89 [] (Zlu a0 r1 h2)),(4,.m)] [(0,(i64 a0)),(1,(slc 1 Zi a1)),(5,(.own 0 (List.length [(0:Int),(IntKind.wrap .u64 ((IntKind.wrap .u64 r1) + (1:Int)))])))] [bf 1 108 Zb [(0:Int),(IntKind.wrap .u64 ((IntKind.wrap .u64 r1) + (1:Int)))] false] ?_
 refine AWP.seq ?_
 refine .seq (.rg0 [(1,.len Zi a1)] [(0,(i64 a0)),(5,(.own 0 (List.length [(0:Int),(IntKind.wrap .u64 ((IntKind.wrap .u64 r1) + (1:Int)))]))),(15,(slc 1 Zi a1)),(16,(i64 (List.length a1:Int))),(17,(i64 (0:Int)))] ?_)
 obtain ⟨v60,h61,hF⟩:=bindb hF
 refine AWP.mid (fun e st H=>e=.normal∧st=[(5,(.own 0 (List.length v60)))]∧H=[bf 1 108 Zb v60 false]) ?_ ?_
 ·clear hF
  refine AWP.kp [0,5,15,16,17] 1 ?_
  refine AWP.bround (fun n st H=>∃ (v31:(List Int)),∃ (v32:Int),Zcj a0 a1 n v31 v32=some v60∧st=[(0,(i64 a0)),(5,(.own 0 (List.length v31))),(15,(slc 1 Zi a1)),(16,(i64 (List.length a1:Int))),(17,(i64 v32))]∧H=[bf 1 108 Zb v31 false]) fuel ⟨[(0:Int),(IntKind.wrap .u64 ((IntKind.wrap .u64 r1) + (1:Int)))],(0:Int),h61,by kernel_rfl,by kernel_rfl⟩ ?_
  rintro n62 st H ⟨v31,v32,hF,rfl,rfl⟩
  cases n62 with
  | zero=>exact noneb hF
  | succ n62=>
   rw [Zcj] at hF
   refine .seq (.rg0 [] [(0,(i64 a0)),(5,(.own 0 (List.length v31))),(15,(slc 1 Zi a1)),(16,(i64 (List.length a1:Int))),(17,(i64 v32)),(18,(vb (decide (v32<(List.length a1:Int)))))] ?_)
   refine AWP.seq ?_
   refine AWP.cif hF (fun h89 hF=>?_) (fun h89 hF=>?_)
   ·refine AWP.skip ?_
    refine AWP.seq ?_
    refine AWP.block ?_
    refine AWP.seq ?_
    obtain ⟨x63,h64,hF⟩:=bindb hF
    refine AWP.rg0 [(0,.idx Zi h64)] [(0,(i64 a0)),(5,(.own 0 (List.length v31))),(7,(slc 10 Za x63)),(15,(slc 1 Zi a1)),(16,(i64 (List.length a1:Int))),(17,(i64 v32))] ?_
    refine .seq (.rg0 [(1,.len Za x63)] [(0,(i64 a0)),(5,(.own 0 (List.length v31))),(15,(slc 1 Zi a1)),(16,(i64 (List.length a1:Int))),(17,(i64 v32)),(21,(slc 10 Za x63)),(22,(i64 (List.length x63:Int))),(23,(i64 (0:Int)))] ?_)
    obtain ⟨v80,h81,hF⟩:=bindb hF
    refine AWP.mid (fun e st H=>e=.normal∧st=[(0,(i64 a0)),(5,(.own 0 (List.length v80))),(15,(slc 1 Zi a1)),(16,(i64 (List.length a1:Int))),(17,(i64 v32))]∧H=[bf 1 108 Zb v80 false]) ?_ ?_
    ·clear hF
     refine AWP.kp [0,5,15,16,17,21,22,23] 1 ?_
     refine AWP.bround (fun n st H=>∃ (v72:(List Int)),∃ (v73:Int),Zci a0 x63 n v72 v73=some v80∧st=[(0,(i64 a0)),(5,(.own 0 (List.length v72))),(15,(slc 1 Zi a1)),(16,(i64 (List.length a1:Int))),(17,(i64 v32)),(21,(slc 10 Za x63)),(22,(i64 (List.length x63:Int))),(23,(i64 v73))]∧H=[bf 1 108 Zb v72 false]) fuel ⟨v31,(0:Int),h81,by kernel_rfl,by kernel_rfl⟩ ?_
     rintro n82 st H ⟨v72,v73,hF,rfl,rfl⟩
     cases n82 with
     | zero=>exact noneb hF
     | succ n82=>
      rw [Zci] at hF
      refine .seq (.rg0 [] [(0,(i64 a0)),(5,(.own 0 (List.length v72))),(15,(slc 1 Zi a1)),(16,(i64 (List.length a1:Int))),(17,(i64 v32)),(21,(slc 10 Za x63)),(22,(i64 (List.length x63:Int))),(23,(i64 v73)),(24,(vb (decide (v73<(List.length x63:Int)))))] ?_)
      refine AWP.seq ?_
      refine AWP.cif hF (fun h88 hF=>?_) (fun h88 hF=>?_)
      ·refine AWP.skip ?_
       refine AWP.seq ?_
       refine AWP.block ?_
       refine AWP.seq ?_
       obtain ⟨x83,h84,hF⟩:=bindb hF
       refine AWP.rg [(0,.idx Za h84)] [(0,(i64 a0)),(5,(.own 0 (List.length v72))),(9,(.ptr 1 0)),(15,(slc 1 Zi a1)),(16,(i64 (List.length a1:Int))),(17,(i64 v32)),(21,(slc 10 Za x63)),(22,(i64 (List.length x63:Int))),(23,(i64 v73))] [bf 1 108 Zb v72 false,.cells (Za x83)] ?_
       obtain ⟨h85,hF⟩:=chkb hF
       obtain ⟨h86,hF⟩:=chkb hF
       obtain ⟨h87,hF⟩:=chkb hF
       refine AWP.dr [(2,.ixd h85),(4,.ldA Zg (Arr5.get x83) 0 2 0 h85),(7,.ixd h86),(9,.ldA Zg (Arr5.get x83) 0 2 1 h86),(13,.app Zb (fun _=>by kernel_rfl) h87)] 14 [] [13] [] [(0,(i64 a0)),(5,(.own 0 (List.length (v72++[(IntKind.wrap .u64 (Arr5.get x83 a0).Lo),(IntKind.wrap .u64 ((IntKind.wrap .u64 (Arr5.get x83 a0).Hi) + (1:Int)))])))),(15,(slc 1 Zi a1)),(16,(i64 (List.length a1:Int))),(17,(i64 v32)),(21,(slc 10 Za x63)),(22,(i64 (List.length x63:Int))),(23,(i64 v73))] [bf 1 108 Zb (v72++[(IntKind.wrap .u64 (Arr5.get x83 a0).Lo),(IntKind.wrap .u64 ((IntKind.wrap .u64 (Arr5.get x83 a0).Hi) + (1:Int)))]) false,.cells (Za x83)] ?_
       refine AWP.rg0 [] [(0,(i64 a0)),(5,(.own 0 (List.length (v72++[(IntKind.wrap .u64 (Arr5.get x83 a0).Lo),(IntKind.wrap .u64 ((IntKind.wrap .u64 (Arr5.get x83 a0).Hi) + (1:Int)))])))),(15,(slc 1 Zi a1)),(16,(i64 (List.length a1:Int))),(17,(i64 v32)),(21,(slc 10 Za x63)),(22,(i64 (List.length x63:Int))),(23,(i64 (IntKind.wrap .i64 (v73 + (1:Int)))))] ?_
       refine LeQ.start ?_
       refine LeQ.pk [0,5,15,16,17,21,22,23] 1 ?_
       exact ⟨n82,Nat.lt_succ_self _,(v72++[(IntKind.wrap .u64 (Arr5.get x83 a0).Lo),(IntKind.wrap .u64 ((IntKind.wrap .u64 (Arr5.get x83 a0).Hi) + (1:Int)))]),(IntKind.wrap .i64 (v73 + (1:Int))),hF,by kernel_rfl,by kernel_rfl⟩
      ·refine AWP.exit ?_
       refine LeQ.start ?_
       refine LeQ.pk [0,5,15,16,17] 1 ?_
       have hr:=someb hF
       subst hr
       exact ⟨rfl,by kernel_rfl,by kernel_rfl⟩
    ·rintro _ _ _ ⟨rfl,rfl,rfl⟩
     refine AWP.rg0 [] [(0,(i64 a0)),(5,(.own 0 (List.length v80))),(15,(slc 1 Zi a1)),(16,(i64 (List.length a1:Int))),(17,(i64 (IntKind.wrap .i64 (v32 + (1:Int)))))] ?_
     refine LeQ.start ?_
     refine LeQ.pk [0,5,15,16,17] 1 ?_
     exact ⟨n62,Nat.lt_succ_self _,v80,(IntKind.wrap .i64 (v32 + (1:Int))),hF,by kernel_rfl,by kernel_rfl⟩
   ·refine AWP.exit ?_
    refine LeQ.start ?_
    refine LeQ.pk [5] 1 ?_
    have hr:=someb hF
    subst hr
    exact ⟨rfl,by kernel_rfl,by kernel_rfl⟩
 ·rintro _ _ _ ⟨rfl,rfl,rfl⟩
  refine AWP.seq ?_
  obtain ⟨h92,hF⟩:=chkb hF
  obtain ⟨r90,h91,hF⟩:=bindb hF
  obtain ⟨h93,hF⟩:=chkb hF
  refine AWP.rg [(1,.callB (s:=1) Zb Tryd.func90 (fun _=>rfl) h92 h93 (fun sp_=>Zhm (List.length v60) v60 sp_ r90 h91))] [(5,(.own 0 (List.length v60)))] [bf 1 108 Zb r90 false] ?_
  rw [show ([(5,(.own 0 (List.length v60)))]:St)=[(5,(.own 0 (List.length r90)))] by simp only [h93]]
  refine AWP.seq ?_
  obtain ⟨r94,h95,hF⟩:=bindb hF
  refine AWP.rg [(1,.callBE (s:=1) Zb Tryd.func91 (fun _=>rfl) h95 (fun h sp_=>Zg8 (List.length r90) r90 sp_ _ h) (fun h=>Zf6 _ h))] [(4,(slc 1 Zb (List.take r94.1 r94.2)))] [bf 1 108 Zb r94.2 true] ?_
  refine AWP.ret ?_
  have hr:=someb hF
  subst hr
  exact (FnQ.f0 0 (.inr rfl))
def Ziz (r:(List (Arr5 api_Range))):PV→List Blk→Prop:=fun p K=>p=(slc 10 Za r)∧K=[]
theorem Zc8 (a0:(List (Arr5 api_Range))) (a1:Int) (a2:Int) (r:(List (Arr5 api_Range))) (hF:Zbl a0 a1 a2=some r):ACall Tryd.prog glob 88 [(slc 10 Za a0),(i64 a1),(u32 a2)] [] (Ziz r):=by
 refine ACall.body Tryd.func88 rfl (by kernel_rfl) ?_
 unfold Zbl at hF
 refine .seq (.rg0 [] [(0,(slc 10 Za a0)),(1,(i64 a1)),(2,(u32 a2))] ?_)
 refine .seq (.rg0 [] [(0,(slc 10 Za a0)),(1,(i64 a1)),(2,(u32 a2)),(7,nils)] ?_)
 refine AWP.own (H':=[bf 10 50 Za ([]:(List (Arr5 api_Range))) false]) (st':=[(7,(.own 0 (List.length ([]:(List (Arr5 api_Range)))))),(0,(slc 10 Za a0)),(1,(i64 a1)),(2,(u32 a2))]) 7 10 50 (by kernel_rfl) (by kernel_rfl) (by kernel_rfl) ?_
 refine AWP.pick (st':=[(0,(slc 10 Za a0)),(1,(i64 a1)),(2,(u32 a2)),(7,(.own 0 (List.length ([]:(List (Arr5 api_Range))))))]) (ks:=[0,1,2,7]) (by kernel_rfl) ?_
 refine AWP.seq ?_
 refine .seq (.rg0 [(1,.len Za a0)] [(1,(i64 a1)),(2,(u32 a2)),(7,(.own 0 (List.length ([]:(List (Arr5 api_Range)))))),(10,(slc 10 Za a0)),(11,(i64 (List.length a0:Int))),(12,(i64 (0:Int)))] ?_)
 obtain ⟨v58,h59,hF⟩:=bindb hF
 refine AWP.mid (fun e st H=>e=.normal∧st=[(7,(.own 0 (List.length v58)))]∧H=[bf 10 50 Za v58 false]) ?_ ?_
 ·clear hF
  refine AWP.kp [1,2,7,10,11,12] 1 ?_
  refine AWP.bround (fun n st H=>∃ (v29:(List (Arr5 api_Range))),∃ (v30:Int),Zb4 a0 a1 a2 n v29 v30=some v58∧st=[(1,(i64 a1)),(2,(u32 a2)),(7,(.own 0 (List.length v29))),(10,(slc 10 Za a0)),(11,(i64 (List.length a0:Int))),(12,(i64 v30))]∧H=[bf 10 50 Za v29 false]) fuel ⟨([]:(List (Arr5 api_Range))),(0:Int),h59,by kernel_rfl,by kernel_rfl⟩ ?_
  rintro n60 st H ⟨v29,v30,hF,rfl,rfl⟩
  cases n60 with
  | zero=>exact noneb hF
  | succ n60=>
   rw [Zb4] at hF
   refine .seq (.rg0 [] [(1,(i64 a1)),(2,(u32 a2)),(7,(.own 0 (List.length v29))),(10,(slc 10 Za a0)),(11,(i64 (List.length a0:Int))),(12,(i64 v30)),(13,(vb (decide (v30<(List.length a0:Int)))))] ?_)
   refine AWP.seq ?_
   refine AWP.cif hF (fun h87 hF=>?_) (fun h87 hF=>?_)
   ·refine AWP.skip ?_
    obtain ⟨v73,h74,hF⟩:=bindb hF
    refine AWP.seq ?_
    refine AWP.mid (fun e st H=>e=.normal∧st=[(1,(i64 a1)),(2,(u32 a2)),(7,(.own 0 (List.length v73))),(10,(slc 10 Za a0)),(11,(i64 (List.length a0:Int))),(12,(i64 v30))]∧H=[bf 10 50 Za v73 false]) ?_ ?_
    ·clear hF
     have hF:=h74
     refine AWP.block ?_
     refine AWP.seq ?_
     obtain ⟨x75,h76,hF⟩:=bindb hF
     refine AWP.rg [(0,.idx Za h76)] [(1,(i64 a1)),(2,(u32 a2)),(7,(.own 0 (List.length v29))),(9,(.ptr 1 0)),(10,(slc 10 Za a0)),(11,(i64 (List.length a0:Int))),(12,(i64 v30))] [bf 10 50 Za v29 false,.cells (Za x75)] ?_
     refine AWP.seq ?_
     obtain ⟨h77,hF⟩:=chkb hF
     obtain ⟨b78,h79,hF⟩:=bindb hF
     replace h79:=someb h79
     obtain ⟨v81,h82,hF⟩:=bindb hF
     refine AWP.to [(1,(i64 a1)),(2,(u32 a2)),(7,(.own 0 (List.length v29))),(9,(.ptr 1 0)),(10,(slc 10 Za a0)),(11,(i64 (List.length a0:Int))),(12,(i64 v30)),(29,(vb v81))] [bf 10 50 Za v29 false,.cells (Za x75)] ?_ ?_
     ·cases b78 with
      | false=>
       have h83:=someb (ifF h82 rfl)
       subst h83
       exact AWP.rgT [(1,.ixd h77),(3,.ldA Zg (Arr5.get x75) 0 2 0 h77),(6,.bool h79)]
      | true=>
       have h84:=ifT h82 rfl
       obtain ⟨h80,h84⟩:=chkb h84
       replace h84:=someb h84
       subst h84
       exact AWP.rgT [(1,.ixd h77),(3,.ldA Zg (Arr5.get x75) 0 2 0 h77),(6,.bool h79),(9,.ixd h80),(11,.ldA Zg (Arr5.get x75) 0 2 1 h80)]
     refine AWP.cif hF (fun h86 hF=>?_) (fun h86 hF=>?_)
     ·obtain ⟨h85,hF⟩:=chkb hF
      refine AWP.rg [(3,.app Za (fun _=>by kernel_rfl) h85)] [(1,(i64 a1)),(2,(u32 a2)),(7,(.own 0 (List.length (v29++[x75])))),(10,(slc 10 Za a0)),(11,(i64 (List.length a0:Int))),(12,(i64 v30))] [bf 10 50 Za (v29++[x75]) false,.cells (Za x75)] ?_
      refine LeQ.start ?_
      refine LeQ.pk [1,2,7,10,11,12] 1 ?_
      have hr:=someb hF
      subst hr
      exact ⟨rfl,by kernel_rfl,by kernel_rfl⟩
     ·refine AWP.skip ?_
      refine LeQ.start ?_
      refine LeQ.pk [1,2,7,10,11,12] 1 ?_
      have hr:=someb hF
      subst hr
      exact ⟨rfl,by kernel_rfl,by kernel_rfl⟩
    ·rintro _ _ _ ⟨rfl,rfl,rfl⟩
     refine AWP.rg0 [] [(1,(i64 a1)),(2,(u32 a2)),(7,(.own 0 (List.length v73))),(10,(slc 10 Za a0)),(11,(i64 (List.length a0:Int))),(12,(i64 (IntKind.wrap .i64 (v30 + (1:Int)))))] ?_
     refine LeQ.start ?_
     refine LeQ.pk [1,2,7,10,11,12] 1 ?_
     exact ⟨n60,Nat.lt_succ_self _,v73,(IntKind.wrap .i64 (v30 + (1:Int))),hF,by kernel_rfl,by kernel_rfl⟩
   ·refine AWP.exit ?_
    refine LeQ.start ?_
    refine LeQ.pk [7] 1 ?_
    have hr:=someb hF
    subst hr
    exact ⟨rfl,by kernel_rfl,by kernel_rfl⟩
 ·rintro _ _ _ ⟨rfl,rfl,rfl⟩
  refine .seq (.rg0 [] [(6,(.own 0 (List.length v58)))] ?_)
  refine AWP.ret ?_
  have hr:=someb hF
  subst hr
  exact (FnQ.f1 0 (.inr rfl) (.inl (Wk.ownT (i:=0) (s:=10) (t:=50) (l:=v58) (sh:=false) (row:=Za) (by kernel_rfl) (.inl rfl))))
def Zdp (r:((List (Arr5 api_Range)) × Bool)):PV→List Blk→Prop:=fun p K=>p=(.tup [(slc 10 Za r.1),(vb r.2)])∧K=[]
abbrev Ze1 (r:((List (Arr5 api_Range)) × Bool)):Exit→St→List Blk→Prop:=FnQ Tryd.prog Tryd.f85.results 0 (Zdp r)
theorem Zgm:∀ (nr:Nat) (a0:Int) (a1:(List (Arr5 api_Range))) (a2:(List (Arr5 api_Range))) (a3:Int) (r:((List (Arr5 api_Range)) × Bool)) (hF:Z3 nr a0 a1 a2 a3=some r),ACall Tryd.prog glob 85 [(i64 a0),(slc 10 Za a1),(slc 10 Za a2),(.sc (.func (.func 77) #[] #[])),(i64 a3)] [] (Zdp r):=by
 intro nr
 induction nr with
 | zero=>intro a0 a1 a2 a3 r hF; exact noneb (by rw [Z3] at hF; exact hF)
 | succ nr ih=>
  intro a0 a1 a2 a3 r hF
  refine ACall.body Tryd.func85 rfl (by kernel_rfl) ?_
  rw [Z3] at hF
  refine .seq (.rg0 [] [(0,(i64 a0)),(1,(slc 10 Za a1)),(2,(slc 10 Za a2)),(3,(.sc (.func (.func 77) #[] #[]))),(4,(i64 a3))] ?_)
  refine AWP.seq ?_
  refine .seq (.rg0 [] [(0,(i64 a0)),(1,(slc 10 Za a1)),(2,(slc 10 Za a2)),(3,(.sc (.func (.func 77) #[] #[]))),(4,(i64 a3)),(26,(vb (a0 == (5:Int))))] ?_)
  refine AWP.cif hF (fun h357 hF=>?_) (fun h357 hF=>?_)
  ·refine AWP.seq ?_
   refine AWP.seq ?_
   obtain ⟨r1,h2,hF⟩:=bindb hF
   refine AWP.rg0 [(2,.len Za a1),(5,.len Za a2),(7,.call Tryd.func77 [] (Zhk (decide ((List.length a1:Int) > (0:Int))) (decide ((List.length a2:Int) > (0:Int))) r1 h2))] [(34,(vb r1))] ?_
   refine AWP.cif hF (fun h3 hF=>?_) (fun h3 hF=>?_)
   ·refine .seq (.rg0 [] [(10,(slc 10 Za [(Arr5.mk Zj Zj Zj Zj Zj)])),(11,(vb true))] ?_)
    refine AWP.ret ?_
    have hr:=someb hF
    subst hr
    exact (FnQ.f0 0 (.inr rfl))
   ·refine AWP.skip ?_
    refine .seq (.rg0 [] [(10,nils),(11,(vb true))] ?_)
    refine AWP.ret ?_
    have hr:=someb hF
    subst hr
    exact (FnQ.f1 0 (.inr rfl) (.inr ⟨_,_,rfl,rfl,(.cons _ _ _ _ (.nil 10) (.cons _ _ _ _ (.refl _) .nil))⟩))
  ·refine AWP.skip ?_
   refine AWP.seq ?_
   refine AWP.seq ?_
   obtain ⟨b4,h5,hF⟩:=bindb hF
   replace h5:=someb h5
   obtain ⟨v8,h9,hF⟩:=bindb hF
   refine AWP.to [(0,(i64 a0)),(1,(slc 10 Za a1)),(2,(slc 10 Za a2)),(3,(.sc (.func (.func 77) #[] #[]))),(4,(i64 a3)),(47,(vb v8))] [] ?_ ?_
   ·cases b4 with
    | false=>
     have h10:=someb (ifF h9 rfl)
     subst h10
     exact AWP.rgT [(1,.len Za a1),(3,.len Za a2),(6,.bool h5)]
    | true=>
     have h11:=ifT h9 rfl
     obtain ⟨r6,h7,h11⟩:=bindb h11
     replace h11:=someb h11
     subst h11
     exact AWP.rgT [(1,.len Za a1),(3,.len Za a2),(6,.bool h5),(8,.call Tryd.func77 [] (Zhk false false r6 h7))]
   refine AWP.cif hF (fun h356 hF=>?_) (fun h356 hF=>?_)
   ·refine .seq (.rg0 [] [(10,nils),(11,(vb true))] ?_)
    refine AWP.ret ?_
    have hr:=someb hF
    subst hr
    exact (FnQ.f1 0 (.inr rfl) (.inr ⟨_,_,rfl,rfl,(.cons _ _ _ _ (.nil 10) (.cons _ _ _ _ (.refl _) .nil))⟩))
   ·refine AWP.skip ?_
    refine .seq (.rg0 [] [(0,(i64 a0)),(1,(slc 10 Za a1)),(2,(slc 10 Za a2)),(3,(.sc (.func (.func 77) #[] #[]))),(4,(i64 a3)),(12,nils)] ?_)
    refine AWP.own (H':=[bf 3 116 Zc ([]:(List packetset_group)) false]) (st':=[(12,(.own 0 (List.length ([]:(List packetset_group))))),(0,(i64 a0)),(1,(slc 10 Za a1)),(2,(slc 10 Za a2)),(3,(.sc (.func (.func 77) #[] #[]))),(4,(i64 a3))]) 12 3 116 (by kernel_rfl) (by kernel_rfl) (by kernel_rfl) ?_
    refine AWP.pick (st':=[(0,(i64 a0)),(1,(slc 10 Za a1)),(2,(slc 10 Za a2)),(3,(.sc (.func (.func 77) #[] #[]))),(4,(i64 a3)),(12,(.own 0 (List.length ([]:(List packetset_group)))))]) (ks:=[0,1,2,3,4,12]) (by kernel_rfl) ?_
    refine .seq (.rg0 [] [(0,(i64 a0)),(1,(slc 10 Za a1)),(2,(slc 10 Za a2)),(3,(.sc (.func (.func 77) #[] #[]))),(4,(i64 a3)),(12,(.own 0 (List.length ([]:(List packetset_group))))),(13,(i64 (0:Int)))] ?_)
    refine AWP.seq ?_
    obtain ⟨r12,h13,hF⟩:=bindb hF
    refine AWP.rg0 [(4,.call Tryd.func87 [] (Zgs a0 [a1,a2] r12 h13))] [(0,(i64 a0)),(1,(slc 10 Za a1)),(2,(slc 10 Za a2)),(3,(.sc (.func (.func 77) #[] #[]))),(4,(i64 a3)),(12,(.own 0 (List.length ([]:(List packetset_group))))),(13,(i64 (0:Int))),(14,(slc 1 Zb r12))] ?_
    refine AWP.seq ?_
    refine .seq (.rg0 [] [(0,(i64 a0)),(1,(slc 10 Za a1)),(2,(slc 10 Za a2)),(3,(.sc (.func (.func 77) #[] #[]))),(4,(i64 a3)),(12,(.own 0 (List.length ([]:(List packetset_group))))),(13,(i64 (0:Int))),(14,(slc 1 Zb r12)),(15,(i64 (0:Int)))] ?_)
    obtain ⟨o177,h178,hF⟩:=bindb hF
    refine AWP.mid (fun e st H=>(e=.normal∧∃ (v175:(List packetset_group)),∃ (v176:Int),o177=(.inl (v175,v176))∧st=[(0,(i64 a0)),(12,(.own 0 (List.length v175))),(13,(i64 v176))]∧H=[bf 3 116 Zc v175 false])∨(e=.ret∧∃ (r:((List (Arr5 api_Range)) × Bool)),o177=(.inr r)∧Ze1 r e st H)) ?_ ?_
    ·clear hF
     refine AWP.kp [0,1,2,3,4,12,13,14,15] 1 ?_
     refine AWP.bround (fun n st H=>∃ (v94:(List packetset_group)),∃ (v95:Int),∃ (v96:Int),Zq a0 a1 a2 a3 (Z3 nr) r12 n v94 v95 v96=some o177∧st=[(0,(i64 a0)),(1,(slc 10 Za a1)),(2,(slc 10 Za a2)),(3,(.sc (.func (.func 77) #[] #[]))),(4,(i64 a3)),(12,(.own 0 (List.length v94))),(13,(i64 v95)),(14,(slc 1 Zb r12)),(15,(i64 v96))]∧H=[bf 3 116 Zc v94 false]) fuel ⟨([]:(List packetset_group)),(0:Int),(0:Int),h178,by kernel_rfl,by kernel_rfl⟩ ?_
     rintro n179 st H ⟨v94,v95,v96,hF,rfl,rfl⟩
     cases n179 with
     | zero=>exact noneb hF
     | succ n179=>
      rw [Zq] at hF
      refine AWP.seq ?_
      refine .seq (.rg0 [(3,.len Zb r12)] [(0,(i64 a0)),(1,(slc 10 Za a1)),(2,(slc 10 Za a2)),(3,(.sc (.func (.func 77) #[] #[]))),(4,(i64 a3)),(12,(.own 0 (List.length v94))),(13,(i64 v95)),(14,(slc 1 Zb r12)),(15,(i64 v96)),(57,(vb (decide ((IntKind.wrap .i64 (v96 + (1:Int)))<(List.length r12:Int)))))] ?_)
      refine AWP.cif hF (fun h257 hF=>?_) (fun h257 hF=>?_)
      ·refine AWP.skip ?_
       obtain ⟨o218,h219,hF⟩:=bindb hF
       refine AWP.seq ?_
       refine AWP.mid (fun e st H=>(e=.normal∧∃ (v216:(List packetset_group)),∃ (v217:Int),o218=(.inl (v216,v217))∧st=[(0,(i64 a0)),(1,(slc 10 Za a1)),(2,(slc 10 Za a2)),(3,(.sc (.func (.func 77) #[] #[]))),(4,(i64 a3)),(12,(.own 0 (List.length v216))),(13,(i64 v217)),(14,(slc 1 Zb r12)),(15,(i64 v96))]∧H=[bf 3 116 Zc v216 false])∨(e=.ret∧∃ (r:((List (Arr5 api_Range)) × Bool)),o218=(.inr r)∧Ze1 r e st H)) ?_ ?_
       ·clear hF
        have hF:=h219
        refine AWP.block ?_
        refine AWP.seq ?_
        obtain ⟨x220,h221,hF⟩:=bindb hF
        obtain ⟨x222,h223,hF⟩:=bindb hF
        refine AWP.dr [(2,.idx Zb h221),(8,.idx Zb h223)] 14 [] [13] [] [(0,(i64 a0)),(1,(slc 10 Za a1)),(2,(slc 10 Za a2)),(3,(.sc (.func (.func 77) #[] #[]))),(4,(i64 a3)),(12,(.own 0 (List.length v94))),(13,(i64 v95)),(14,(slc 1 Zb r12)),(15,(i64 v96)),(16,(.ptr 1 0))] [bf 3 116 Zc v94 false,.cells (Zg (api_Range.mk (IntKind.wrap .u32 x220) (IntKind.wrap .u32 (IntKind.wrap .u64 (x222 - (1:Int))))))] ?_
        refine AWP.seq ?_
        obtain ⟨r224,h225,hF⟩:=bindb hF
        obtain ⟨r226,h227,hF⟩:=bindb hF
        obtain ⟨r228,h229,hF⟩:=bindb hF
        refine AWP.dr [(6,.call Tryd.func88 [] (Zc8 a1 a0 (IntKind.wrap .u32 x220) r224 h225)),(11,.call Tryd.func88 [] (Zc8 a2 a0 (IntKind.wrap .u32 x220) r226 h227)),(14,.call Tryd.func85 [] (ih (IntKind.wrap .i64 (a0 + (1:Int))) r224 r226 a3 r228 h229))] 19 [] [] [] [(0,(i64 a0)),(1,(slc 10 Za a1)),(2,(slc 10 Za a2)),(3,(.sc (.func (.func 77) #[] #[]))),(4,(i64 a3)),(12,(.own 0 (List.length v94))),(13,(i64 v95)),(14,(slc 1 Zb r12)),(15,(i64 v96)),(16,(.ptr 1 0)),(17,(slc 10 Za r228.1)),(18,(vb r228.2))] [bf 3 116 Zc v94 false,.cells (Zg (api_Range.mk (IntKind.wrap .u32 x220) (IntKind.wrap .u32 (IntKind.wrap .u64 (x222 - (1:Int))))))] ?_
        refine AWP.seq ?_
        refine .seq (.rg0 [] [(0,(i64 a0)),(1,(slc 10 Za a1)),(2,(slc 10 Za a2)),(3,(.sc (.func (.func 77) #[] #[]))),(4,(i64 a3)),(12,(.own 0 (List.length v94))),(13,(i64 v95)),(14,(slc 1 Zb r12)),(15,(i64 v96)),(16,(.ptr 1 0)),(17,(slc 10 Za r228.1)),(92,(vb (!r228.2)))] ?_)
        refine AWP.cif hF (fun h255 hF=>?_) (fun h255 hF=>?_)
        ·refine .seq (.rg0 [] [(10,nils),(11,(vb false))] ?_)
         refine AWP.ret ?_
         exact LeQ.of (.inr ⟨rfl,(([]:(List (Arr5 api_Range))),false),(someb hF).symm,(FnQ.f1 0 (.inr rfl) (.inr ⟨_,_,rfl,rfl,(.cons _ _ _ _ (.nil 10) (.cons _ _ _ _ (.refl _) .nil))⟩))⟩)
        ·refine AWP.skip ?_
         refine AWP.seq ?_
         refine .seq (.rg0 [(1,.len Za r228.1)] [(0,(i64 a0)),(1,(slc 10 Za a1)),(2,(slc 10 Za a2)),(3,(.sc (.func (.func 77) #[] #[]))),(4,(i64 a3)),(12,(.own 0 (List.length v94))),(13,(i64 v95)),(14,(slc 1 Zb r12)),(15,(i64 v96)),(16,(.ptr 1 0)),(17,(slc 10 Za r228.1)),(95,(vb ((List.length r228.1:Int) == (0:Int))))] ?_)
         refine AWP.cif hF (fun h254 hF=>?_) (fun h254 hF=>?_)
         ·refine AWP.exit ?_
          refine LeQ.start ?_
          refine LeQ.pk [0,1,2,3,4,12,13,14,15] 1 ?_
          exact (.inl ⟨rfl,v94,v95,(someb hF).symm,by kernel_rfl,by kernel_rfl⟩)
         ·refine AWP.skip ?_
          refine AWP.seq ?_
          refine .seq (.rg0 [(1,.len Zc v94)] [(0,(i64 a0)),(1,(slc 10 Za a1)),(2,(slc 10 Za a2)),(3,(.sc (.func (.func 77) #[] #[]))),(4,(i64 a3)),(12,(.own 0 (List.length v94))),(13,(i64 v95)),(14,(slc 1 Zb r12)),(15,(i64 v96)),(16,(.ptr 1 0)),(17,(slc 10 Za r228.1)),(19,(i64 (List.length v94:Int)))] ?_)
          refine AWP.seq ?_
          obtain ⟨b230,h231,hF⟩:=bindb hF
          replace h231:=someb h231
          obtain ⟨v234,h235,hF⟩:=bindb hF
          obtain ⟨b236,h237,hF⟩:=bindb hF
          replace h237:=someb h237
          obtain ⟨v242,h243,hF⟩:=bindb hF
          refine AWP.to [(0,(i64 a0)),(1,(slc 10 Za a1)),(2,(slc 10 Za a2)),(3,(.sc (.func (.func 77) #[] #[]))),(4,(i64 a3)),(12,(.own 0 (List.length v94))),(13,(i64 v95)),(14,(slc 1 Zb r12)),(15,(i64 v96)),(16,(.ptr 1 0)),(17,(slc 10 Za r228.1)),(19,(i64 (List.length v94:Int))),(122,(vb v242))] [bf 3 116 Zc v94 false,.cells (Zg (api_Range.mk (IntKind.wrap .u32 x220) (IntKind.wrap .u32 (IntKind.wrap .u64 (x222 - (1:Int))))))] ?_ ?_
          ·cases b230 with
           | false=>
            have h244:=someb (ifF h235 rfl)
            subst h244
            subst h237
            have h245:=someb (ifF h243 rfl)
            subst h245
            exact AWP.drT [(2,.bool h231)] 25 [] [] []
           | true=>
            have h246:=ifT h235 rfl
            obtain ⟨x232,h233,h246⟩:=bindb h246
            replace h246:=someb h246
            subst h246
            cases b236 with
            | false=>
             have h247:=someb (ifF h243 rfl)
             subst h247
             exact AWP.drT [(2,.bool h231),(6,.idx Zc h233),(7,.fdE Zc v94 (IntKind.wrap .i64 ((List.length v94:Int) - (1:Int)))),(8,.fdE Zc v94 (IntKind.wrap .i64 ((List.length v94:Int) - (1:Int)))),(9,.ldE Zc h233),(15,.bool h237)] 25 [] [] []
            | true=>
             have h248:=ifT h243 rfl
             obtain ⟨x238,h239,h248⟩:=bindb h248
             obtain ⟨r240,h241,h248⟩:=bindb h248
             replace h248:=someb h248
             subst h248
             exact AWP.drT [(2,.bool h231),(6,.idx Zc h233),(7,.fdE Zc v94 (IntKind.wrap .i64 ((List.length v94:Int) - (1:Int)))),(8,.fdE Zc v94 (IntKind.wrap .i64 ((List.length v94:Int) - (1:Int)))),(9,.ldE Zc h233),(15,.bool h237),(19,.idx Zc h239),(20,.fdE Zc v94 (IntKind.wrap .i64 ((List.length v94:Int) - (1:Int)))),(21,.ldE Zc h239),(23,.call Tryd.func84 [] (Zcz x238.f_rest r228.1 r240 h241))] 25 [] [] []
          refine AWP.cif hF (fun h253 hF=>?_) (fun h253 hF=>?_)
          ·refine AWP.seq ?_
           obtain ⟨x249,h250,hF⟩:=bindb hF
           refine AWP.rg [(5,.idx Zc h250),(6,.fdE Zc v94 (IntKind.wrap .i64 ((List.length v94:Int) - (1:Int)))),(7,.fdE Zc v94 (IntKind.wrap .i64 ((List.length v94:Int) - (1:Int)))),(8,.stE Zc h250 ({ x249 with f_values:=({ x249.f_values with Hi:=(IntKind.wrap .u32 (IntKind.wrap .u64 (x222 - (1:Int)))) }:api_Range) }:packetset_group))] [(0,(i64 a0)),(1,(slc 10 Za a1)),(2,(slc 10 Za a2)),(3,(.sc (.func (.func 77) #[] #[]))),(4,(i64 a3)),(12,(.own 0 (List.length v94))),(13,(i64 v95)),(14,(slc 1 Zb r12)),(15,(i64 v96))] [bf 3 116 Zc (List.set v94 (Int.toNat (IntKind.wrap .i64 ((List.length v94:Int) - (1:Int)))) ({ x249 with f_values:=({ x249.f_values with Hi:=(IntKind.wrap .u32 (IntKind.wrap .u64 (x222 - (1:Int)))) }:api_Range) }:packetset_group)) false,.cells (Zg (api_Range.mk (IntKind.wrap .u32 x220) (IntKind.wrap .u32 (IntKind.wrap .u64 (x222 - (1:Int))))))] ?_
           rw [show ([(0,(i64 a0)),(1,(slc 10 Za a1)),(2,(slc 10 Za a2)),(3,(.sc (.func (.func 77) #[] #[]))),(4,(i64 a3)),(12,(.own 0 (List.length v94))),(13,(i64 v95)),(14,(slc 1 Zb r12)),(15,(i64 v96))]:St)=[(0,(i64 a0)),(1,(slc 10 Za a1)),(2,(slc 10 Za a2)),(3,(.sc (.func (.func 77) #[] #[]))),(4,(i64 a3)),(12,(.own 0 (List.length (List.set v94 (Int.toNat (IntKind.wrap .i64 ((List.length v94:Int) - (1:Int)))) ({ x249 with f_values:=({ x249.f_values with Hi:=(IntKind.wrap .u32 (IntKind.wrap .u64 (x222 - (1:Int)))) }:api_Range) }:packetset_group))))),(13,(i64 v95)),(14,(slc 1 Zb r12)),(15,(i64 v96))] by simp only [List.length_set]]
           refine AWP.exit ?_
           refine LeQ.start ?_
           refine LeQ.pk [0,1,2,3,4,12,13,14,15] 1 ?_
           exact (.inl ⟨rfl,(List.set v94 (Int.toNat (IntKind.wrap .i64 ((List.length v94:Int) - (1:Int)))) ({ x249 with f_values:=({ x249.f_values with Hi:=(IntKind.wrap .u32 (IntKind.wrap .u64 (x222 - (1:Int)))) }:api_Range) }:packetset_group)),v95,(someb hF).symm,by kernel_rfl,by kernel_rfl⟩)
          ·refine AWP.skip ?_
           refine AWP.seq ?_
           obtain ⟨h251,hF⟩:=chkb hF
           refine AWP.rg [(5,.app Zc (fun _=>by kernel_rfl) h251)] [(0,(i64 a0)),(1,(slc 10 Za a1)),(2,(slc 10 Za a2)),(3,(.sc (.func (.func 77) #[] #[]))),(4,(i64 a3)),(12,(.own 0 (List.length (v94++[(packetset_group.mk (api_Range.mk (IntKind.wrap .u32 x220) (IntKind.wrap .u32 (IntKind.wrap .u64 (x222 - (1:Int))))) r228.1)])))),(13,(i64 v95)),(14,(slc 1 Zb r12)),(15,(i64 v96)),(17,(slc 10 Za r228.1))] [bf 3 116 Zc (v94++[(packetset_group.mk (api_Range.mk (IntKind.wrap .u32 x220) (IntKind.wrap .u32 (IntKind.wrap .u64 (x222 - (1:Int))))) r228.1)]) false,.cells (Zg (api_Range.mk (IntKind.wrap .u32 x220) (IntKind.wrap .u32 (IntKind.wrap .u64 (x222 - (1:Int))))))] ?_
           refine .seq (.rg0 [(2,.len Za r228.1)] [(0,(i64 a0)),(1,(slc 10 Za a1)),(2,(slc 10 Za a2)),(3,(.sc (.func (.func 77) #[] #[]))),(4,(i64 a3)),(12,(.own 0 (List.length (v94++[(packetset_group.mk (api_Range.mk (IntKind.wrap .u32 x220) (IntKind.wrap .u32 (IntKind.wrap .u64 (x222 - (1:Int))))) r228.1)])))),(13,(i64 (IntKind.wrap .i64 (v95 + (List.length r228.1:Int))))),(14,(slc 1 Zb r12)),(15,(i64 v96))] ?_)
           refine .seq (.rg0 [] [(0,(i64 a0)),(1,(slc 10 Za a1)),(2,(slc 10 Za a2)),(3,(.sc (.func (.func 77) #[] #[]))),(4,(i64 a3)),(12,(.own 0 (List.length (v94++[(packetset_group.mk (api_Range.mk (IntKind.wrap .u32 x220) (IntKind.wrap .u32 (IntKind.wrap .u64 (x222 - (1:Int))))) r228.1)])))),(13,(i64 (IntKind.wrap .i64 (v95 + (List.length r228.1:Int))))),(14,(slc 1 Zb r12)),(15,(i64 v96)),(143,(vb (decide ((IntKind.wrap .i64 (v95 + (List.length r228.1:Int))) > a3))))] ?_)
           refine AWP.cif hF (fun h252 hF=>?_) (fun h252 hF=>?_)
           ·refine .seq (.rg0 [] [(10,nils),(11,(vb false))] ?_)
            refine AWP.ret ?_
            exact LeQ.of (.inr ⟨rfl,(([]:(List (Arr5 api_Range))),false),(someb hF).symm,(FnQ.f1 0 (.inr rfl) (.inr ⟨_,_,rfl,rfl,(.cons _ _ _ _ (.nil 10) (.cons _ _ _ _ (.refl _) .nil))⟩))⟩)
           ·refine AWP.skip ?_
            refine LeQ.start ?_
            refine LeQ.pk [0,1,2,3,4,12,13,14,15] 1 ?_
            exact (.inl ⟨rfl,(v94++[(packetset_group.mk (api_Range.mk (IntKind.wrap .u32 x220) (IntKind.wrap .u32 (IntKind.wrap .u64 (x222 - (1:Int))))) r228.1)]),(IntKind.wrap .i64 (v95 + (List.length r228.1:Int))),(someb hF).symm,by kernel_rfl,by kernel_rfl⟩)
       ·rintro _ _ _ (⟨rfl,v216,v217,rfl,rfl,rfl⟩ | ⟨rfl,r256,rfl,hq⟩)
        ·refine AWP.rg0 [] [(0,(i64 a0)),(1,(slc 10 Za a1)),(2,(slc 10 Za a2)),(3,(.sc (.func (.func 77) #[] #[]))),(4,(i64 a3)),(12,(.own 0 (List.length v216))),(13,(i64 v217)),(14,(slc 1 Zb r12)),(15,(i64 (IntKind.wrap .i64 (v96 + (1:Int)))))] ?_
         refine LeQ.start ?_
         refine LeQ.pk [0,1,2,3,4,12,13,14,15] 1 ?_
         exact ⟨n179,Nat.lt_succ_self _,v216,v217,(IntKind.wrap .i64 (v96 + (1:Int))),hF,by kernel_rfl,by kernel_rfl⟩
        ·exact LeQ.of (.inr ⟨rfl,r256,(someb hF).symm,hq⟩)
      ·refine AWP.exit ?_
       refine LeQ.start ?_
       refine LeQ.pk [0,12,13] 1 ?_
       exact (.inl ⟨rfl,v94,v95,(someb hF).symm,by kernel_rfl,by kernel_rfl⟩)
    ·rintro _ _ _ (⟨rfl,v175,v176,rfl,rfl,rfl⟩ | ⟨rfl,r355,rfl,hq⟩)
     ·refine AWP.seq ?_
      obtain ⟨h258,hF⟩:=chkb hF
      refine AWP.rg [(1,.mk0 Za h258)] [(0,(i64 a0)),(12,(.own 0 (List.length v175))),(20,(.own 1 (List.length ([]:(List (Arr5 api_Range))))))] [bf 3 116 Zc v175 false,bf 10 50 Za ([]:(List (Arr5 api_Range))) false] ?_
      refine AWP.seq ?_
      refine .seq (.rg0 [(1,.len Zc v175)] [(0,(i64 a0)),(20,(.own 1 (List.length ([]:(List (Arr5 api_Range)))))),(146,(.own 0 (List.length v175))),(147,(i64 (List.length v175:Int))),(148,(i64 (0:Int)))] ?_)
      obtain ⟨v322,h323,hF⟩:=bindb hF
      refine AWP.mid (fun e st H=>e=.normal∧st=[(20,(.own 1 (List.length v322)))]∧H=[bf 3 116 Zc v175 false,bf 10 50 Za v322 false]) ?_ ?_
      ·clear hF
       refine AWP.kp [0,20,146,147,148] 2 ?_
       refine AWP.bround (fun n st H=>∃ (v290:(List (Arr5 api_Range))),∃ (v291:Int),Zo a0 v175 n v290 v291=some v322∧st=[(0,(i64 a0)),(20,(.own 1 (List.length v290))),(146,(.own 0 (List.length v175))),(147,(i64 (List.length v175:Int))),(148,(i64 v291))]∧H=[bf 3 116 Zc v175 false,bf 10 50 Za v290 false]) fuel ⟨([]:(List (Arr5 api_Range))),(0:Int),h323,by kernel_rfl,by kernel_rfl⟩ ?_
       rintro n324 st H ⟨v290,v291,hF,rfl,rfl⟩
       cases n324 with
       | zero=>exact noneb hF
       | succ n324=>
        rw [Zo] at hF
        refine .seq (.rg0 [] [(0,(i64 a0)),(20,(.own 1 (List.length v290))),(146,(.own 0 (List.length v175))),(147,(i64 (List.length v175:Int))),(148,(i64 v291)),(149,(vb (decide (v291<(List.length v175:Int)))))] ?_)
        refine AWP.seq ?_
        refine AWP.cif hF (fun h354 hF=>?_) (fun h354 hF=>?_)
        ·refine AWP.skip ?_
         refine AWP.seq ?_
         refine AWP.block ?_
         refine AWP.seq ?_
         obtain ⟨x325,h326,hF⟩:=bindb hF
         refine AWP.rg [(0,.idx Zc h326),(1,.ldE Zc h326)] [(0,(i64 a0)),(20,(.own 1 (List.length v290))),(22,(.ptr 2 0)),(146,(.own 0 (List.length v175))),(147,(i64 (List.length v175:Int))),(148,(i64 v291))] [bf 3 116 Zc v175 false,bf 10 50 Za v290 false,.cells (Zc x325)] ?_
         refine .seq (.rg0 [(2,.len Za x325.f_rest)] [(0,(i64 a0)),(20,(.own 1 (List.length v290))),(22,(.ptr 2 0)),(146,(.own 0 (List.length v175))),(147,(i64 (List.length v175:Int))),(148,(i64 v291)),(153,(slc 10 Za x325.f_rest)),(154,(i64 (List.length x325.f_rest:Int))),(155,(i64 (0:Int)))] ?_)
         obtain ⟨v344,h345,hF⟩:=bindb hF
         refine AWP.mid (fun e st H=>e=.normal∧st=[(0,(i64 a0)),(20,(.own 1 (List.length v344))),(146,(.own 0 (List.length v175))),(147,(i64 (List.length v175:Int))),(148,(i64 v291))]∧H=[bf 3 116 Zc v175 false,bf 10 50 Za v344 false,.cells (Zc x325)]) ?_ ?_
         ·clear hF
          refine AWP.kp [0,20,22,146,147,148,153,154,155] 3 ?_
          refine AWP.bround (fun n st H=>∃ (v335:(List (Arr5 api_Range))),∃ (v336:Int),Zr a0 x325 n v335 v336=some v344∧st=[(0,(i64 a0)),(20,(.own 1 (List.length v335))),(22,(.ptr 2 0)),(146,(.own 0 (List.length v175))),(147,(i64 (List.length v175:Int))),(148,(i64 v291)),(153,(slc 10 Za x325.f_rest)),(154,(i64 (List.length x325.f_rest:Int))),(155,(i64 v336))]∧H=[bf 3 116 Zc v175 false,bf 10 50 Za v335 false,.cells (Zc x325)]) fuel ⟨v290,(0:Int),h345,by kernel_rfl,by kernel_rfl⟩ ?_
          rintro n346 st H ⟨v335,v336,hF,rfl,rfl⟩
          cases n346 with
          | zero=>exact noneb hF
          | succ n346=>
           rw [Zr] at hF
           refine .seq (.rg0 [] [(0,(i64 a0)),(20,(.own 1 (List.length v335))),(22,(.ptr 2 0)),(146,(.own 0 (List.length v175))),(147,(i64 (List.length v175:Int))),(148,(i64 v291)),(153,(slc 10 Za x325.f_rest)),(154,(i64 (List.length x325.f_rest:Int))),(155,(i64 v336)),(156,(vb (decide (v336<(List.length x325.f_rest:Int)))))] ?_)
           refine AWP.seq ?_
           refine AWP.cif hF (fun h353 hF=>?_) (fun h353 hF=>?_)
           ·refine AWP.skip ?_
            refine AWP.seq ?_
            refine AWP.block ?_
            refine AWP.seq ?_
            obtain ⟨x347,h348,hF⟩:=bindb hF
            refine AWP.rg [(0,.idx Za h348)] [(0,(i64 a0)),(20,(.own 1 (List.length v335))),(22,(.ptr 2 0)),(24,(.ptr 3 0)),(146,(.own 0 (List.length v175))),(147,(i64 (List.length v175:Int))),(148,(i64 v291)),(153,(slc 10 Za x325.f_rest)),(154,(i64 (List.length x325.f_rest:Int))),(155,(i64 v336))] [bf 3 116 Zc v175 false,bf 10 50 Za v335 false,.cells (Zc x325),.cells (Za x347)] ?_
            refine AWP.seq ?_
            obtain ⟨h349,hF⟩:=chkb hF
            refine AWP.rg [(3,.ixd h349),(4,.stA (fun q351=>Za (Arr5.set x347 q351 x325.f_values)) 0 2 0 h349)] [(0,(i64 a0)),(20,(.own 1 (List.length v335))),(22,(.ptr 2 0)),(24,(.ptr 3 0)),(146,(.own 0 (List.length v175))),(147,(i64 (List.length v175:Int))),(148,(i64 v291)),(153,(slc 10 Za x325.f_rest)),(154,(i64 (List.length x325.f_rest:Int))),(155,(i64 v336))] [bf 3 116 Zc v175 false,bf 10 50 Za v335 false,.cells (Zc x325),.cells (Za (Arr5.set x347 a0 x325.f_values))] ?_
            obtain ⟨h352,hF⟩:=chkb hF
            refine AWP.rg [(3,.app Za (fun _=>by kernel_rfl) h352)] [(0,(i64 a0)),(20,(.own 1 (List.length (v335++[(Arr5.set x347 a0 x325.f_values)])))),(22,(.ptr 2 0)),(146,(.own 0 (List.length v175))),(147,(i64 (List.length v175:Int))),(148,(i64 v291)),(153,(slc 10 Za x325.f_rest)),(154,(i64 (List.length x325.f_rest:Int))),(155,(i64 v336))] [bf 3 116 Zc v175 false,bf 10 50 Za (v335++[(Arr5.set x347 a0 x325.f_values)]) false,.cells (Zc x325),.cells (Za (Arr5.set x347 a0 x325.f_values))] ?_
            refine AWP.rg0 [] [(0,(i64 a0)),(20,(.own 1 (List.length (v335++[(Arr5.set x347 a0 x325.f_values)])))),(22,(.ptr 2 0)),(146,(.own 0 (List.length v175))),(147,(i64 (List.length v175:Int))),(148,(i64 v291)),(153,(slc 10 Za x325.f_rest)),(154,(i64 (List.length x325.f_rest:Int))),(155,(i64 (IntKind.wrap .i64 (v336 + (1:Int)))))] ?_
            refine LeQ.start ?_
            refine LeQ.pk [0,20,22,146,147,148,153,154,155] 3 ?_
            exact ⟨n346,Nat.lt_succ_self _,(v335++[(Arr5.set x347 a0 x325.f_values)]),(IntKind.wrap .i64 (v336 + (1:Int))),hF,by kernel_rfl,by kernel_rfl⟩
           ·refine AWP.exit ?_
            refine LeQ.start ?_
            refine LeQ.pk [0,20,146,147,148] 3 ?_
            have hr:=someb hF
            subst hr
            exact ⟨rfl,by kernel_rfl,by kernel_rfl⟩
         ·rintro _ _ _ ⟨rfl,rfl,rfl⟩
          refine AWP.rg0 [] [(0,(i64 a0)),(20,(.own 1 (List.length v344))),(146,(.own 0 (List.length v175))),(147,(i64 (List.length v175:Int))),(148,(i64 (IntKind.wrap .i64 (v291 + (1:Int)))))] ?_
          refine LeQ.start ?_
          refine LeQ.pk [0,20,146,147,148] 2 ?_
          exact ⟨n324,Nat.lt_succ_self _,v344,(IntKind.wrap .i64 (v291 + (1:Int))),hF,by kernel_rfl,by kernel_rfl⟩
        ·refine AWP.exit ?_
         refine LeQ.start ?_
         refine LeQ.pk [20] 2 ?_
         have hr:=someb hF
         subst hr
         exact ⟨rfl,by kernel_rfl,by kernel_rfl⟩
      ·rintro _ _ _ ⟨rfl,rfl,rfl⟩
       refine .seq (.rg0 [] [(10,(.own 1 (List.length v322))),(11,(vb true))] ?_)
       refine AWP.ret ?_
       have hr:=someb hF
       subst hr
       exact (FnQ.f1 0 (.inr rfl) (.inr ⟨_,_,rfl,rfl,(.cons _ _ _ _ (Wk.ownT (i:=1) (s:=10) (t:=50) (l:=v322) (sh:=false) (row:=Za) (by kernel_rfl) (.inl rfl)) (.cons _ _ _ _ (.refl _) .nil))⟩))
     ·have hr:=someb hF
      subst hr
      exact hq
theorem Zgy (a0:Int) (a1:(List (Arr5 api_Range))) (a2:(List (Arr5 api_Range))) (a3:Int) (r:((List (Arr5 api_Range)) × Bool)) (hF:Z3 fuel a0 a1 a2 a3=some r):ACall Tryd.prog glob 85 [(i64 a0),(slc 10 Za a1),(slc 10 Za a2),(.sc (.func (.func 77) #[] #[])),(i64 a3)] [] (Zdp r):=Zgm fuel a0 a1 a2 a3 r hF
def Zhd (r:((List (Arr5 api_Range)) × Int)):PV→List Blk→Prop:=fun p K=>p=(.tup [(slc 10 Za r.1),(i64 r.2)])∧K=[]
theorem Zfg (a0:(List (Arr5 api_Range))) (a1:(List (Arr5 api_Range))) (r:((List (Arr5 api_Range)) × Int)) (hF:Zbb a0 a1=some r):ACall Tryd.prog glob 76 [(slc 10 Za a0),(slc 10 Za a1),(.sc (.func (.func 77) #[] #[]))] [] (Zhd r):=by
 refine ACall.body Tryd.func76 rfl (by kernel_rfl) ?_
 unfold Zbb at hF
 refine .seq (.rg0 [] [(0,(slc 10 Za a0)),(1,(slc 10 Za a1)),(2,(.sc (.func (.func 77) #[] #[])))] ?_)
 refine AWP.seq ?_
 obtain ⟨r1,h2,hF⟩:=bindb hF
 refine AWP.rg0 [(3,.call Tryd.func85 [] (Zgy (0:Int) a0 a1 (4096:Int) r1 h2))] [(8,(slc 10 Za r1.1)),(9,(vb r1.2))] ?_
 refine AWP.seq ?_
 refine .seq (.rg0 [] [(8,(slc 10 Za r1.1)),(18,(vb (!r1.2)))] ?_)
 refine AWP.cif hF (fun h3 hF=>?_) (fun h3 hF=>?_)
 ·refine .seq (.rg0 [] [(6,nils),(7,(i64 (3:Int)))] ?_)
  refine AWP.ret ?_
  have hr:=someb hF
  subst hr
  exact (FnQ.f1 0 (.inr rfl) (.inr ⟨_,_,rfl,rfl,(.cons _ _ _ _ (.nil 10) (.cons _ _ _ _ (.refl _) .nil))⟩))
 ·refine AWP.skip ?_
  refine .seq (.rg0 [] [(6,(slc 10 Za r1.1)),(7,(i64 (0:Int)))] ?_)
  refine AWP.ret ?_
  have hr:=someb hF
  subst hr
  exact (FnQ.f0 0 (.inr rfl))
def Zh2 (r:((List (Arr5 api_Range)) × Int)):PV→List Blk→Prop:=fun p K=>p=(.tup [(slc 10 Za r.1),(i64 r.2)])∧K=[]
abbrev Zj9 (r:((List (Arr5 api_Range)) × Int)):Exit→St→List Blk→Prop:=FnQ Tryd.prog Tryd.f66.results 0 (Zh2 r)
theorem Zh3 (a0:(List (Arr5 api_Range))) (r:((List (Arr5 api_Range)) × Int)) (hF:Zd5 a0=some r):ACall Tryd.prog glob 66 [(slc 10 Za a0)] [] (Zh2 r):=by
 refine ACall.body Tryd.func66 rfl (by kernel_rfl) ?_
 unfold Zd5 at hF
 refine .seq (.rg0 [] [(0,(slc 10 Za a0))] ?_)
 refine .seq (.rg0 [] [(0,(slc 10 Za a0)),(4,nils)] ?_)
 refine AWP.seq ?_
 refine AWP.seq ?_
 obtain ⟨r1,h2,hF⟩:=bindb hF
 refine AWP.rg0 [(1,.call Tryd.func74 [] (Zgf a0 r1 h2)),(2,.len Za r1)] [(4,nils),(10,(slc 10 Za r1)),(11,(i64 (List.length r1:Int))),(12,(i64 (0:Int)))] ?_
 obtain ⟨o12,h13,hF⟩:=bindb hF
 refine AWP.mid (fun e st H=>(e=.normal∧∃ (v11:(List (Arr5 api_Range))),o12=(.inl v11)∧st=[(4,(slc 10 Za v11))]∧H=[])∨(e=.ret∧∃ (r:((List (Arr5 api_Range)) × Int)),o12=(.inr r)∧Zj9 r e st H)) ?_ ?_
 ·clear hF
  refine AWP.wk (p:=nils) (q:=(slc 10 Za ([]:(List (Arr5 api_Range))))) (st':=[(4,(slc 10 Za ([]:(List (Arr5 api_Range))))),(10,(slc 10 Za r1)),(11,(i64 (List.length r1:Int))),(12,(i64 (0:Int)))]) 4 (by kernel_rfl) (.nil 10) (by kernel_rfl) ?_
  refine AWP.kp [4,10,11,12] 0 ?_
  refine AWP.bround (fun n st H=>∃ (v3:(List (Arr5 api_Range))),∃ (v4:Int),Zcy r1 n v3 v4=some o12∧st=[(4,(slc 10 Za v3)),(10,(slc 10 Za r1)),(11,(i64 (List.length r1:Int))),(12,(i64 v4))]∧H=[]) fuel ⟨([]:(List (Arr5 api_Range))),(0:Int),h13,by kernel_rfl,by kernel_rfl⟩ ?_
  rintro n14 st H ⟨v3,v4,hF,rfl,rfl⟩
  cases n14 with
  | zero=>exact noneb hF
  | succ n14=>
   rw [Zcy] at hF
   refine .seq (.rg0 [] [(4,(slc 10 Za v3)),(10,(slc 10 Za r1)),(11,(i64 (List.length r1:Int))),(12,(i64 v4)),(13,(vb (decide (v4<(List.length r1:Int)))))] ?_)
   refine AWP.seq ?_
   refine AWP.cif hF (fun h20 hF=>?_) (fun h20 hF=>?_)
   ·refine AWP.skip ?_
    refine AWP.seq ?_
    refine AWP.block ?_
    refine AWP.seq ?_
    obtain ⟨x15,h16,hF⟩:=bindb hF
    refine AWP.rg [(0,.idx Za h16)] [(4,(slc 10 Za v3)),(6,(.ptr 0 0)),(10,(slc 10 Za r1)),(11,(i64 (List.length r1:Int))),(12,(i64 v4))] [.cells (Za x15)] ?_
    refine AWP.seq ?_
    obtain ⟨r17,h18,hF⟩:=bindb hF
    refine AWP.rg0 [(3,.call Tryd.func76 [] (Zfg v3 [x15] r17 h18))] [(7,(slc 10 Za r17.1)),(8,(i64 r17.2)),(10,(slc 10 Za r1)),(11,(i64 (List.length r1:Int))),(12,(i64 v4))] ?_
    refine AWP.seq ?_
    refine .seq (.rg0 [] [(7,(slc 10 Za r17.1)),(8,(i64 r17.2)),(10,(slc 10 Za r1)),(11,(i64 (List.length r1:Int))),(12,(i64 v4)),(24,(vb (r17.2 != (0:Int))))] ?_)
    refine AWP.cif hF (fun h19 hF=>?_) (fun h19 hF=>?_)
    ·refine .seq (.rg0 [] [(2,nils),(3,(i64 r17.2))] ?_)
     refine AWP.ret ?_
     exact LeQ.of (.inr ⟨rfl,(([]:(List (Arr5 api_Range))),r17.2),(someb hF).symm,(FnQ.f1 0 (.inr rfl) (.inr ⟨_,_,rfl,rfl,(.cons _ _ _ _ (.nil 10) (.cons _ _ _ _ (.refl _) .nil))⟩))⟩)
    ·refine AWP.skip ?_
     refine AWP.rg0 [] [(4,(slc 10 Za r17.1)),(10,(slc 10 Za r1)),(11,(i64 (List.length r1:Int))),(12,(i64 v4))] ?_
     refine AWP.rg0 [] [(4,(slc 10 Za r17.1)),(10,(slc 10 Za r1)),(11,(i64 (List.length r1:Int))),(12,(i64 (IntKind.wrap .i64 (v4 + (1:Int)))))] ?_
     refine LeQ.start ?_
     refine LeQ.pk [4,10,11,12] 0 ?_
     exact ⟨n14,Nat.lt_succ_self _,r17.1,(IntKind.wrap .i64 (v4 + (1:Int))),hF,by kernel_rfl,by kernel_rfl⟩
   ·refine AWP.exit ?_
    refine LeQ.start ?_
    refine LeQ.pk [4] 0 ?_
    exact (.inl ⟨rfl,v3,(someb hF).symm,by kernel_rfl,by kernel_rfl⟩)
 ·rintro _ _ _ (⟨rfl,v11,rfl,rfl,rfl⟩ | ⟨rfl,r21,rfl,hq⟩)
  ·refine .seq (.rg0 [] [(2,(slc 10 Za v11)),(3,(i64 (0:Int)))] ?_)
   refine AWP.ret ?_
   have hr:=someb hF
   subst hr
   exact (FnQ.f0 0 (.inr rfl))
  ·have hr:=someb hF
   subst hr
   exact hq
def Zis (r:((List (Arr5 api_Range)) × rewrite_ledger)):PV→List Blk→Prop:=fun p K=>p=(slc 10 Za r.1)∧K=[.cells (Zh r.2)]
theorem Zei (a0:rewrite_ledger) (a1:(List (Arr5 api_Range))) (a2:Int) (r:((List (Arr5 api_Range)) × rewrite_ledger)) (hF:Zb0 a0 a1 a2=some r):ACall Tryd.prog glob 65 [(.ptr 0 0),(slc 10 Za a1),(i64 a2)] [.cells (Zh a0)] (Zis r):=by
 refine ACall.body Tryd.func65 rfl (by kernel_rfl) ?_
 unfold Zb0 at hF
 refine .seq (.rg0 [] [(0,(.ptr 0 0)),(1,(slc 10 Za a1)),(2,(i64 a2))] ?_)
 obtain ⟨v2,h3,hF⟩:=bindb hF
 refine AWP.seq ?_
 refine AWP.mid (fun e st H=>e=.normal∧st=[(0,(.ptr 0 0)),(1,(slc 10 Za a1))]∧H=[.cells (Zh v2)]) ?_ ?_
 ·clear hF
  have hF:=h3
  refine .seq (.rg0 [] [(0,(.ptr 0 0)),(1,(slc 10 Za a1)),(2,(i64 a2)),(11,(vb (a0.f_err == (0:Int))))] ?_)
  refine AWP.cif hF (fun h4 hF=>?_) (fun h4 hF=>?_)
  ·refine AWP.rg [] [(0,(.ptr 0 0)),(1,(slc 10 Za a1))] [.cells (Zh ({ a0 with f_err:=a2 }:rewrite_ledger))] ?_
   refine LeQ.start ?_
   refine LeQ.pk [0,1] 1 ?_
   have hr:=someb hF
   subst hr
   exact ⟨rfl,by kernel_rfl,by kernel_rfl⟩
  ·refine AWP.skip ?_
   refine LeQ.start ?_
   refine LeQ.pk [0,1] 1 ?_
   have hr:=someb hF
   subst hr
   exact ⟨rfl,by kernel_rfl,by kernel_rfl⟩
 ·rintro _ _ _ ⟨rfl,rfl,rfl⟩
  refine AWP.seq ?_
  refine .seq (.rg0 [] [(1,(slc 10 Za a1)),(20,(vb (v2.f_err != (0:Int))))] ?_)
  refine AWP.cif hF (fun h5 hF=>?_) (fun h5 hF=>?_)
  ·refine .seq (.rg0 [] [(6,nils)] ?_)
   refine AWP.ret ?_
   have hr:=someb hF
   subst hr
   exact (FnQ.f1 1 (.inr rfl) (.inl (.nil 10)))
  ·refine AWP.skip ?_
   refine .seq (.rg0 [] [(6,(slc 10 Za a1))] ?_)
   refine AWP.ret ?_
   have hr:=someb hF
   subst hr
   exact (FnQ.f0 1 (.inr rfl))
def Zit (r:((List (Arr5 api_Range)) × rewrite_ledger)):PV→List Blk→Prop:=fun p K=>p=(slc 10 Za r.1)∧K=[.cells (Zh r.2)]
theorem Zgu (a0:rewrite_ledger) (a1:(List (Arr5 api_Range))) (r:((List (Arr5 api_Range)) × rewrite_ledger)) (hF:Zc1 a0 a1=some r):ACall Tryd.prog glob 42 [(.ptr 0 0),(slc 10 Za a1)] [.cells (Zh a0)] (Zit r):=by
 refine ACall.body Tryd.func42 rfl (by kernel_rfl) ?_
 unfold Zc1 at hF
 refine .seq (.rg0 [] [(0,(.ptr 0 0)),(1,(slc 10 Za a1))] ?_)
 refine AWP.seq ?_
 refine AWP.seq ?_
 obtain ⟨r1,h2,hF⟩:=bindb hF
 refine AWP.rg0 [(1,.call Tryd.func64 [] (Zhu a1 r1 h2))] [(0,(.ptr 0 0)),(1,(slc 10 Za a1)),(6,(vb r1))] ?_
 refine AWP.cif hF (fun h7 hF=>?_) (fun h7 hF=>?_)
 ·refine .seq (.rg0 [] [(4,(slc 10 Za a1))] ?_)
  refine AWP.ret ?_
  have hr:=someb hF
  subst hr
  exact (FnQ.f0 1 (.inr rfl))
 ·refine AWP.skip ?_
  refine AWP.seq ?_
  obtain ⟨r3,h4,hF⟩:=bindb hF
  obtain ⟨r5,h6,hF⟩:=bindb hF
  refine AWP.rg [(2,.call Tryd.func66 [] (Zh3 a1 r3 h4)),(5,.call Tryd.func65 [] (Zei a0 r3.1 r3.2 r5 h6))] [(4,(slc 10 Za r5.1))] [.cells (Zh r5.2)] ?_
  refine AWP.ret ?_
  have hr:=someb hF
  subst hr
  exact (FnQ.f0 1 (.inr rfl))
def Zkl (r:((List (Arr5 api_Range)) × Int)):PV→List Blk→Prop:=fun p K=>p=(.tup [(slc 10 Za r.1),(i64 r.2)])∧K=[]
theorem Zej (a0:(List (Arr5 api_Range))) (r:((List (Arr5 api_Range)) × Int)) (hF:Zcm a0=some r):ACall Tryd.prog glob 78 [(slc 10 Za a0)] [] (Zkl r):=by
 refine ACall.body Tryd.func78 rfl (by kernel_rfl) ?_
 unfold Zcm at hF
 refine .seq (.rg0 [] [(0,(slc 10 Za a0))] ?_)
 refine AWP.seq ?_
 refine AWP.seq ?_
 obtain ⟨r1,h2,hF⟩:=bindb hF
 refine AWP.rg0 [(1,.call Tryd.func64 [] (Zhu a0 r1 h2))] [(0,(slc 10 Za a0)),(5,(vb r1))] ?_
 refine AWP.cif hF (fun h5 hF=>?_) (fun h5 hF=>?_)
 ·refine .seq (.rg0 [] [(2,(slc 10 Za a0)),(3,(i64 (0:Int)))] ?_)
  refine AWP.ret ?_
  have hr:=someb hF
  subst hr
  exact (FnQ.f0 0 (.inr rfl))
 ·refine AWP.skip ?_
  refine AWP.seq ?_
  obtain ⟨r3,h4,hF⟩:=bindb hF
  refine AWP.rg0 [(1,.call Tryd.func66 [] (Zh3 a0 r3 h4))] [(2,(slc 10 Za r3.1)),(3,(i64 r3.2))] ?_
  refine AWP.ret ?_
  have hr:=someb hF
  subst hr
  exact (FnQ.f0 0 (.inr rfl))
def Zka (r:Bool):PV→List Blk→Prop:=fun p K=>p=(vb r)∧K=[]
theorem Zh4 (a0:Bool) (a1:Bool) (r:Bool) (hF:Zd6 a0 a1=some r):ACall Tryd.prog glob 69 [(vb a0),(vb a1)] [] (Zka r):=by
 refine ACall.body Tryd.func69 rfl (by kernel_rfl) ?_
 unfold Zd6 at hF
 refine .seq (.rg0 [] [(0,(vb a0)),(1,(vb a1))] ?_)
 refine AWP.seq ?_
 obtain ⟨b1,h2,hF⟩:=bindb hF
 replace h2:=someb h2
 refine AWP.to [(4,(vb (b1 && a1)))] [] ?_ ?_
 ·cases b1 with
  | false=>
   exact AWP.rgT [(1,.bool h2)]
  | true=>
   exact AWP.rgT [(1,.bool h2)]
 refine AWP.ret ?_
 have hr:=someb hF
 subst hr
 exact (FnQ.f0 0 (.inr rfl))
def Zdz (r:((List (Arr5 api_Range)) × Bool)):PV→List Blk→Prop:=fun p K=>p=(.tup [(slc 10 Za r.1),(vb r.2)])∧K=[]
abbrev Zfh (r:((List (Arr5 api_Range)) × Bool)):Exit→St→List Blk→Prop:=FnQ Tryd.prog Tryd.f85.results 0 (Zdz r)
theorem Zgz:∀ (nr:Nat) (a0:Int) (a1:(List (Arr5 api_Range))) (a2:(List (Arr5 api_Range))) (a3:Int) (r:((List (Arr5 api_Range)) × Bool)) (hF:Z7 nr a0 a1 a2 a3=some r),ACall Tryd.prog glob 85 [(i64 a0),(slc 10 Za a1),(slc 10 Za a2),(.sc (.func (.func 69) #[] #[])),(i64 a3)] [] (Zdz r):=by
 intro nr
 induction nr with
 | zero=>intro a0 a1 a2 a3 r hF; exact noneb (by rw [Z7] at hF; exact hF)
 | succ nr ih=>
  intro a0 a1 a2 a3 r hF
  refine ACall.body Tryd.func85 rfl (by kernel_rfl) ?_
  rw [Z7] at hF
  refine .seq (.rg0 [] [(0,(i64 a0)),(1,(slc 10 Za a1)),(2,(slc 10 Za a2)),(3,(.sc (.func (.func 69) #[] #[]))),(4,(i64 a3))] ?_)
  refine AWP.seq ?_
  refine .seq (.rg0 [] [(0,(i64 a0)),(1,(slc 10 Za a1)),(2,(slc 10 Za a2)),(3,(.sc (.func (.func 69) #[] #[]))),(4,(i64 a3)),(26,(vb (a0 == (5:Int))))] ?_)
  refine AWP.cif hF (fun h357 hF=>?_) (fun h357 hF=>?_)
  ·refine AWP.seq ?_
   refine AWP.seq ?_
   obtain ⟨r1,h2,hF⟩:=bindb hF
   refine AWP.rg0 [(2,.len Za a1),(5,.len Za a2),(7,.call Tryd.func69 [] (Zh4 (decide ((List.length a1:Int) > (0:Int))) (decide ((List.length a2:Int) > (0:Int))) r1 h2))] [(34,(vb r1))] ?_
   refine AWP.cif hF (fun h3 hF=>?_) (fun h3 hF=>?_)
   ·refine .seq (.rg0 [] [(10,(slc 10 Za [(Arr5.mk Zj Zj Zj Zj Zj)])),(11,(vb true))] ?_)
    refine AWP.ret ?_
    have hr:=someb hF
    subst hr
    exact (FnQ.f0 0 (.inr rfl))
   ·refine AWP.skip ?_
    refine .seq (.rg0 [] [(10,nils),(11,(vb true))] ?_)
    refine AWP.ret ?_
    have hr:=someb hF
    subst hr
    exact (FnQ.f1 0 (.inr rfl) (.inr ⟨_,_,rfl,rfl,(.cons _ _ _ _ (.nil 10) (.cons _ _ _ _ (.refl _) .nil))⟩))
  ·refine AWP.skip ?_
   refine AWP.seq ?_
   refine AWP.seq ?_
   obtain ⟨b4,h5,hF⟩:=bindb hF
   replace h5:=someb h5
   obtain ⟨v8,h9,hF⟩:=bindb hF
   refine AWP.to [(0,(i64 a0)),(1,(slc 10 Za a1)),(2,(slc 10 Za a2)),(3,(.sc (.func (.func 69) #[] #[]))),(4,(i64 a3)),(47,(vb v8))] [] ?_ ?_
   ·cases b4 with
    | false=>
     have h10:=someb (ifF h9 rfl)
     subst h10
     exact AWP.rgT [(1,.len Za a1),(3,.len Za a2),(6,.bool h5)]
    | true=>
     have h11:=ifT h9 rfl
     obtain ⟨r6,h7,h11⟩:=bindb h11
     replace h11:=someb h11
     subst h11
     exact AWP.rgT [(1,.len Za a1),(3,.len Za a2),(6,.bool h5),(8,.call Tryd.func69 [] (Zh4 false false r6 h7))]
   refine AWP.cif hF (fun h356 hF=>?_) (fun h356 hF=>?_)
   ·refine .seq (.rg0 [] [(10,nils),(11,(vb true))] ?_)
    refine AWP.ret ?_
    have hr:=someb hF
    subst hr
    exact (FnQ.f1 0 (.inr rfl) (.inr ⟨_,_,rfl,rfl,(.cons _ _ _ _ (.nil 10) (.cons _ _ _ _ (.refl _) .nil))⟩))
   ·refine AWP.skip ?_
    refine .seq (.rg0 [] [(0,(i64 a0)),(1,(slc 10 Za a1)),(2,(slc 10 Za a2)),(3,(.sc (.func (.func 69) #[] #[]))),(4,(i64 a3)),(12,nils)] ?_)
    refine AWP.own (H':=[bf 3 116 Zc ([]:(List packetset_group)) false]) (st':=[(12,(.own 0 (List.length ([]:(List packetset_group))))),(0,(i64 a0)),(1,(slc 10 Za a1)),(2,(slc 10 Za a2)),(3,(.sc (.func (.func 69) #[] #[]))),(4,(i64 a3))]) 12 3 116 (by kernel_rfl) (by kernel_rfl) (by kernel_rfl) ?_
    refine AWP.pick (st':=[(0,(i64 a0)),(1,(slc 10 Za a1)),(2,(slc 10 Za a2)),(3,(.sc (.func (.func 69) #[] #[]))),(4,(i64 a3)),(12,(.own 0 (List.length ([]:(List packetset_group)))))]) (ks:=[0,1,2,3,4,12]) (by kernel_rfl) ?_
    refine .seq (.rg0 [] [(0,(i64 a0)),(1,(slc 10 Za a1)),(2,(slc 10 Za a2)),(3,(.sc (.func (.func 69) #[] #[]))),(4,(i64 a3)),(12,(.own 0 (List.length ([]:(List packetset_group))))),(13,(i64 (0:Int)))] ?_)
    refine AWP.seq ?_
    obtain ⟨r12,h13,hF⟩:=bindb hF
    refine AWP.rg0 [(4,.call Tryd.func87 [] (Zgs a0 [a1,a2] r12 h13))] [(0,(i64 a0)),(1,(slc 10 Za a1)),(2,(slc 10 Za a2)),(3,(.sc (.func (.func 69) #[] #[]))),(4,(i64 a3)),(12,(.own 0 (List.length ([]:(List packetset_group))))),(13,(i64 (0:Int))),(14,(slc 1 Zb r12))] ?_
    refine AWP.seq ?_
    refine .seq (.rg0 [] [(0,(i64 a0)),(1,(slc 10 Za a1)),(2,(slc 10 Za a2)),(3,(.sc (.func (.func 69) #[] #[]))),(4,(i64 a3)),(12,(.own 0 (List.length ([]:(List packetset_group))))),(13,(i64 (0:Int))),(14,(slc 1 Zb r12)),(15,(i64 (0:Int)))] ?_)
    obtain ⟨o177,h178,hF⟩:=bindb hF
    refine AWP.mid (fun e st H=>(e=.normal∧∃ (v175:(List packetset_group)),∃ (v176:Int),o177=(.inl (v175,v176))∧st=[(0,(i64 a0)),(12,(.own 0 (List.length v175))),(13,(i64 v176))]∧H=[bf 3 116 Zc v175 false])∨(e=.ret∧∃ (r:((List (Arr5 api_Range)) × Bool)),o177=(.inr r)∧Zfh r e st H)) ?_ ?_
    ·clear hF
     refine AWP.kp [0,1,2,3,4,12,13,14,15] 1 ?_
     refine AWP.bround (fun n st H=>∃ (v94:(List packetset_group)),∃ (v95:Int),∃ (v96:Int),Zbf a0 a1 a2 a3 (Z7 nr) r12 n v94 v95 v96=some o177∧st=[(0,(i64 a0)),(1,(slc 10 Za a1)),(2,(slc 10 Za a2)),(3,(.sc (.func (.func 69) #[] #[]))),(4,(i64 a3)),(12,(.own 0 (List.length v94))),(13,(i64 v95)),(14,(slc 1 Zb r12)),(15,(i64 v96))]∧H=[bf 3 116 Zc v94 false]) fuel ⟨([]:(List packetset_group)),(0:Int),(0:Int),h178,by kernel_rfl,by kernel_rfl⟩ ?_
     rintro n179 st H ⟨v94,v95,v96,hF,rfl,rfl⟩
     cases n179 with
     | zero=>exact noneb hF
     | succ n179=>
      rw [Zbf] at hF
      refine AWP.seq ?_
      refine .seq (.rg0 [(3,.len Zb r12)] [(0,(i64 a0)),(1,(slc 10 Za a1)),(2,(slc 10 Za a2)),(3,(.sc (.func (.func 69) #[] #[]))),(4,(i64 a3)),(12,(.own 0 (List.length v94))),(13,(i64 v95)),(14,(slc 1 Zb r12)),(15,(i64 v96)),(57,(vb (decide ((IntKind.wrap .i64 (v96 + (1:Int)))<(List.length r12:Int)))))] ?_)
      refine AWP.cif hF (fun h257 hF=>?_) (fun h257 hF=>?_)
      ·refine AWP.skip ?_
       obtain ⟨o218,h219,hF⟩:=bindb hF
       refine AWP.seq ?_
       refine AWP.mid (fun e st H=>(e=.normal∧∃ (v216:(List packetset_group)),∃ (v217:Int),o218=(.inl (v216,v217))∧st=[(0,(i64 a0)),(1,(slc 10 Za a1)),(2,(slc 10 Za a2)),(3,(.sc (.func (.func 69) #[] #[]))),(4,(i64 a3)),(12,(.own 0 (List.length v216))),(13,(i64 v217)),(14,(slc 1 Zb r12)),(15,(i64 v96))]∧H=[bf 3 116 Zc v216 false])∨(e=.ret∧∃ (r:((List (Arr5 api_Range)) × Bool)),o218=(.inr r)∧Zfh r e st H)) ?_ ?_
       ·clear hF
        have hF:=h219
        refine AWP.block ?_
        refine AWP.seq ?_
        obtain ⟨x220,h221,hF⟩:=bindb hF
        obtain ⟨x222,h223,hF⟩:=bindb hF
        refine AWP.dr [(2,.idx Zb h221),(8,.idx Zb h223)] 14 [] [13] [] [(0,(i64 a0)),(1,(slc 10 Za a1)),(2,(slc 10 Za a2)),(3,(.sc (.func (.func 69) #[] #[]))),(4,(i64 a3)),(12,(.own 0 (List.length v94))),(13,(i64 v95)),(14,(slc 1 Zb r12)),(15,(i64 v96)),(16,(.ptr 1 0))] [bf 3 116 Zc v94 false,.cells (Zg (api_Range.mk (IntKind.wrap .u32 x220) (IntKind.wrap .u32 (IntKind.wrap .u64 (x222 - (1:Int))))))] ?_
        refine AWP.seq ?_
        obtain ⟨r224,h225,hF⟩:=bindb hF
        obtain ⟨r226,h227,hF⟩:=bindb hF
        obtain ⟨r228,h229,hF⟩:=bindb hF
        refine AWP.dr [(6,.call Tryd.func88 [] (Zc8 a1 a0 (IntKind.wrap .u32 x220) r224 h225)),(11,.call Tryd.func88 [] (Zc8 a2 a0 (IntKind.wrap .u32 x220) r226 h227)),(14,.call Tryd.func85 [] (ih (IntKind.wrap .i64 (a0 + (1:Int))) r224 r226 a3 r228 h229))] 19 [] [] [] [(0,(i64 a0)),(1,(slc 10 Za a1)),(2,(slc 10 Za a2)),(3,(.sc (.func (.func 69) #[] #[]))),(4,(i64 a3)),(12,(.own 0 (List.length v94))),(13,(i64 v95)),(14,(slc 1 Zb r12)),(15,(i64 v96)),(16,(.ptr 1 0)),(17,(slc 10 Za r228.1)),(18,(vb r228.2))] [bf 3 116 Zc v94 false,.cells (Zg (api_Range.mk (IntKind.wrap .u32 x220) (IntKind.wrap .u32 (IntKind.wrap .u64 (x222 - (1:Int))))))] ?_
        refine AWP.seq ?_
        refine .seq (.rg0 [] [(0,(i64 a0)),(1,(slc 10 Za a1)),(2,(slc 10 Za a2)),(3,(.sc (.func (.func 69) #[] #[]))),(4,(i64 a3)),(12,(.own 0 (List.length v94))),(13,(i64 v95)),(14,(slc 1 Zb r12)),(15,(i64 v96)),(16,(.ptr 1 0)),(17,(slc 10 Za r228.1)),(92,(vb (!r228.2)))] ?_)
        refine AWP.cif hF (fun h255 hF=>?_) (fun h255 hF=>?_)
        ·refine .seq (.rg0 [] [(10,nils),(11,(vb false))] ?_)
         refine AWP.ret ?_
         exact LeQ.of (.inr ⟨rfl,(([]:(List (Arr5 api_Range))),false),(someb hF).symm,(FnQ.f1 0 (.inr rfl) (.inr ⟨_,_,rfl,rfl,(.cons _ _ _ _ (.nil 10) (.cons _ _ _ _ (.refl _) .nil))⟩))⟩)
        ·refine AWP.skip ?_
         refine AWP.seq ?_
         refine .seq (.rg0 [(1,.len Za r228.1)] [(0,(i64 a0)),(1,(slc 10 Za a1)),(2,(slc 10 Za a2)),(3,(.sc (.func (.func 69) #[] #[]))),(4,(i64 a3)),(12,(.own 0 (List.length v94))),(13,(i64 v95)),(14,(slc 1 Zb r12)),(15,(i64 v96)),(16,(.ptr 1 0)),(17,(slc 10 Za r228.1)),(95,(vb ((List.length r228.1:Int) == (0:Int))))] ?_)
         refine AWP.cif hF (fun h254 hF=>?_) (fun h254 hF=>?_)
         ·refine AWP.exit ?_
          refine LeQ.start ?_
          refine LeQ.pk [0,1,2,3,4,12,13,14,15] 1 ?_
          exact (.inl ⟨rfl,v94,v95,(someb hF).symm,by kernel_rfl,by kernel_rfl⟩)
         ·refine AWP.skip ?_
          refine AWP.seq ?_
          refine .seq (.rg0 [(1,.len Zc v94)] [(0,(i64 a0)),(1,(slc 10 Za a1)),(2,(slc 10 Za a2)),(3,(.sc (.func (.func 69) #[] #[]))),(4,(i64 a3)),(12,(.own 0 (List.length v94))),(13,(i64 v95)),(14,(slc 1 Zb r12)),(15,(i64 v96)),(16,(.ptr 1 0)),(17,(slc 10 Za r228.1)),(19,(i64 (List.length v94:Int)))] ?_)
          refine AWP.seq ?_
          obtain ⟨b230,h231,hF⟩:=bindb hF
          replace h231:=someb h231
          obtain ⟨v234,h235,hF⟩:=bindb hF
          obtain ⟨b236,h237,hF⟩:=bindb hF
          replace h237:=someb h237
          obtain ⟨v242,h243,hF⟩:=bindb hF
          refine AWP.to [(0,(i64 a0)),(1,(slc 10 Za a1)),(2,(slc 10 Za a2)),(3,(.sc (.func (.func 69) #[] #[]))),(4,(i64 a3)),(12,(.own 0 (List.length v94))),(13,(i64 v95)),(14,(slc 1 Zb r12)),(15,(i64 v96)),(16,(.ptr 1 0)),(17,(slc 10 Za r228.1)),(19,(i64 (List.length v94:Int))),(122,(vb v242))] [bf 3 116 Zc v94 false,.cells (Zg (api_Range.mk (IntKind.wrap .u32 x220) (IntKind.wrap .u32 (IntKind.wrap .u64 (x222 - (1:Int))))))] ?_ ?_
          ·cases b230 with
           | false=>
            have h244:=someb (ifF h235 rfl)
            subst h244
            subst h237
            have h245:=someb (ifF h243 rfl)
            subst h245
            exact AWP.drT [(2,.bool h231)] 25 [] [] []
           | true=>
            have h246:=ifT h235 rfl
            obtain ⟨x232,h233,h246⟩:=bindb h246
            replace h246:=someb h246
            subst h246
            cases b236 with
            | false=>
             have h247:=someb (ifF h243 rfl)
             subst h247
             exact AWP.drT [(2,.bool h231),(6,.idx Zc h233),(7,.fdE Zc v94 (IntKind.wrap .i64 ((List.length v94:Int) - (1:Int)))),(8,.fdE Zc v94 (IntKind.wrap .i64 ((List.length v94:Int) - (1:Int)))),(9,.ldE Zc h233),(15,.bool h237)] 25 [] [] []
            | true=>
             have h248:=ifT h243 rfl
             obtain ⟨x238,h239,h248⟩:=bindb h248
             obtain ⟨r240,h241,h248⟩:=bindb h248
             replace h248:=someb h248
             subst h248
             exact AWP.drT [(2,.bool h231),(6,.idx Zc h233),(7,.fdE Zc v94 (IntKind.wrap .i64 ((List.length v94:Int) - (1:Int)))),(8,.fdE Zc v94 (IntKind.wrap .i64 ((List.length v94:Int) - (1:Int)))),(9,.ldE Zc h233),(15,.bool h237),(19,.idx Zc h239),(20,.fdE Zc v94 (IntKind.wrap .i64 ((List.length v94:Int) - (1:Int)))),(21,.ldE Zc h239),(23,.call Tryd.func84 [] (Zcz x238.f_rest r228.1 r240 h241))] 25 [] [] []
          refine AWP.cif hF (fun h253 hF=>?_) (fun h253 hF=>?_)
          ·refine AWP.seq ?_
           obtain ⟨x249,h250,hF⟩:=bindb hF
           refine AWP.rg [(5,.idx Zc h250),(6,.fdE Zc v94 (IntKind.wrap .i64 ((List.length v94:Int) - (1:Int)))),(7,.fdE Zc v94 (IntKind.wrap .i64 ((List.length v94:Int) - (1:Int)))),(8,.stE Zc h250 ({ x249 with f_values:=({ x249.f_values with Hi:=(IntKind.wrap .u32 (IntKind.wrap .u64 (x222 - (1:Int)))) }:api_Range) }:packetset_group))] [(0,(i64 a0)),(1,(slc 10 Za a1)),(2,(slc 10 Za a2)),(3,(.sc (.func (.func 69) #[] #[]))),(4,(i64 a3)),(12,(.own 0 (List.length v94))),(13,(i64 v95)),(14,(slc 1 Zb r12)),(15,(i64 v96))] [bf 3 116 Zc (List.set v94 (Int.toNat (IntKind.wrap .i64 ((List.length v94:Int) - (1:Int)))) ({ x249 with f_values:=({ x249.f_values with Hi:=(IntKind.wrap .u32 (IntKind.wrap .u64 (x222 - (1:Int)))) }:api_Range) }:packetset_group)) false,.cells (Zg (api_Range.mk (IntKind.wrap .u32 x220) (IntKind.wrap .u32 (IntKind.wrap .u64 (x222 - (1:Int))))))] ?_
           rw [show ([(0,(i64 a0)),(1,(slc 10 Za a1)),(2,(slc 10 Za a2)),(3,(.sc (.func (.func 69) #[] #[]))),(4,(i64 a3)),(12,(.own 0 (List.length v94))),(13,(i64 v95)),(14,(slc 1 Zb r12)),(15,(i64 v96))]:St)=[(0,(i64 a0)),(1,(slc 10 Za a1)),(2,(slc 10 Za a2)),(3,(.sc (.func (.func 69) #[] #[]))),(4,(i64 a3)),(12,(.own 0 (List.length (List.set v94 (Int.toNat (IntKind.wrap .i64 ((List.length v94:Int) - (1:Int)))) ({ x249 with f_values:=({ x249.f_values with Hi:=(IntKind.wrap .u32 (IntKind.wrap .u64 (x222 - (1:Int)))) }:api_Range) }:packetset_group))))),(13,(i64 v95)),(14,(slc 1 Zb r12)),(15,(i64 v96))] by simp only [List.length_set]]
           refine AWP.exit ?_
           refine LeQ.start ?_
           refine LeQ.pk [0,1,2,3,4,12,13,14,15] 1 ?_
           exact (.inl ⟨rfl,(List.set v94 (Int.toNat (IntKind.wrap .i64 ((List.length v94:Int) - (1:Int)))) ({ x249 with f_values:=({ x249.f_values with Hi:=(IntKind.wrap .u32 (IntKind.wrap .u64 (x222 - (1:Int)))) }:api_Range) }:packetset_group)),v95,(someb hF).symm,by kernel_rfl,by kernel_rfl⟩)
          ·refine AWP.skip ?_
           refine AWP.seq ?_
           obtain ⟨h251,hF⟩:=chkb hF
           refine AWP.rg [(5,.app Zc (fun _=>by kernel_rfl) h251)] [(0,(i64 a0)),(1,(slc 10 Za a1)),(2,(slc 10 Za a2)),(3,(.sc (.func (.func 69) #[] #[]))),(4,(i64 a3)),(12,(.own 0 (List.length (v94++[(packetset_group.mk (api_Range.mk (IntKind.wrap .u32 x220) (IntKind.wrap .u32 (IntKind.wrap .u64 (x222 - (1:Int))))) r228.1)])))),(13,(i64 v95)),(14,(slc 1 Zb r12)),(15,(i64 v96)),(17,(slc 10 Za r228.1))] [bf 3 116 Zc (v94++[(packetset_group.mk (api_Range.mk (IntKind.wrap .u32 x220) (IntKind.wrap .u32 (IntKind.wrap .u64 (x222 - (1:Int))))) r228.1)]) false,.cells (Zg (api_Range.mk (IntKind.wrap .u32 x220) (IntKind.wrap .u32 (IntKind.wrap .u64 (x222 - (1:Int))))))] ?_
           refine .seq (.rg0 [(2,.len Za r228.1)] [(0,(i64 a0)),(1,(slc 10 Za a1)),(2,(slc 10 Za a2)),(3,(.sc (.func (.func 69) #[] #[]))),(4,(i64 a3)),(12,(.own 0 (List.length (v94++[(packetset_group.mk (api_Range.mk (IntKind.wrap .u32 x220) (IntKind.wrap .u32 (IntKind.wrap .u64 (x222 - (1:Int))))) r228.1)])))),(13,(i64 (IntKind.wrap .i64 (v95 + (List.length r228.1:Int))))),(14,(slc 1 Zb r12)),(15,(i64 v96))] ?_)
           refine .seq (.rg0 [] [(0,(i64 a0)),(1,(slc 10 Za a1)),(2,(slc 10 Za a2)),(3,(.sc (.func (.func 69) #[] #[]))),(4,(i64 a3)),(12,(.own 0 (List.length (v94++[(packetset_group.mk (api_Range.mk (IntKind.wrap .u32 x220) (IntKind.wrap .u32 (IntKind.wrap .u64 (x222 - (1:Int))))) r228.1)])))),(13,(i64 (IntKind.wrap .i64 (v95 + (List.length r228.1:Int))))),(14,(slc 1 Zb r12)),(15,(i64 v96)),(143,(vb (decide ((IntKind.wrap .i64 (v95 + (List.length r228.1:Int))) > a3))))] ?_)
           refine AWP.cif hF (fun h252 hF=>?_) (fun h252 hF=>?_)
           ·refine .seq (.rg0 [] [(10,nils),(11,(vb false))] ?_)
            refine AWP.ret ?_
            exact LeQ.of (.inr ⟨rfl,(([]:(List (Arr5 api_Range))),false),(someb hF).symm,(FnQ.f1 0 (.inr rfl) (.inr ⟨_,_,rfl,rfl,(.cons _ _ _ _ (.nil 10) (.cons _ _ _ _ (.refl _) .nil))⟩))⟩)
           ·refine AWP.skip ?_
            refine LeQ.start ?_
            refine LeQ.pk [0,1,2,3,4,12,13,14,15] 1 ?_
            exact (.inl ⟨rfl,(v94++[(packetset_group.mk (api_Range.mk (IntKind.wrap .u32 x220) (IntKind.wrap .u32 (IntKind.wrap .u64 (x222 - (1:Int))))) r228.1)]),(IntKind.wrap .i64 (v95 + (List.length r228.1:Int))),(someb hF).symm,by kernel_rfl,by kernel_rfl⟩)
       ·rintro _ _ _ (⟨rfl,v216,v217,rfl,rfl,rfl⟩ | ⟨rfl,r256,rfl,hq⟩)
        ·refine AWP.rg0 [] [(0,(i64 a0)),(1,(slc 10 Za a1)),(2,(slc 10 Za a2)),(3,(.sc (.func (.func 69) #[] #[]))),(4,(i64 a3)),(12,(.own 0 (List.length v216))),(13,(i64 v217)),(14,(slc 1 Zb r12)),(15,(i64 (IntKind.wrap .i64 (v96 + (1:Int)))))] ?_
         refine LeQ.start ?_
         refine LeQ.pk [0,1,2,3,4,12,13,14,15] 1 ?_
         exact ⟨n179,Nat.lt_succ_self _,v216,v217,(IntKind.wrap .i64 (v96 + (1:Int))),hF,by kernel_rfl,by kernel_rfl⟩
        ·exact LeQ.of (.inr ⟨rfl,r256,(someb hF).symm,hq⟩)
      ·refine AWP.exit ?_
       refine LeQ.start ?_
       refine LeQ.pk [0,12,13] 1 ?_
       exact (.inl ⟨rfl,v94,v95,(someb hF).symm,by kernel_rfl,by kernel_rfl⟩)
    ·rintro _ _ _ (⟨rfl,v175,v176,rfl,rfl,rfl⟩ | ⟨rfl,r355,rfl,hq⟩)
     ·refine AWP.seq ?_
      obtain ⟨h258,hF⟩:=chkb hF
      refine AWP.rg [(1,.mk0 Za h258)] [(0,(i64 a0)),(12,(.own 0 (List.length v175))),(20,(.own 1 (List.length ([]:(List (Arr5 api_Range))))))] [bf 3 116 Zc v175 false,bf 10 50 Za ([]:(List (Arr5 api_Range))) false] ?_
      refine AWP.seq ?_
      refine .seq (.rg0 [(1,.len Zc v175)] [(0,(i64 a0)),(20,(.own 1 (List.length ([]:(List (Arr5 api_Range)))))),(146,(.own 0 (List.length v175))),(147,(i64 (List.length v175:Int))),(148,(i64 (0:Int)))] ?_)
      obtain ⟨v322,h323,hF⟩:=bindb hF
      refine AWP.mid (fun e st H=>e=.normal∧st=[(20,(.own 1 (List.length v322)))]∧H=[bf 3 116 Zc v175 false,bf 10 50 Za v322 false]) ?_ ?_
      ·clear hF
       refine AWP.kp [0,20,146,147,148] 2 ?_
       refine AWP.bround (fun n st H=>∃ (v290:(List (Arr5 api_Range))),∃ (v291:Int),Zbh a0 v175 n v290 v291=some v322∧st=[(0,(i64 a0)),(20,(.own 1 (List.length v290))),(146,(.own 0 (List.length v175))),(147,(i64 (List.length v175:Int))),(148,(i64 v291))]∧H=[bf 3 116 Zc v175 false,bf 10 50 Za v290 false]) fuel ⟨([]:(List (Arr5 api_Range))),(0:Int),h323,by kernel_rfl,by kernel_rfl⟩ ?_
       rintro n324 st H ⟨v290,v291,hF,rfl,rfl⟩
       cases n324 with
       | zero=>exact noneb hF
       | succ n324=>
        rw [Zbh] at hF
        refine .seq (.rg0 [] [(0,(i64 a0)),(20,(.own 1 (List.length v290))),(146,(.own 0 (List.length v175))),(147,(i64 (List.length v175:Int))),(148,(i64 v291)),(149,(vb (decide (v291<(List.length v175:Int)))))] ?_)
        refine AWP.seq ?_
        refine AWP.cif hF (fun h354 hF=>?_) (fun h354 hF=>?_)
        ·refine AWP.skip ?_
         refine AWP.seq ?_
         refine AWP.block ?_
         refine AWP.seq ?_
         obtain ⟨x325,h326,hF⟩:=bindb hF
         refine AWP.rg [(0,.idx Zc h326),(1,.ldE Zc h326)] [(0,(i64 a0)),(20,(.own 1 (List.length v290))),(22,(.ptr 2 0)),(146,(.own 0 (List.length v175))),(147,(i64 (List.length v175:Int))),(148,(i64 v291))] [bf 3 116 Zc v175 false,bf 10 50 Za v290 false,.cells (Zc x325)] ?_
         refine .seq (.rg0 [(2,.len Za x325.f_rest)] [(0,(i64 a0)),(20,(.own 1 (List.length v290))),(22,(.ptr 2 0)),(146,(.own 0 (List.length v175))),(147,(i64 (List.length v175:Int))),(148,(i64 v291)),(153,(slc 10 Za x325.f_rest)),(154,(i64 (List.length x325.f_rest:Int))),(155,(i64 (0:Int)))] ?_)
         obtain ⟨v344,h345,hF⟩:=bindb hF
         refine AWP.mid (fun e st H=>e=.normal∧st=[(0,(i64 a0)),(20,(.own 1 (List.length v344))),(146,(.own 0 (List.length v175))),(147,(i64 (List.length v175:Int))),(148,(i64 v291))]∧H=[bf 3 116 Zc v175 false,bf 10 50 Za v344 false,.cells (Zc x325)]) ?_ ?_
         ·clear hF
          refine AWP.kp [0,20,22,146,147,148,153,154,155] 3 ?_
          refine AWP.bround (fun n st H=>∃ (v335:(List (Arr5 api_Range))),∃ (v336:Int),Zbg a0 x325 n v335 v336=some v344∧st=[(0,(i64 a0)),(20,(.own 1 (List.length v335))),(22,(.ptr 2 0)),(146,(.own 0 (List.length v175))),(147,(i64 (List.length v175:Int))),(148,(i64 v291)),(153,(slc 10 Za x325.f_rest)),(154,(i64 (List.length x325.f_rest:Int))),(155,(i64 v336))]∧H=[bf 3 116 Zc v175 false,bf 10 50 Za v335 false,.cells (Zc x325)]) fuel ⟨v290,(0:Int),h345,by kernel_rfl,by kernel_rfl⟩ ?_
          rintro n346 st H ⟨v335,v336,hF,rfl,rfl⟩
          cases n346 with
          | zero=>exact noneb hF
          | succ n346=>
           rw [Zbg] at hF
           refine .seq (.rg0 [] [(0,(i64 a0)),(20,(.own 1 (List.length v335))),(22,(.ptr 2 0)),(146,(.own 0 (List.length v175))),(147,(i64 (List.length v175:Int))),(148,(i64 v291)),(153,(slc 10 Za x325.f_rest)),(154,(i64 (List.length x325.f_rest:Int))),(155,(i64 v336)),(156,(vb (decide (v336<(List.length x325.f_rest:Int)))))] ?_)
           refine AWP.seq ?_
           refine AWP.cif hF (fun h353 hF=>?_) (fun h353 hF=>?_)
           ·refine AWP.skip ?_
            refine AWP.seq ?_
            refine AWP.block ?_
            refine AWP.seq ?_
            obtain ⟨x347,h348,hF⟩:=bindb hF
            refine AWP.rg [(0,.idx Za h348)] [(0,(i64 a0)),(20,(.own 1 (List.length v335))),(22,(.ptr 2 0)),(24,(.ptr 3 0)),(146,(.own 0 (List.length v175))),(147,(i64 (List.length v175:Int))),(148,(i64 v291)),(153,(slc 10 Za x325.f_rest)),(154,(i64 (List.length x325.f_rest:Int))),(155,(i64 v336))] [bf 3 116 Zc v175 false,bf 10 50 Za v335 false,.cells (Zc x325),.cells (Za x347)] ?_
            refine AWP.seq ?_
            obtain ⟨h349,hF⟩:=chkb hF
            refine AWP.rg [(3,.ixd h349),(4,.stA (fun q351=>Za (Arr5.set x347 q351 x325.f_values)) 0 2 0 h349)] [(0,(i64 a0)),(20,(.own 1 (List.length v335))),(22,(.ptr 2 0)),(24,(.ptr 3 0)),(146,(.own 0 (List.length v175))),(147,(i64 (List.length v175:Int))),(148,(i64 v291)),(153,(slc 10 Za x325.f_rest)),(154,(i64 (List.length x325.f_rest:Int))),(155,(i64 v336))] [bf 3 116 Zc v175 false,bf 10 50 Za v335 false,.cells (Zc x325),.cells (Za (Arr5.set x347 a0 x325.f_values))] ?_
            obtain ⟨h352,hF⟩:=chkb hF
            refine AWP.rg [(3,.app Za (fun _=>by kernel_rfl) h352)] [(0,(i64 a0)),(20,(.own 1 (List.length (v335++[(Arr5.set x347 a0 x325.f_values)])))),(22,(.ptr 2 0)),(146,(.own 0 (List.length v175))),(147,(i64 (List.length v175:Int))),(148,(i64 v291)),(153,(slc 10 Za x325.f_rest)),(154,(i64 (List.length x325.f_rest:Int))),(155,(i64 v336))] [bf 3 116 Zc v175 false,bf 10 50 Za (v335++[(Arr5.set x347 a0 x325.f_values)]) false,.cells (Zc x325),.cells (Za (Arr5.set x347 a0 x325.f_values))] ?_
            refine AWP.rg0 [] [(0,(i64 a0)),(20,(.own 1 (List.length (v335++[(Arr5.set x347 a0 x325.f_values)])))),(22,(.ptr 2 0)),(146,(.own 0 (List.length v175))),(147,(i64 (List.length v175:Int))),(148,(i64 v291)),(153,(slc 10 Za x325.f_rest)),(154,(i64 (List.length x325.f_rest:Int))),(155,(i64 (IntKind.wrap .i64 (v336 + (1:Int)))))] ?_
            refine LeQ.start ?_
            refine LeQ.pk [0,20,22,146,147,148,153,154,155] 3 ?_
            exact ⟨n346,Nat.lt_succ_self _,(v335++[(Arr5.set x347 a0 x325.f_values)]),(IntKind.wrap .i64 (v336 + (1:Int))),hF,by kernel_rfl,by kernel_rfl⟩
           ·refine AWP.exit ?_
            refine LeQ.start ?_
            refine LeQ.pk [0,20,146,147,148] 3 ?_
            have hr:=someb hF
            subst hr
            exact ⟨rfl,by kernel_rfl,by kernel_rfl⟩
         ·rintro _ _ _ ⟨rfl,rfl,rfl⟩
          refine AWP.rg0 [] [(0,(i64 a0)),(20,(.own 1 (List.length v344))),(146,(.own 0 (List.length v175))),(147,(i64 (List.length v175:Int))),(148,(i64 (IntKind.wrap .i64 (v291 + (1:Int)))))] ?_
          refine LeQ.start ?_
          refine LeQ.pk [0,20,146,147,148] 2 ?_
          exact ⟨n324,Nat.lt_succ_self _,v344,(IntKind.wrap .i64 (v291 + (1:Int))),hF,by kernel_rfl,by kernel_rfl⟩
        ·refine AWP.exit ?_
         refine LeQ.start ?_
         refine LeQ.pk [20] 2 ?_
         have hr:=someb hF
         subst hr
         exact ⟨rfl,by kernel_rfl,by kernel_rfl⟩
      ·rintro _ _ _ ⟨rfl,rfl,rfl⟩
       refine .seq (.rg0 [] [(10,(.own 1 (List.length v322))),(11,(vb true))] ?_)
       refine AWP.ret ?_
       have hr:=someb hF
       subst hr
       exact (FnQ.f1 0 (.inr rfl) (.inr ⟨_,_,rfl,rfl,(.cons _ _ _ _ (Wk.ownT (i:=1) (s:=10) (t:=50) (l:=v322) (sh:=false) (row:=Za) (by kernel_rfl) (.inl rfl)) (.cons _ _ _ _ (.refl _) .nil))⟩))
     ·have hr:=someb hF
      subst hr
      exact hq
theorem Zhe (a0:Int) (a1:(List (Arr5 api_Range))) (a2:(List (Arr5 api_Range))) (a3:Int) (r:((List (Arr5 api_Range)) × Bool)) (hF:Z7 fuel a0 a1 a2 a3=some r):ACall Tryd.prog glob 85 [(i64 a0),(slc 10 Za a1),(slc 10 Za a2),(.sc (.func (.func 69) #[] #[])),(i64 a3)] [] (Zdz r):=Zgz fuel a0 a1 a2 a3 r hF
def Zhn (r:((List (Arr5 api_Range)) × Int)):PV→List Blk→Prop:=fun p K=>p=(.tup [(slc 10 Za r.1),(i64 r.2)])∧K=[]
theorem Zho (a0:(List (Arr5 api_Range))) (a1:(List (Arr5 api_Range))) (r:((List (Arr5 api_Range)) × Int)) (hF:Zco a0 a1=some r):ACall Tryd.prog glob 76 [(slc 10 Za a0),(slc 10 Za a1),(.sc (.func (.func 69) #[] #[]))] [] (Zhn r):=by
 refine ACall.body Tryd.func76 rfl (by kernel_rfl) ?_
 unfold Zco at hF
 refine .seq (.rg0 [] [(0,(slc 10 Za a0)),(1,(slc 10 Za a1)),(2,(.sc (.func (.func 69) #[] #[])))] ?_)
 refine AWP.seq ?_
 obtain ⟨r1,h2,hF⟩:=bindb hF
 refine AWP.rg0 [(3,.call Tryd.func85 [] (Zhe (0:Int) a0 a1 (4096:Int) r1 h2))] [(8,(slc 10 Za r1.1)),(9,(vb r1.2))] ?_
 refine AWP.seq ?_
 refine .seq (.rg0 [] [(8,(slc 10 Za r1.1)),(18,(vb (!r1.2)))] ?_)
 refine AWP.cif hF (fun h3 hF=>?_) (fun h3 hF=>?_)
 ·refine .seq (.rg0 [] [(6,nils),(7,(i64 (3:Int)))] ?_)
  refine AWP.ret ?_
  have hr:=someb hF
  subst hr
  exact (FnQ.f1 0 (.inr rfl) (.inr ⟨_,_,rfl,rfl,(.cons _ _ _ _ (.nil 10) (.cons _ _ _ _ (.refl _) .nil))⟩))
 ·refine AWP.skip ?_
  refine .seq (.rg0 [] [(6,(slc 10 Za r1.1)),(7,(i64 (0:Int)))] ?_)
  refine AWP.ret ?_
  have hr:=someb hF
  subst hr
  exact (FnQ.f0 0 (.inr rfl))
def Zik (r:((List (Arr5 api_Range)) × Int)):PV→List Blk→Prop:=fun p K=>p=(.tup [(slc 10 Za r.1),(i64 r.2)])∧K=[]
theorem Zil (a0:(List (Arr5 api_Range))) (a1:(List (Arr5 api_Range))) (r:((List (Arr5 api_Range)) × Int)) (hF:Zd8 a0 a1=some r):ACall Tryd.prog glob 68 [(slc 10 Za a0),(slc 10 Za a1),(.sc (.func (.func 69) #[] #[]))] [] (Zik r):=by
 refine ACall.body Tryd.func68 rfl (by kernel_rfl) ?_
 unfold Zd8 at hF
 refine .seq (.rg0 [] [(0,(slc 10 Za a0)),(1,(slc 10 Za a1)),(2,(.sc (.func (.func 69) #[] #[])))] ?_)
 refine AWP.seq ?_
 obtain ⟨r1,h2,hF⟩:=bindb hF
 refine AWP.rg0 [(1,.call Tryd.func78 [] (Zej a0 r1 h2))] [(1,(slc 10 Za a1)),(2,(.sc (.func (.func 69) #[] #[]))),(8,(slc 10 Za r1.1)),(9,(i64 r1.2))] ?_
 refine AWP.seq ?_
 refine .seq (.rg0 [] [(1,(slc 10 Za a1)),(2,(.sc (.func (.func 69) #[] #[]))),(8,(slc 10 Za r1.1)),(9,(i64 r1.2)),(17,(vb (r1.2 != (0:Int))))] ?_)
 refine AWP.cif hF (fun h8 hF=>?_) (fun h8 hF=>?_)
 ·refine .seq (.rg0 [] [(6,nils),(7,(i64 r1.2))] ?_)
  refine AWP.ret ?_
  have hr:=someb hF
  subst hr
  exact (FnQ.f1 0 (.inr rfl) (.inr ⟨_,_,rfl,rfl,(.cons _ _ _ _ (.nil 10) (.cons _ _ _ _ (.refl _) .nil))⟩))
 ·refine AWP.skip ?_
  refine AWP.seq ?_
  obtain ⟨r3,h4,hF⟩:=bindb hF
  refine AWP.rg0 [(1,.call Tryd.func78 [] (Zej a1 r3 h4))] [(2,(.sc (.func (.func 69) #[] #[]))),(8,(slc 10 Za r1.1)),(9,(i64 r3.2)),(10,(slc 10 Za r3.1))] ?_
  refine AWP.seq ?_
  refine .seq (.rg0 [] [(2,(.sc (.func (.func 69) #[] #[]))),(8,(slc 10 Za r1.1)),(9,(i64 r3.2)),(10,(slc 10 Za r3.1)),(25,(vb (r3.2 != (0:Int))))] ?_)
  refine AWP.cif hF (fun h7 hF=>?_) (fun h7 hF=>?_)
  ·refine .seq (.rg0 [] [(6,nils),(7,(i64 r3.2))] ?_)
   refine AWP.ret ?_
   have hr:=someb hF
   subst hr
   exact (FnQ.f1 0 (.inr rfl) (.inr ⟨_,_,rfl,rfl,(.cons _ _ _ _ (.nil 10) (.cons _ _ _ _ (.refl _) .nil))⟩))
  ·refine AWP.skip ?_
   refine AWP.seq ?_
   obtain ⟨r5,h6,hF⟩:=bindb hF
   refine AWP.rg0 [(3,.call Tryd.func76 [] (Zho r1.1 r3.1 r5 h6))] [(6,(slc 10 Za r5.1)),(7,(i64 r5.2))] ?_
   refine AWP.ret ?_
   have hr:=someb hF
   subst hr
   exact (FnQ.f0 0 (.inr rfl))
def Ziu (r:((List (Arr5 api_Range)) × Int)):PV→List Blk→Prop:=fun p K=>p=(.tup [(slc 10 Za r.1),(i64 r.2)])∧K=[]
theorem Ziv (a0:(List (Arr5 api_Range))) (a1:(List (Arr5 api_Range))) (r:((List (Arr5 api_Range)) × Int)) (hF:Zdn a0 a1=some r):ACall Tryd.prog glob 44 [(slc 10 Za a0),(slc 10 Za a1)] [] (Ziu r):=by
 refine ACall.body Tryd.func44 rfl (by kernel_rfl) ?_
 unfold Zdn at hF
 refine .seq (.rg0 [] [(0,(slc 10 Za a0)),(1,(slc 10 Za a1))] ?_)
 refine AWP.seq ?_
 obtain ⟨r1,h2,hF⟩:=bindb hF
 refine AWP.rg0 [(2,.call Tryd.func68 [] (Zil a0 a1 r1 h2))] [(4,(slc 10 Za r1.1)),(5,(i64 r1.2))] ?_
 refine AWP.ret ?_
 have hr:=someb hF
 subst hr
 exact (FnQ.f0 0 (.inr rfl))
def Zht (r:((List (Arr5 api_Range)) × rewrite_ledger)):PV→List Blk→Prop:=fun p K=>p=(slc 10 Za r.1)∧K=[.cells (Zh r.2)]
theorem Zcu (a0:rewrite_ledger) (a1:(List (Arr5 api_Range))) (a2:(List (Arr5 api_Range))) (r:((List (Arr5 api_Range)) × rewrite_ledger)) (hF:Zau a0 a1 a2=some r):ACall Tryd.prog glob 51 [(.ptr 0 0),(slc 10 Za a1),(slc 10 Za a2)] [.cells (Zh a0)] (Zht r):=by
 refine ACall.body Tryd.func51 rfl (by kernel_rfl) ?_
 unfold Zau at hF
 refine .seq (.rg0 [] [(0,(.ptr 0 0)),(1,(slc 10 Za a1)),(2,(slc 10 Za a2))] ?_)
 refine AWP.seq ?_
 obtain ⟨r1,h2,hF⟩:=bindb hF
 obtain ⟨r3,h4,hF⟩:=bindb hF
 refine AWP.rg [(3,.call Tryd.func44 [] (Ziv a1 a2 r1 h2)),(6,.call Tryd.func65 [] (Zei a0 r1.1 r1.2 r3 h4))] [(6,(slc 10 Za r3.1))] [.cells (Zh r3.2)] ?_
 refine AWP.ret ?_
 have hr:=someb hF
 subst hr
 exact (FnQ.f0 1 (.inr rfl))
def Zje (r:Bool):PV→List Blk→Prop:=fun p K=>p=(vb r)∧K=[]
theorem Zhi (a0:Bool) (a1:Bool) (r:Bool) (hF:Zdf a0 a1=some r):ACall Tryd.prog glob 79 [(vb a0),(vb a1)] [] (Zje r):=by
 refine ACall.body Tryd.func79 rfl (by kernel_rfl) ?_
 unfold Zdf at hF
 refine .seq (.rg0 [] [(0,(vb a0)),(1,(vb a1))] ?_)
 refine AWP.seq ?_
 obtain ⟨b1,h2,hF⟩:=bindb hF
 replace h2:=someb h2
 refine AWP.to [(4,(vb (b1 && (!a1))))] [] ?_ ?_
 ·cases b1 with
  | false=>
   exact AWP.rgT [(1,.bool h2)]
  | true=>
   exact AWP.rgT [(1,.bool h2)]
 refine AWP.ret ?_
 have hr:=someb hF
 subst hr
 exact (FnQ.f0 0 (.inr rfl))
def Zdl (r:((List (Arr5 api_Range)) × Bool)):PV→List Blk→Prop:=fun p K=>p=(.tup [(slc 10 Za r.1),(vb r.2)])∧K=[]
abbrev Zet (r:((List (Arr5 api_Range)) × Bool)):Exit→St→List Blk→Prop:=FnQ Tryd.prog Tryd.f85.results 0 (Zdl r)
theorem Zgi:∀ (nr:Nat) (a0:Int) (a1:(List (Arr5 api_Range))) (a2:(List (Arr5 api_Range))) (a3:Int) (r:((List (Arr5 api_Range)) × Bool)) (hF:Z2 nr a0 a1 a2 a3=some r),ACall Tryd.prog glob 85 [(i64 a0),(slc 10 Za a1),(slc 10 Za a2),(.sc (.func (.func 79) #[] #[])),(i64 a3)] [] (Zdl r):=by
 intro nr
 induction nr with
 | zero=>intro a0 a1 a2 a3 r hF; exact noneb (by rw [Z2] at hF; exact hF)
 | succ nr ih=>
  intro a0 a1 a2 a3 r hF
  refine ACall.body Tryd.func85 rfl (by kernel_rfl) ?_
  rw [Z2] at hF
  refine .seq (.rg0 [] [(0,(i64 a0)),(1,(slc 10 Za a1)),(2,(slc 10 Za a2)),(3,(.sc (.func (.func 79) #[] #[]))),(4,(i64 a3))] ?_)
  refine AWP.seq ?_
  refine .seq (.rg0 [] [(0,(i64 a0)),(1,(slc 10 Za a1)),(2,(slc 10 Za a2)),(3,(.sc (.func (.func 79) #[] #[]))),(4,(i64 a3)),(26,(vb (a0 == (5:Int))))] ?_)
  refine AWP.cif hF (fun h357 hF=>?_) (fun h357 hF=>?_)
  ·refine AWP.seq ?_
   refine AWP.seq ?_
   obtain ⟨r1,h2,hF⟩:=bindb hF
   refine AWP.rg0 [(2,.len Za a1),(5,.len Za a2),(7,.call Tryd.func79 [] (Zhi (decide ((List.length a1:Int) > (0:Int))) (decide ((List.length a2:Int) > (0:Int))) r1 h2))] [(34,(vb r1))] ?_
   refine AWP.cif hF (fun h3 hF=>?_) (fun h3 hF=>?_)
   ·refine .seq (.rg0 [] [(10,(slc 10 Za [(Arr5.mk Zj Zj Zj Zj Zj)])),(11,(vb true))] ?_)
    refine AWP.ret ?_
    have hr:=someb hF
    subst hr
    exact (FnQ.f0 0 (.inr rfl))
   ·refine AWP.skip ?_
    refine .seq (.rg0 [] [(10,nils),(11,(vb true))] ?_)
    refine AWP.ret ?_
    have hr:=someb hF
    subst hr
    exact (FnQ.f1 0 (.inr rfl) (.inr ⟨_,_,rfl,rfl,(.cons _ _ _ _ (.nil 10) (.cons _ _ _ _ (.refl _) .nil))⟩))
  ·refine AWP.skip ?_
   refine AWP.seq ?_
   refine AWP.seq ?_
   obtain ⟨b4,h5,hF⟩:=bindb hF
   replace h5:=someb h5
   obtain ⟨v8,h9,hF⟩:=bindb hF
   refine AWP.to [(0,(i64 a0)),(1,(slc 10 Za a1)),(2,(slc 10 Za a2)),(3,(.sc (.func (.func 79) #[] #[]))),(4,(i64 a3)),(47,(vb v8))] [] ?_ ?_
   ·cases b4 with
    | false=>
     have h10:=someb (ifF h9 rfl)
     subst h10
     exact AWP.rgT [(1,.len Za a1),(3,.len Za a2),(6,.bool h5)]
    | true=>
     have h11:=ifT h9 rfl
     obtain ⟨r6,h7,h11⟩:=bindb h11
     replace h11:=someb h11
     subst h11
     exact AWP.rgT [(1,.len Za a1),(3,.len Za a2),(6,.bool h5),(8,.call Tryd.func79 [] (Zhi false false r6 h7))]
   refine AWP.cif hF (fun h356 hF=>?_) (fun h356 hF=>?_)
   ·refine .seq (.rg0 [] [(10,nils),(11,(vb true))] ?_)
    refine AWP.ret ?_
    have hr:=someb hF
    subst hr
    exact (FnQ.f1 0 (.inr rfl) (.inr ⟨_,_,rfl,rfl,(.cons _ _ _ _ (.nil 10) (.cons _ _ _ _ (.refl _) .nil))⟩))
   ·refine AWP.skip ?_
    refine .seq (.rg0 [] [(0,(i64 a0)),(1,(slc 10 Za a1)),(2,(slc 10 Za a2)),(3,(.sc (.func (.func 79) #[] #[]))),(4,(i64 a3)),(12,nils)] ?_)
    refine AWP.own (H':=[bf 3 116 Zc ([]:(List packetset_group)) false]) (st':=[(12,(.own 0 (List.length ([]:(List packetset_group))))),(0,(i64 a0)),(1,(slc 10 Za a1)),(2,(slc 10 Za a2)),(3,(.sc (.func (.func 79) #[] #[]))),(4,(i64 a3))]) 12 3 116 (by kernel_rfl) (by kernel_rfl) (by kernel_rfl) ?_
    refine AWP.pick (st':=[(0,(i64 a0)),(1,(slc 10 Za a1)),(2,(slc 10 Za a2)),(3,(.sc (.func (.func 79) #[] #[]))),(4,(i64 a3)),(12,(.own 0 (List.length ([]:(List packetset_group)))))]) (ks:=[0,1,2,3,4,12]) (by kernel_rfl) ?_
    refine .seq (.rg0 [] [(0,(i64 a0)),(1,(slc 10 Za a1)),(2,(slc 10 Za a2)),(3,(.sc (.func (.func 79) #[] #[]))),(4,(i64 a3)),(12,(.own 0 (List.length ([]:(List packetset_group))))),(13,(i64 (0:Int)))] ?_)
    refine AWP.seq ?_
    obtain ⟨r12,h13,hF⟩:=bindb hF
    refine AWP.rg0 [(4,.call Tryd.func87 [] (Zgs a0 [a1,a2] r12 h13))] [(0,(i64 a0)),(1,(slc 10 Za a1)),(2,(slc 10 Za a2)),(3,(.sc (.func (.func 79) #[] #[]))),(4,(i64 a3)),(12,(.own 0 (List.length ([]:(List packetset_group))))),(13,(i64 (0:Int))),(14,(slc 1 Zb r12))] ?_
    refine AWP.seq ?_
    refine .seq (.rg0 [] [(0,(i64 a0)),(1,(slc 10 Za a1)),(2,(slc 10 Za a2)),(3,(.sc (.func (.func 79) #[] #[]))),(4,(i64 a3)),(12,(.own 0 (List.length ([]:(List packetset_group))))),(13,(i64 (0:Int))),(14,(slc 1 Zb r12)),(15,(i64 (0:Int)))] ?_)
    obtain ⟨o177,h178,hF⟩:=bindb hF
    refine AWP.mid (fun e st H=>(e=.normal∧∃ (v175:(List packetset_group)),∃ (v176:Int),o177=(.inl (v175,v176))∧st=[(0,(i64 a0)),(12,(.own 0 (List.length v175))),(13,(i64 v176))]∧H=[bf 3 116 Zc v175 false])∨(e=.ret∧∃ (r:((List (Arr5 api_Range)) × Bool)),o177=(.inr r)∧Zet r e st H)) ?_ ?_
    ·clear hF
     refine AWP.kp [0,1,2,3,4,12,13,14,15] 1 ?_
     refine AWP.bround (fun n st H=>∃ (v94:(List packetset_group)),∃ (v95:Int),∃ (v96:Int),Za4 a0 a1 a2 a3 (Z2 nr) r12 n v94 v95 v96=some o177∧st=[(0,(i64 a0)),(1,(slc 10 Za a1)),(2,(slc 10 Za a2)),(3,(.sc (.func (.func 79) #[] #[]))),(4,(i64 a3)),(12,(.own 0 (List.length v94))),(13,(i64 v95)),(14,(slc 1 Zb r12)),(15,(i64 v96))]∧H=[bf 3 116 Zc v94 false]) fuel ⟨([]:(List packetset_group)),(0:Int),(0:Int),h178,by kernel_rfl,by kernel_rfl⟩ ?_
     rintro n179 st H ⟨v94,v95,v96,hF,rfl,rfl⟩
     cases n179 with
     | zero=>exact noneb hF
     | succ n179=>
      rw [Za4] at hF
      refine AWP.seq ?_
      refine .seq (.rg0 [(3,.len Zb r12)] [(0,(i64 a0)),(1,(slc 10 Za a1)),(2,(slc 10 Za a2)),(3,(.sc (.func (.func 79) #[] #[]))),(4,(i64 a3)),(12,(.own 0 (List.length v94))),(13,(i64 v95)),(14,(slc 1 Zb r12)),(15,(i64 v96)),(57,(vb (decide ((IntKind.wrap .i64 (v96 + (1:Int)))<(List.length r12:Int)))))] ?_)
      refine AWP.cif hF (fun h257 hF=>?_) (fun h257 hF=>?_)
      ·refine AWP.skip ?_
       obtain ⟨o218,h219,hF⟩:=bindb hF
       refine AWP.seq ?_
       refine AWP.mid (fun e st H=>(e=.normal∧∃ (v216:(List packetset_group)),∃ (v217:Int),o218=(.inl (v216,v217))∧st=[(0,(i64 a0)),(1,(slc 10 Za a1)),(2,(slc 10 Za a2)),(3,(.sc (.func (.func 79) #[] #[]))),(4,(i64 a3)),(12,(.own 0 (List.length v216))),(13,(i64 v217)),(14,(slc 1 Zb r12)),(15,(i64 v96))]∧H=[bf 3 116 Zc v216 false])∨(e=.ret∧∃ (r:((List (Arr5 api_Range)) × Bool)),o218=(.inr r)∧Zet r e st H)) ?_ ?_
       ·clear hF
        have hF:=h219
        refine AWP.block ?_
        refine AWP.seq ?_
        obtain ⟨x220,h221,hF⟩:=bindb hF
        obtain ⟨x222,h223,hF⟩:=bindb hF
        refine AWP.dr [(2,.idx Zb h221),(8,.idx Zb h223)] 14 [] [13] [] [(0,(i64 a0)),(1,(slc 10 Za a1)),(2,(slc 10 Za a2)),(3,(.sc (.func (.func 79) #[] #[]))),(4,(i64 a3)),(12,(.own 0 (List.length v94))),(13,(i64 v95)),(14,(slc 1 Zb r12)),(15,(i64 v96)),(16,(.ptr 1 0))] [bf 3 116 Zc v94 false,.cells (Zg (api_Range.mk (IntKind.wrap .u32 x220) (IntKind.wrap .u32 (IntKind.wrap .u64 (x222 - (1:Int))))))] ?_
        refine AWP.seq ?_
        obtain ⟨r224,h225,hF⟩:=bindb hF
        obtain ⟨r226,h227,hF⟩:=bindb hF
        obtain ⟨r228,h229,hF⟩:=bindb hF
        refine AWP.dr [(6,.call Tryd.func88 [] (Zc8 a1 a0 (IntKind.wrap .u32 x220) r224 h225)),(11,.call Tryd.func88 [] (Zc8 a2 a0 (IntKind.wrap .u32 x220) r226 h227)),(14,.call Tryd.func85 [] (ih (IntKind.wrap .i64 (a0 + (1:Int))) r224 r226 a3 r228 h229))] 19 [] [] [] [(0,(i64 a0)),(1,(slc 10 Za a1)),(2,(slc 10 Za a2)),(3,(.sc (.func (.func 79) #[] #[]))),(4,(i64 a3)),(12,(.own 0 (List.length v94))),(13,(i64 v95)),(14,(slc 1 Zb r12)),(15,(i64 v96)),(16,(.ptr 1 0)),(17,(slc 10 Za r228.1)),(18,(vb r228.2))] [bf 3 116 Zc v94 false,.cells (Zg (api_Range.mk (IntKind.wrap .u32 x220) (IntKind.wrap .u32 (IntKind.wrap .u64 (x222 - (1:Int))))))] ?_
        refine AWP.seq ?_
        refine .seq (.rg0 [] [(0,(i64 a0)),(1,(slc 10 Za a1)),(2,(slc 10 Za a2)),(3,(.sc (.func (.func 79) #[] #[]))),(4,(i64 a3)),(12,(.own 0 (List.length v94))),(13,(i64 v95)),(14,(slc 1 Zb r12)),(15,(i64 v96)),(16,(.ptr 1 0)),(17,(slc 10 Za r228.1)),(92,(vb (!r228.2)))] ?_)
        refine AWP.cif hF (fun h255 hF=>?_) (fun h255 hF=>?_)
        ·refine .seq (.rg0 [] [(10,nils),(11,(vb false))] ?_)
         refine AWP.ret ?_
         exact LeQ.of (.inr ⟨rfl,(([]:(List (Arr5 api_Range))),false),(someb hF).symm,(FnQ.f1 0 (.inr rfl) (.inr ⟨_,_,rfl,rfl,(.cons _ _ _ _ (.nil 10) (.cons _ _ _ _ (.refl _) .nil))⟩))⟩)
        ·refine AWP.skip ?_
         refine AWP.seq ?_
         refine .seq (.rg0 [(1,.len Za r228.1)] [(0,(i64 a0)),(1,(slc 10 Za a1)),(2,(slc 10 Za a2)),(3,(.sc (.func (.func 79) #[] #[]))),(4,(i64 a3)),(12,(.own 0 (List.length v94))),(13,(i64 v95)),(14,(slc 1 Zb r12)),(15,(i64 v96)),(16,(.ptr 1 0)),(17,(slc 10 Za r228.1)),(95,(vb ((List.length r228.1:Int) == (0:Int))))] ?_)
         refine AWP.cif hF (fun h254 hF=>?_) (fun h254 hF=>?_)
         ·refine AWP.exit ?_
          refine LeQ.start ?_
          refine LeQ.pk [0,1,2,3,4,12,13,14,15] 1 ?_
          exact (.inl ⟨rfl,v94,v95,(someb hF).symm,by kernel_rfl,by kernel_rfl⟩)
         ·refine AWP.skip ?_
          refine AWP.seq ?_
          refine .seq (.rg0 [(1,.len Zc v94)] [(0,(i64 a0)),(1,(slc 10 Za a1)),(2,(slc 10 Za a2)),(3,(.sc (.func (.func 79) #[] #[]))),(4,(i64 a3)),(12,(.own 0 (List.length v94))),(13,(i64 v95)),(14,(slc 1 Zb r12)),(15,(i64 v96)),(16,(.ptr 1 0)),(17,(slc 10 Za r228.1)),(19,(i64 (List.length v94:Int)))] ?_)
          refine AWP.seq ?_
          obtain ⟨b230,h231,hF⟩:=bindb hF
          replace h231:=someb h231
          obtain ⟨v234,h235,hF⟩:=bindb hF
          obtain ⟨b236,h237,hF⟩:=bindb hF
          replace h237:=someb h237
          obtain ⟨v242,h243,hF⟩:=bindb hF
          refine AWP.to [(0,(i64 a0)),(1,(slc 10 Za a1)),(2,(slc 10 Za a2)),(3,(.sc (.func (.func 79) #[] #[]))),(4,(i64 a3)),(12,(.own 0 (List.length v94))),(13,(i64 v95)),(14,(slc 1 Zb r12)),(15,(i64 v96)),(16,(.ptr 1 0)),(17,(slc 10 Za r228.1)),(19,(i64 (List.length v94:Int))),(122,(vb v242))] [bf 3 116 Zc v94 false,.cells (Zg (api_Range.mk (IntKind.wrap .u32 x220) (IntKind.wrap .u32 (IntKind.wrap .u64 (x222 - (1:Int))))))] ?_ ?_
          ·cases b230 with
           | false=>
            have h244:=someb (ifF h235 rfl)
            subst h244
            subst h237
            have h245:=someb (ifF h243 rfl)
            subst h245
            exact AWP.drT [(2,.bool h231)] 25 [] [] []
           | true=>
            have h246:=ifT h235 rfl
            obtain ⟨x232,h233,h246⟩:=bindb h246
            replace h246:=someb h246
            subst h246
            cases b236 with
            | false=>
             have h247:=someb (ifF h243 rfl)
             subst h247
             exact AWP.drT [(2,.bool h231),(6,.idx Zc h233),(7,.fdE Zc v94 (IntKind.wrap .i64 ((List.length v94:Int) - (1:Int)))),(8,.fdE Zc v94 (IntKind.wrap .i64 ((List.length v94:Int) - (1:Int)))),(9,.ldE Zc h233),(15,.bool h237)] 25 [] [] []
            | true=>
             have h248:=ifT h243 rfl
             obtain ⟨x238,h239,h248⟩:=bindb h248
             obtain ⟨r240,h241,h248⟩:=bindb h248
             replace h248:=someb h248
             subst h248
             exact AWP.drT [(2,.bool h231),(6,.idx Zc h233),(7,.fdE Zc v94 (IntKind.wrap .i64 ((List.length v94:Int) - (1:Int)))),(8,.fdE Zc v94 (IntKind.wrap .i64 ((List.length v94:Int) - (1:Int)))),(9,.ldE Zc h233),(15,.bool h237),(19,.idx Zc h239),(20,.fdE Zc v94 (IntKind.wrap .i64 ((List.length v94:Int) - (1:Int)))),(21,.ldE Zc h239),(23,.call Tryd.func84 [] (Zcz x238.f_rest r228.1 r240 h241))] 25 [] [] []
          refine AWP.cif hF (fun h253 hF=>?_) (fun h253 hF=>?_)
          ·refine AWP.seq ?_
           obtain ⟨x249,h250,hF⟩:=bindb hF
           refine AWP.rg [(5,.idx Zc h250),(6,.fdE Zc v94 (IntKind.wrap .i64 ((List.length v94:Int) - (1:Int)))),(7,.fdE Zc v94 (IntKind.wrap .i64 ((List.length v94:Int) - (1:Int)))),(8,.stE Zc h250 ({ x249 with f_values:=({ x249.f_values with Hi:=(IntKind.wrap .u32 (IntKind.wrap .u64 (x222 - (1:Int)))) }:api_Range) }:packetset_group))] [(0,(i64 a0)),(1,(slc 10 Za a1)),(2,(slc 10 Za a2)),(3,(.sc (.func (.func 79) #[] #[]))),(4,(i64 a3)),(12,(.own 0 (List.length v94))),(13,(i64 v95)),(14,(slc 1 Zb r12)),(15,(i64 v96))] [bf 3 116 Zc (List.set v94 (Int.toNat (IntKind.wrap .i64 ((List.length v94:Int) - (1:Int)))) ({ x249 with f_values:=({ x249.f_values with Hi:=(IntKind.wrap .u32 (IntKind.wrap .u64 (x222 - (1:Int)))) }:api_Range) }:packetset_group)) false,.cells (Zg (api_Range.mk (IntKind.wrap .u32 x220) (IntKind.wrap .u32 (IntKind.wrap .u64 (x222 - (1:Int))))))] ?_
           rw [show ([(0,(i64 a0)),(1,(slc 10 Za a1)),(2,(slc 10 Za a2)),(3,(.sc (.func (.func 79) #[] #[]))),(4,(i64 a3)),(12,(.own 0 (List.length v94))),(13,(i64 v95)),(14,(slc 1 Zb r12)),(15,(i64 v96))]:St)=[(0,(i64 a0)),(1,(slc 10 Za a1)),(2,(slc 10 Za a2)),(3,(.sc (.func (.func 79) #[] #[]))),(4,(i64 a3)),(12,(.own 0 (List.length (List.set v94 (Int.toNat (IntKind.wrap .i64 ((List.length v94:Int) - (1:Int)))) ({ x249 with f_values:=({ x249.f_values with Hi:=(IntKind.wrap .u32 (IntKind.wrap .u64 (x222 - (1:Int)))) }:api_Range) }:packetset_group))))),(13,(i64 v95)),(14,(slc 1 Zb r12)),(15,(i64 v96))] by simp only [List.length_set]]
           refine AWP.exit ?_
           refine LeQ.start ?_
           refine LeQ.pk [0,1,2,3,4,12,13,14,15] 1 ?_
           exact (.inl ⟨rfl,(List.set v94 (Int.toNat (IntKind.wrap .i64 ((List.length v94:Int) - (1:Int)))) ({ x249 with f_values:=({ x249.f_values with Hi:=(IntKind.wrap .u32 (IntKind.wrap .u64 (x222 - (1:Int)))) }:api_Range) }:packetset_group)),v95,(someb hF).symm,by kernel_rfl,by kernel_rfl⟩)
          ·refine AWP.skip ?_
           refine AWP.seq ?_
           obtain ⟨h251,hF⟩:=chkb hF
           refine AWP.rg [(5,.app Zc (fun _=>by kernel_rfl) h251)] [(0,(i64 a0)),(1,(slc 10 Za a1)),(2,(slc 10 Za a2)),(3,(.sc (.func (.func 79) #[] #[]))),(4,(i64 a3)),(12,(.own 0 (List.length (v94++[(packetset_group.mk (api_Range.mk (IntKind.wrap .u32 x220) (IntKind.wrap .u32 (IntKind.wrap .u64 (x222 - (1:Int))))) r228.1)])))),(13,(i64 v95)),(14,(slc 1 Zb r12)),(15,(i64 v96)),(17,(slc 10 Za r228.1))] [bf 3 116 Zc (v94++[(packetset_group.mk (api_Range.mk (IntKind.wrap .u32 x220) (IntKind.wrap .u32 (IntKind.wrap .u64 (x222 - (1:Int))))) r228.1)]) false,.cells (Zg (api_Range.mk (IntKind.wrap .u32 x220) (IntKind.wrap .u32 (IntKind.wrap .u64 (x222 - (1:Int))))))] ?_
           refine .seq (.rg0 [(2,.len Za r228.1)] [(0,(i64 a0)),(1,(slc 10 Za a1)),(2,(slc 10 Za a2)),(3,(.sc (.func (.func 79) #[] #[]))),(4,(i64 a3)),(12,(.own 0 (List.length (v94++[(packetset_group.mk (api_Range.mk (IntKind.wrap .u32 x220) (IntKind.wrap .u32 (IntKind.wrap .u64 (x222 - (1:Int))))) r228.1)])))),(13,(i64 (IntKind.wrap .i64 (v95 + (List.length r228.1:Int))))),(14,(slc 1 Zb r12)),(15,(i64 v96))] ?_)
           refine .seq (.rg0 [] [(0,(i64 a0)),(1,(slc 10 Za a1)),(2,(slc 10 Za a2)),(3,(.sc (.func (.func 79) #[] #[]))),(4,(i64 a3)),(12,(.own 0 (List.length (v94++[(packetset_group.mk (api_Range.mk (IntKind.wrap .u32 x220) (IntKind.wrap .u32 (IntKind.wrap .u64 (x222 - (1:Int))))) r228.1)])))),(13,(i64 (IntKind.wrap .i64 (v95 + (List.length r228.1:Int))))),(14,(slc 1 Zb r12)),(15,(i64 v96)),(143,(vb (decide ((IntKind.wrap .i64 (v95 + (List.length r228.1:Int))) > a3))))] ?_)
           refine AWP.cif hF (fun h252 hF=>?_) (fun h252 hF=>?_)
           ·refine .seq (.rg0 [] [(10,nils),(11,(vb false))] ?_)
            refine AWP.ret ?_
            exact LeQ.of (.inr ⟨rfl,(([]:(List (Arr5 api_Range))),false),(someb hF).symm,(FnQ.f1 0 (.inr rfl) (.inr ⟨_,_,rfl,rfl,(.cons _ _ _ _ (.nil 10) (.cons _ _ _ _ (.refl _) .nil))⟩))⟩)
           ·refine AWP.skip ?_
            refine LeQ.start ?_
            refine LeQ.pk [0,1,2,3,4,12,13,14,15] 1 ?_
            exact (.inl ⟨rfl,(v94++[(packetset_group.mk (api_Range.mk (IntKind.wrap .u32 x220) (IntKind.wrap .u32 (IntKind.wrap .u64 (x222 - (1:Int))))) r228.1)]),(IntKind.wrap .i64 (v95 + (List.length r228.1:Int))),(someb hF).symm,by kernel_rfl,by kernel_rfl⟩)
       ·rintro _ _ _ (⟨rfl,v216,v217,rfl,rfl,rfl⟩ | ⟨rfl,r256,rfl,hq⟩)
        ·refine AWP.rg0 [] [(0,(i64 a0)),(1,(slc 10 Za a1)),(2,(slc 10 Za a2)),(3,(.sc (.func (.func 79) #[] #[]))),(4,(i64 a3)),(12,(.own 0 (List.length v216))),(13,(i64 v217)),(14,(slc 1 Zb r12)),(15,(i64 (IntKind.wrap .i64 (v96 + (1:Int)))))] ?_
         refine LeQ.start ?_
         refine LeQ.pk [0,1,2,3,4,12,13,14,15] 1 ?_
         exact ⟨n179,Nat.lt_succ_self _,v216,v217,(IntKind.wrap .i64 (v96 + (1:Int))),hF,by kernel_rfl,by kernel_rfl⟩
        ·exact LeQ.of (.inr ⟨rfl,r256,(someb hF).symm,hq⟩)
      ·refine AWP.exit ?_
       refine LeQ.start ?_
       refine LeQ.pk [0,12,13] 1 ?_
       exact (.inl ⟨rfl,v94,v95,(someb hF).symm,by kernel_rfl,by kernel_rfl⟩)
    ·rintro _ _ _ (⟨rfl,v175,v176,rfl,rfl,rfl⟩ | ⟨rfl,r355,rfl,hq⟩)
     ·refine AWP.seq ?_
      obtain ⟨h258,hF⟩:=chkb hF
      refine AWP.rg [(1,.mk0 Za h258)] [(0,(i64 a0)),(12,(.own 0 (List.length v175))),(20,(.own 1 (List.length ([]:(List (Arr5 api_Range))))))] [bf 3 116 Zc v175 false,bf 10 50 Za ([]:(List (Arr5 api_Range))) false] ?_
      refine AWP.seq ?_
      refine .seq (.rg0 [(1,.len Zc v175)] [(0,(i64 a0)),(20,(.own 1 (List.length ([]:(List (Arr5 api_Range)))))),(146,(.own 0 (List.length v175))),(147,(i64 (List.length v175:Int))),(148,(i64 (0:Int)))] ?_)
      obtain ⟨v322,h323,hF⟩:=bindb hF
      refine AWP.mid (fun e st H=>e=.normal∧st=[(20,(.own 1 (List.length v322)))]∧H=[bf 3 116 Zc v175 false,bf 10 50 Za v322 false]) ?_ ?_
      ·clear hF
       refine AWP.kp [0,20,146,147,148] 2 ?_
       refine AWP.bround (fun n st H=>∃ (v290:(List (Arr5 api_Range))),∃ (v291:Int),Za6 a0 v175 n v290 v291=some v322∧st=[(0,(i64 a0)),(20,(.own 1 (List.length v290))),(146,(.own 0 (List.length v175))),(147,(i64 (List.length v175:Int))),(148,(i64 v291))]∧H=[bf 3 116 Zc v175 false,bf 10 50 Za v290 false]) fuel ⟨([]:(List (Arr5 api_Range))),(0:Int),h323,by kernel_rfl,by kernel_rfl⟩ ?_
       rintro n324 st H ⟨v290,v291,hF,rfl,rfl⟩
       cases n324 with
       | zero=>exact noneb hF
       | succ n324=>
        rw [Za6] at hF
        refine .seq (.rg0 [] [(0,(i64 a0)),(20,(.own 1 (List.length v290))),(146,(.own 0 (List.length v175))),(147,(i64 (List.length v175:Int))),(148,(i64 v291)),(149,(vb (decide (v291<(List.length v175:Int)))))] ?_)
        refine AWP.seq ?_
        refine AWP.cif hF (fun h354 hF=>?_) (fun h354 hF=>?_)
        ·refine AWP.skip ?_
         refine AWP.seq ?_
         refine AWP.block ?_
         refine AWP.seq ?_
         obtain ⟨x325,h326,hF⟩:=bindb hF
         refine AWP.rg [(0,.idx Zc h326),(1,.ldE Zc h326)] [(0,(i64 a0)),(20,(.own 1 (List.length v290))),(22,(.ptr 2 0)),(146,(.own 0 (List.length v175))),(147,(i64 (List.length v175:Int))),(148,(i64 v291))] [bf 3 116 Zc v175 false,bf 10 50 Za v290 false,.cells (Zc x325)] ?_
         refine .seq (.rg0 [(2,.len Za x325.f_rest)] [(0,(i64 a0)),(20,(.own 1 (List.length v290))),(22,(.ptr 2 0)),(146,(.own 0 (List.length v175))),(147,(i64 (List.length v175:Int))),(148,(i64 v291)),(153,(slc 10 Za x325.f_rest)),(154,(i64 (List.length x325.f_rest:Int))),(155,(i64 (0:Int)))] ?_)
         obtain ⟨v344,h345,hF⟩:=bindb hF
         refine AWP.mid (fun e st H=>e=.normal∧st=[(0,(i64 a0)),(20,(.own 1 (List.length v344))),(146,(.own 0 (List.length v175))),(147,(i64 (List.length v175:Int))),(148,(i64 v291))]∧H=[bf 3 116 Zc v175 false,bf 10 50 Za v344 false,.cells (Zc x325)]) ?_ ?_
         ·clear hF
          refine AWP.kp [0,20,22,146,147,148,153,154,155] 3 ?_
          refine AWP.bround (fun n st H=>∃ (v335:(List (Arr5 api_Range))),∃ (v336:Int),Za5 a0 x325 n v335 v336=some v344∧st=[(0,(i64 a0)),(20,(.own 1 (List.length v335))),(22,(.ptr 2 0)),(146,(.own 0 (List.length v175))),(147,(i64 (List.length v175:Int))),(148,(i64 v291)),(153,(slc 10 Za x325.f_rest)),(154,(i64 (List.length x325.f_rest:Int))),(155,(i64 v336))]∧H=[bf 3 116 Zc v175 false,bf 10 50 Za v335 false,.cells (Zc x325)]) fuel ⟨v290,(0:Int),h345,by kernel_rfl,by kernel_rfl⟩ ?_
          rintro n346 st H ⟨v335,v336,hF,rfl,rfl⟩
          cases n346 with
          | zero=>exact noneb hF
          | succ n346=>
           rw [Za5] at hF
           refine .seq (.rg0 [] [(0,(i64 a0)),(20,(.own 1 (List.length v335))),(22,(.ptr 2 0)),(146,(.own 0 (List.length v175))),(147,(i64 (List.length v175:Int))),(148,(i64 v291)),(153,(slc 10 Za x325.f_rest)),(154,(i64 (List.length x325.f_rest:Int))),(155,(i64 v336)),(156,(vb (decide (v336<(List.length x325.f_rest:Int)))))] ?_)
           refine AWP.seq ?_
           refine AWP.cif hF (fun h353 hF=>?_) (fun h353 hF=>?_)
           ·refine AWP.skip ?_
            refine AWP.seq ?_
            refine AWP.block ?_
            refine AWP.seq ?_
            obtain ⟨x347,h348,hF⟩:=bindb hF
            refine AWP.rg [(0,.idx Za h348)] [(0,(i64 a0)),(20,(.own 1 (List.length v335))),(22,(.ptr 2 0)),(24,(.ptr 3 0)),(146,(.own 0 (List.length v175))),(147,(i64 (List.length v175:Int))),(148,(i64 v291)),(153,(slc 10 Za x325.f_rest)),(154,(i64 (List.length x325.f_rest:Int))),(155,(i64 v336))] [bf 3 116 Zc v175 false,bf 10 50 Za v335 false,.cells (Zc x325),.cells (Za x347)] ?_
            refine AWP.seq ?_
            obtain ⟨h349,hF⟩:=chkb hF
            refine AWP.rg [(3,.ixd h349),(4,.stA (fun q351=>Za (Arr5.set x347 q351 x325.f_values)) 0 2 0 h349)] [(0,(i64 a0)),(20,(.own 1 (List.length v335))),(22,(.ptr 2 0)),(24,(.ptr 3 0)),(146,(.own 0 (List.length v175))),(147,(i64 (List.length v175:Int))),(148,(i64 v291)),(153,(slc 10 Za x325.f_rest)),(154,(i64 (List.length x325.f_rest:Int))),(155,(i64 v336))] [bf 3 116 Zc v175 false,bf 10 50 Za v335 false,.cells (Zc x325),.cells (Za (Arr5.set x347 a0 x325.f_values))] ?_
            obtain ⟨h352,hF⟩:=chkb hF
            refine AWP.rg [(3,.app Za (fun _=>by kernel_rfl) h352)] [(0,(i64 a0)),(20,(.own 1 (List.length (v335++[(Arr5.set x347 a0 x325.f_values)])))),(22,(.ptr 2 0)),(146,(.own 0 (List.length v175))),(147,(i64 (List.length v175:Int))),(148,(i64 v291)),(153,(slc 10 Za x325.f_rest)),(154,(i64 (List.length x325.f_rest:Int))),(155,(i64 v336))] [bf 3 116 Zc v175 false,bf 10 50 Za (v335++[(Arr5.set x347 a0 x325.f_values)]) false,.cells (Zc x325),.cells (Za (Arr5.set x347 a0 x325.f_values))] ?_
            refine AWP.rg0 [] [(0,(i64 a0)),(20,(.own 1 (List.length (v335++[(Arr5.set x347 a0 x325.f_values)])))),(22,(.ptr 2 0)),(146,(.own 0 (List.length v175))),(147,(i64 (List.length v175:Int))),(148,(i64 v291)),(153,(slc 10 Za x325.f_rest)),(154,(i64 (List.length x325.f_rest:Int))),(155,(i64 (IntKind.wrap .i64 (v336 + (1:Int)))))] ?_
            refine LeQ.start ?_
            refine LeQ.pk [0,20,22,146,147,148,153,154,155] 3 ?_
            exact ⟨n346,Nat.lt_succ_self _,(v335++[(Arr5.set x347 a0 x325.f_values)]),(IntKind.wrap .i64 (v336 + (1:Int))),hF,by kernel_rfl,by kernel_rfl⟩
           ·refine AWP.exit ?_
            refine LeQ.start ?_
            refine LeQ.pk [0,20,146,147,148] 3 ?_
            have hr:=someb hF
            subst hr
            exact ⟨rfl,by kernel_rfl,by kernel_rfl⟩
         ·rintro _ _ _ ⟨rfl,rfl,rfl⟩
          refine AWP.rg0 [] [(0,(i64 a0)),(20,(.own 1 (List.length v344))),(146,(.own 0 (List.length v175))),(147,(i64 (List.length v175:Int))),(148,(i64 (IntKind.wrap .i64 (v291 + (1:Int)))))] ?_
          refine LeQ.start ?_
          refine LeQ.pk [0,20,146,147,148] 2 ?_
          exact ⟨n324,Nat.lt_succ_self _,v344,(IntKind.wrap .i64 (v291 + (1:Int))),hF,by kernel_rfl,by kernel_rfl⟩
        ·refine AWP.exit ?_
         refine LeQ.start ?_
         refine LeQ.pk [20] 2 ?_
         have hr:=someb hF
         subst hr
         exact ⟨rfl,by kernel_rfl,by kernel_rfl⟩
      ·rintro _ _ _ ⟨rfl,rfl,rfl⟩
       refine .seq (.rg0 [] [(10,(.own 1 (List.length v322))),(11,(vb true))] ?_)
       refine AWP.ret ?_
       have hr:=someb hF
       subst hr
       exact (FnQ.f1 0 (.inr rfl) (.inr ⟨_,_,rfl,rfl,(.cons _ _ _ _ (Wk.ownT (i:=1) (s:=10) (t:=50) (l:=v322) (sh:=false) (row:=Za) (by kernel_rfl) (.inl rfl)) (.cons _ _ _ _ (.refl _) .nil))⟩))
     ·have hr:=someb hF
      subst hr
      exact hq
theorem Zgt (a0:Int) (a1:(List (Arr5 api_Range))) (a2:(List (Arr5 api_Range))) (a3:Int) (r:((List (Arr5 api_Range)) × Bool)) (hF:Z2 fuel a0 a1 a2 a3=some r):ACall Tryd.prog glob 85 [(i64 a0),(slc 10 Za a1),(slc 10 Za a2),(.sc (.func (.func 79) #[] #[])),(i64 a3)] [] (Zdl r):=Zgi fuel a0 a1 a2 a3 r hF
def Zg9 (r:((List (Arr5 api_Range)) × Int)):PV→List Blk→Prop:=fun p K=>p=(.tup [(slc 10 Za r.1),(i64 r.2)])∧K=[]
theorem Zha (a0:(List (Arr5 api_Range))) (a1:(List (Arr5 api_Range))) (r:((List (Arr5 api_Range)) × Int)) (hF:Zca a0 a1=some r):ACall Tryd.prog glob 76 [(slc 10 Za a0),(slc 10 Za a1),(.sc (.func (.func 79) #[] #[]))] [] (Zg9 r):=by
 refine ACall.body Tryd.func76 rfl (by kernel_rfl) ?_
 unfold Zca at hF
 refine .seq (.rg0 [] [(0,(slc 10 Za a0)),(1,(slc 10 Za a1)),(2,(.sc (.func (.func 79) #[] #[])))] ?_)
 refine AWP.seq ?_
 obtain ⟨r1,h2,hF⟩:=bindb hF
 refine AWP.rg0 [(3,.call Tryd.func85 [] (Zgt (0:Int) a0 a1 (4096:Int) r1 h2))] [(8,(slc 10 Za r1.1)),(9,(vb r1.2))] ?_
 refine AWP.seq ?_
 refine .seq (.rg0 [] [(8,(slc 10 Za r1.1)),(18,(vb (!r1.2)))] ?_)
 refine AWP.cif hF (fun h3 hF=>?_) (fun h3 hF=>?_)
 ·refine .seq (.rg0 [] [(6,nils),(7,(i64 (3:Int)))] ?_)
  refine AWP.ret ?_
  have hr:=someb hF
  subst hr
  exact (FnQ.f1 0 (.inr rfl) (.inr ⟨_,_,rfl,rfl,(.cons _ _ _ _ (.nil 10) (.cons _ _ _ _ (.refl _) .nil))⟩))
 ·refine AWP.skip ?_
  refine .seq (.rg0 [] [(6,(slc 10 Za r1.1)),(7,(i64 (0:Int)))] ?_)
  refine AWP.ret ?_
  have hr:=someb hF
  subst hr
  exact (FnQ.f0 0 (.inr rfl))
def Zhx (r:((List (Arr5 api_Range)) × Int)):PV→List Blk→Prop:=fun p K=>p=(.tup [(slc 10 Za r.1),(i64 r.2)])∧K=[]
theorem Zhy (a0:(List (Arr5 api_Range))) (a1:(List (Arr5 api_Range))) (r:((List (Arr5 api_Range)) × Int)) (hF:Zdo a0 a1=some r):ACall Tryd.prog glob 68 [(slc 10 Za a0),(slc 10 Za a1),(.sc (.func (.func 79) #[] #[]))] [] (Zhx r):=by
 refine ACall.body Tryd.func68 rfl (by kernel_rfl) ?_
 unfold Zdo at hF
 refine .seq (.rg0 [] [(0,(slc 10 Za a0)),(1,(slc 10 Za a1)),(2,(.sc (.func (.func 79) #[] #[])))] ?_)
 refine AWP.seq ?_
 obtain ⟨r1,h2,hF⟩:=bindb hF
 refine AWP.rg0 [(1,.call Tryd.func78 [] (Zej a0 r1 h2))] [(1,(slc 10 Za a1)),(2,(.sc (.func (.func 79) #[] #[]))),(8,(slc 10 Za r1.1)),(9,(i64 r1.2))] ?_
 refine AWP.seq ?_
 refine .seq (.rg0 [] [(1,(slc 10 Za a1)),(2,(.sc (.func (.func 79) #[] #[]))),(8,(slc 10 Za r1.1)),(9,(i64 r1.2)),(17,(vb (r1.2 != (0:Int))))] ?_)
 refine AWP.cif hF (fun h8 hF=>?_) (fun h8 hF=>?_)
 ·refine .seq (.rg0 [] [(6,nils),(7,(i64 r1.2))] ?_)
  refine AWP.ret ?_
  have hr:=someb hF
  subst hr
  exact (FnQ.f1 0 (.inr rfl) (.inr ⟨_,_,rfl,rfl,(.cons _ _ _ _ (.nil 10) (.cons _ _ _ _ (.refl _) .nil))⟩))
 ·refine AWP.skip ?_
  refine AWP.seq ?_
  obtain ⟨r3,h4,hF⟩:=bindb hF
  refine AWP.rg0 [(1,.call Tryd.func78 [] (Zej a1 r3 h4))] [(2,(.sc (.func (.func 79) #[] #[]))),(8,(slc 10 Za r1.1)),(9,(i64 r3.2)),(10,(slc 10 Za r3.1))] ?_
  refine AWP.seq ?_
  refine .seq (.rg0 [] [(2,(.sc (.func (.func 79) #[] #[]))),(8,(slc 10 Za r1.1)),(9,(i64 r3.2)),(10,(slc 10 Za r3.1)),(25,(vb (r3.2 != (0:Int))))] ?_)
  refine AWP.cif hF (fun h7 hF=>?_) (fun h7 hF=>?_)
  ·refine .seq (.rg0 [] [(6,nils),(7,(i64 r3.2))] ?_)
   refine AWP.ret ?_
   have hr:=someb hF
   subst hr
   exact (FnQ.f1 0 (.inr rfl) (.inr ⟨_,_,rfl,rfl,(.cons _ _ _ _ (.nil 10) (.cons _ _ _ _ (.refl _) .nil))⟩))
  ·refine AWP.skip ?_
   refine AWP.seq ?_
   obtain ⟨r5,h6,hF⟩:=bindb hF
   refine AWP.rg0 [(3,.call Tryd.func76 [] (Zha r1.1 r3.1 r5 h6))] [(6,(slc 10 Za r5.1)),(7,(i64 r5.2))] ?_
   refine AWP.ret ?_
   have hr:=someb hF
   subst hr
   exact (FnQ.f0 0 (.inr rfl))
def Zi0 (r:((List (Arr5 api_Range)) × Int)):PV→List Blk→Prop:=fun p K=>p=(.tup [(slc 10 Za r.1),(i64 r.2)])∧K=[]
theorem Zi1 (a0:(List (Arr5 api_Range))) (a1:(List (Arr5 api_Range))) (r:((List (Arr5 api_Range)) × Int)) (hF:Zdt a0 a1=some r):ACall Tryd.prog glob 71 [(slc 10 Za a0),(slc 10 Za a1)] [] (Zi0 r):=by
 refine ACall.body Tryd.func71 rfl (by kernel_rfl) ?_
 unfold Zdt at hF
 refine .seq (.rg0 [] [(0,(slc 10 Za a0)),(1,(slc 10 Za a1))] ?_)
 refine AWP.seq ?_
 obtain ⟨r1,h2,hF⟩:=bindb hF
 refine AWP.rg0 [(2,.call Tryd.func68 [] (Zhy a0 a1 r1 h2))] [(4,(slc 10 Za r1.1)),(5,(i64 r1.2))] ?_
 refine AWP.ret ?_
 have hr:=someb hF
 subst hr
 exact (FnQ.f0 0 (.inr rfl))
def Zhz (r:((List (Arr5 api_Range)) × rewrite_ledger)):PV→List Blk→Prop:=fun p K=>p=(slc 10 Za r.1)∧K=[.cells (Zh r.2)]
theorem Zfw (a0:rewrite_ledger) (a1:(List (Arr5 api_Range))) (a2:(List (Arr5 api_Range))) (r:((List (Arr5 api_Range)) × rewrite_ledger)) (hF:Zcf a0 a1 a2=some r):ACall Tryd.prog glob 52 [(.ptr 0 0),(slc 10 Za a1),(slc 10 Za a2)] [.cells (Zh a0)] (Zhz r):=by
 refine ACall.body Tryd.func52 rfl (by kernel_rfl) ?_
 unfold Zcf at hF
 refine .seq (.rg0 [] [(0,(.ptr 0 0)),(1,(slc 10 Za a1)),(2,(slc 10 Za a2))] ?_)
 refine AWP.seq ?_
 obtain ⟨r1,h2,hF⟩:=bindb hF
 obtain ⟨r3,h4,hF⟩:=bindb hF
 refine AWP.rg [(3,.call Tryd.func71 [] (Zi1 a1 a2 r1 h2)),(6,.call Tryd.func65 [] (Zei a0 r1.1 r1.2 r3 h4))] [(6,(slc 10 Za r3.1))] [.cells (Zh r3.2)] ?_
 refine AWP.ret ?_
 have hr:=someb hF
 subst hr
 exact (FnQ.f0 1 (.inr rfl))
def Zim (r:((List (List (Arr5 api_Range))) × (List (Arr5 api_Range)) × rewrite_ledger)):PV→List Blk→Prop:=fun p K=>p=(.tup [(slc 1 Zi r.1),(slc 10 Za r.2.1)])∧K=[.cells (Zh r.2.2)]
theorem Zin (a0:rewrite_ledger) (a1:(List (Arr5 api_Range))) (a2:(List (Arr5 api_Range))) (r:((List (List (Arr5 api_Range))) × (List (Arr5 api_Range)) × rewrite_ledger)) (hF:Zdh a0 a1 a2=some r):ACall Tryd.prog glob 40 [(.ptr 0 0),(slc 10 Za a1),(slc 10 Za a2)] [.cells (Zh a0)] (Zim r):=by
 refine ACall.body Tryd.func40 rfl (by kernel_rfl) ?_
 unfold Zdh at hF
 refine .seq (.rg0 [] [(0,(.ptr 0 0)),(1,(slc 10 Za a1)),(2,(slc 10 Za a2))] ?_)
 refine .seq (.rg0 [] [(0,(.ptr 0 0)),(1,(slc 10 Za a1)),(2,(slc 10 Za a2)),(8,nils)] ?_)
 refine AWP.own (H':=[.cells (Zh a0),bf 1 53 Zi ([]:(List (List (Arr5 api_Range)))) false]) (st':=[(8,(.own 1 (List.length ([]:(List (List (Arr5 api_Range))))))),(0,(.ptr 0 0)),(1,(slc 10 Za a1)),(2,(slc 10 Za a2))]) 8 1 53 (by kernel_rfl) (by kernel_rfl) (by kernel_rfl) ?_
 refine AWP.pick (st':=[(0,(.ptr 0 0)),(1,(slc 10 Za a1)),(2,(slc 10 Za a2)),(8,(.own 1 (List.length ([]:(List (List (Arr5 api_Range)))))))]) (ks:=[0,1,2,8]) (by kernel_rfl) ?_
 refine AWP.seq ?_
 refine .seq (.rg0 [(1,.len Za a1)] [(0,(.ptr 0 0)),(2,(slc 10 Za a2)),(8,(.own 1 (List.length ([]:(List (List (Arr5 api_Range))))))),(11,(slc 10 Za a1)),(12,(i64 (List.length a1:Int))),(13,(i64 (0:Int)))] ?_)
 obtain ⟨o66,h67,hF⟩:=bindb hF
 refine AWP.mid (fun e st H=>(e=.normal∧∃ (v63:rewrite_ledger),∃ (v64:(List (List (Arr5 api_Range)))),∃ (v65:(List (Arr5 api_Range))),o66=(v63,v64,v65)∧st=[(2,(slc 10 Za v65)),(8,(.own 1 (List.length v64)))]∧H=[.cells (Zh v63),bf 1 53 Zi v64 false])) ?_ ?_
 ·clear hF
  refine AWP.kp [0,2,8,11,12,13] 2 ?_
  refine AWP.bround (fun n st H=>∃ (v31:rewrite_ledger),∃ (v32:(List (List (Arr5 api_Range)))),∃ (v33:(List (Arr5 api_Range))),∃ (v34:Int),Zay a1 n v31 v32 v33 v34=some o66∧st=[(0,(.ptr 0 0)),(2,(slc 10 Za v33)),(8,(.own 1 (List.length v32))),(11,(slc 10 Za a1)),(12,(i64 (List.length a1:Int))),(13,(i64 v34))]∧H=[.cells (Zh v31),bf 1 53 Zi v32 false]) fuel ⟨a0,([]:(List (List (Arr5 api_Range)))),a2,(0:Int),h67,by kernel_rfl,by kernel_rfl⟩ ?_
  rintro n68 st H ⟨v31,v32,v33,v34,hF,rfl,rfl⟩
  cases n68 with
  | zero=>exact noneb hF
  | succ n68=>
   rw [Zay] at hF
   refine .seq (.rg0 [] [(0,(.ptr 0 0)),(2,(slc 10 Za v33)),(8,(.own 1 (List.length v32))),(11,(slc 10 Za a1)),(12,(i64 (List.length a1:Int))),(13,(i64 v34)),(14,(vb (decide (v34<(List.length a1:Int)))))] ?_)
   refine AWP.seq ?_
   refine AWP.cif hF (fun h96 hF=>?_) (fun h96 hF=>?_)
   ·refine AWP.skip ?_
    obtain ⟨o83,h84,hF⟩:=bindb hF
    refine AWP.seq ?_
    refine AWP.mid (fun e st H=>(e=.normal∧∃ (v80:rewrite_ledger),∃ (v81:(List (List (Arr5 api_Range)))),∃ (v82:(List (Arr5 api_Range))),o83=(v80,v81,v82)∧st=[(0,(.ptr 0 0)),(2,(slc 10 Za v82)),(8,(.own 1 (List.length v81))),(11,(slc 10 Za a1)),(12,(i64 (List.length a1:Int))),(13,(i64 v34))]∧H=[.cells (Zh v80),bf 1 53 Zi v81 false])) ?_ ?_
    ·clear hF
     have hF:=h84
     refine AWP.block ?_
     refine AWP.seq ?_
     obtain ⟨x85,h86,hF⟩:=bindb hF
     refine AWP.rg [(0,.idx Za h86)] [(0,(.ptr 0 0)),(2,(slc 10 Za v33)),(8,(.own 1 (List.length v32))),(10,(.ptr 2 0)),(11,(slc 10 Za a1)),(12,(i64 (List.length a1:Int))),(13,(i64 v34))] [.cells (Zh v31),bf 1 53 Zi v32 false,.cells (Za x85)] ?_
     refine AWP.seq ?_
     refine AWP.seq ?_
     obtain ⟨r87,h88,hF⟩:=bindb hF
     refine AWP.rg0 [(1,.call Tryd.func59 [] (Zft x85 r87 h88))] [(0,(.ptr 0 0)),(2,(slc 10 Za v33)),(8,(.own 1 (List.length v32))),(10,(.ptr 2 0)),(11,(slc 10 Za a1)),(12,(i64 (List.length a1:Int))),(13,(i64 v34)),(19,(vb (!r87)))] ?_
     refine AWP.cif hF (fun h95 hF=>?_) (fun h95 hF=>?_)
     ·refine AWP.seq ?_
      obtain ⟨h89,hF⟩:=chkb hF
      refine AWP.rg [(1,.litN),(2,.app Zi (fun _=>by kernel_rfl) h89)] [(0,(.ptr 0 0)),(2,(slc 10 Za v33)),(8,(.own 1 (List.length (v32++[([]:(List (Arr5 api_Range)))])))),(11,(slc 10 Za a1)),(12,(i64 (List.length a1:Int))),(13,(i64 v34))] [.cells (Zh v31),bf 1 53 Zi (v32++[([]:(List (Arr5 api_Range)))]) false,.cells (Za x85)] ?_
      refine AWP.exit ?_
      refine LeQ.start ?_
      refine LeQ.pk [0,2,8,11,12,13] 2 ?_
      exact ⟨rfl,v31,(v32++[([]:(List (Arr5 api_Range)))]),v33,(someb hF).symm,by kernel_rfl,by kernel_rfl⟩
     ·refine AWP.skip ?_
      refine AWP.seq ?_
      obtain ⟨r90,h91,hF⟩:=bindb hF
      obtain ⟨h92,hF⟩:=chkb hF
      refine AWP.rg [(5,.call Tryd.func51 [] (Zcu v31 v33 [x85] r90 h91)),(7,.app Zi (fun _=>by kernel_rfl) h92)] [(0,(.ptr 0 0)),(2,(slc 10 Za v33)),(8,(.own 1 (List.length (v32++[r90.1])))),(10,(.ptr 2 0)),(11,(slc 10 Za a1)),(12,(i64 (List.length a1:Int))),(13,(i64 v34))] [.cells (Zh r90.2),bf 1 53 Zi (v32++[r90.1]) false,.cells (Za x85)] ?_
      obtain ⟨r93,h94,hF⟩:=bindb hF
      refine AWP.rg [(4,.call Tryd.func52 [] (Zfw r90.2 v33 [x85] r93 h94))] [(0,(.ptr 0 0)),(2,(slc 10 Za r93.1)),(8,(.own 1 (List.length (v32++[r90.1])))),(11,(slc 10 Za a1)),(12,(i64 (List.length a1:Int))),(13,(i64 v34))] [.cells (Zh r93.2),bf 1 53 Zi (v32++[r90.1]) false,.cells (Za x85)] ?_
      refine LeQ.start ?_
      refine LeQ.pk [0,2,8,11,12,13] 2 ?_
      exact ⟨rfl,r93.2,(v32++[r90.1]),r93.1,(someb hF).symm,by kernel_rfl,by kernel_rfl⟩
    ·rintro _ _ _ ⟨rfl,v80,v81,v82,rfl,rfl,rfl⟩
     refine AWP.rg0 [] [(0,(.ptr 0 0)),(2,(slc 10 Za v82)),(8,(.own 1 (List.length v81))),(11,(slc 10 Za a1)),(12,(i64 (List.length a1:Int))),(13,(i64 (IntKind.wrap .i64 (v34 + (1:Int)))))] ?_
     refine LeQ.start ?_
     refine LeQ.pk [0,2,8,11,12,13] 2 ?_
     exact ⟨n68,Nat.lt_succ_self _,v80,v81,v82,(IntKind.wrap .i64 (v34 + (1:Int))),hF,by kernel_rfl,by kernel_rfl⟩
   ·refine AWP.exit ?_
    refine LeQ.start ?_
    refine LeQ.pk [2,8] 2 ?_
    exact ⟨rfl,v31,v32,v33,(someb hF).symm,by kernel_rfl,by kernel_rfl⟩
 ·rintro _ _ _ ⟨rfl,v63,v64,v65,rfl,rfl,rfl⟩
  refine .seq (.rg0 [] [(6,(.own 1 (List.length v64))),(7,(slc 10 Za v65))] ?_)
  refine AWP.ret ?_
  have hr:=someb hF
  subst hr
  exact (FnQ.f1 1 (.inr rfl) (.inr ⟨_,_,rfl,rfl,(.cons _ _ _ _ (Wk.ownT (i:=1) (s:=1) (t:=53) (l:=v64) (sh:=false) (row:=Zi) (by kernel_rfl) (.inl rfl)) (.cons _ _ _ _ (.refl _) .nil))⟩))
def Zj1 (r:(List (Arr5 api_Range))):PV→List Blk→Prop:=fun p K=>p=(slc 10 Za r)∧K=[]
theorem Zhv (a0:api_Move) (a1:(List (Arr5 api_Range))) (r:(List (Arr5 api_Range))) (hF:Zdx a0 a1=some r):ACall Tryd.prog glob 43 [(Zfs a0),(slc 10 Za a1)] [] (Zj1 r):=by
 refine ACall.body Tryd.func43 rfl (by kernel_rfl) ?_
 unfold Zdx at hF
 refine .seq (.rg [] [(1,(slc 10 Za a1)),(2,(.ptr 0 0))] [.cells (Zd a0)] ?_)
 refine AWP.seq ?_
 obtain ⟨h1,hF⟩:=chkb hF
 refine AWP.rg [(1,.clone Tryd.func67 Za (fun _=>by kernel_rfl) h1)] [(1,(slc 10 Za a1)),(2,(.ptr 0 0)),(5,(.own 1 (List.length a1)))] [.cells (Zd a0),bf 10 50 Za a1 false] ?_
 refine AWP.seq ?_
 refine .seq (.rg0 [(1,.len Za a1)] [(1,(slc 10 Za a1)),(2,(.ptr 0 0)),(5,(.own 1 (List.length a1))),(12,(i64 (List.length a1:Int))),(13,(i64 (0:Int)))] ?_)
 obtain ⟨v163,h164,hF⟩:=bindb hF
 refine AWP.mid (fun e st H=>e=.normal∧st=[(5,(.own 1 (List.length v163)))]∧H=[.cells (Zd a0),bf 10 50 Za v163 false]) ?_ ?_
 ·clear hF
  refine AWP.kp [1,2,5,12,13] 2 ?_
  refine AWP.bround (fun n st H=>∃ (v82:(List (Arr5 api_Range))),∃ (v83:Int),Zct a0 a1 n v82 v83=some v163∧st=[(1,(slc 10 Za a1)),(2,(.ptr 0 0)),(5,(.own 1 (List.length v82))),(12,(i64 (List.length a1:Int))),(13,(i64 v83))]∧H=[.cells (Zd a0),bf 10 50 Za v82 false]) fuel ⟨a1,(0:Int),h164,by kernel_rfl,by kernel_rfl⟩ ?_
  rintro n165 st H ⟨v82,v83,hF,rfl,rfl⟩
  cases n165 with
  | zero=>exact noneb hF
  | succ n165=>
   rw [Zct] at hF
   refine .seq (.rg0 [] [(1,(slc 10 Za a1)),(2,(.ptr 0 0)),(5,(.own 1 (List.length v82))),(12,(i64 (List.length a1:Int))),(13,(i64 v83)),(14,(vb (decide (v83<(List.length a1:Int)))))] ?_)
   refine AWP.seq ?_
   refine AWP.cif hF (fun h244 hF=>?_) (fun h244 hF=>?_)
   ·refine AWP.skip ?_
    refine AWP.seq ?_
    refine AWP.block ?_
    refine .seq (.rg0 [] [(1,(slc 10 Za a1)),(2,(.ptr 0 0)),(5,(.own 1 (List.length v82))),(6,(i64 v83)),(12,(i64 (List.length a1:Int))),(13,(i64 v83))] ?_)
    refine .seq (.rg0 [] [(1,(slc 10 Za a1)),(2,(.ptr 0 0)),(5,(.own 1 (List.length v82))),(6,(i64 v83)),(12,(i64 (List.length a1:Int))),(13,(i64 v83)),(17,(Zk a0.From)),(18,(i64 (0:Int)))] ?_)
    obtain ⟨v217,h218,hF⟩:=bindb hF
    refine AWP.mid (fun e st H=>e=.normal∧st=[(1,(slc 10 Za a1)),(2,(.ptr 0 0)),(5,(.own 1 (List.length v217))),(12,(i64 (List.length a1:Int))),(13,(i64 v83))]∧H=[.cells (Zd a0),bf 10 50 Za v217 false]) ?_ ?_
    ·clear hF
     refine AWP.kp [1,2,5,6,12,13,17,18] 2 ?_
     refine AWP.bround (fun n st H=>∃ (v191:(List (Arr5 api_Range))),∃ (v192:Int),Zbs a0 a1 v83 n v191 v192=some v217∧st=[(1,(slc 10 Za a1)),(2,(.ptr 0 0)),(5,(.own 1 (List.length v191))),(6,(i64 v83)),(12,(i64 (List.length a1:Int))),(13,(i64 v83)),(17,(Zk a0.From)),(18,(i64 v192))]∧H=[.cells (Zd a0),bf 10 50 Za v191 false]) fuel ⟨v82,(0:Int),h218,by kernel_rfl,by kernel_rfl⟩ ?_
     rintro n219 st H ⟨v191,v192,hF,rfl,rfl⟩
     cases n219 with
     | zero=>exact noneb hF
     | succ n219=>
      rw [Zbs] at hF
      refine .seq (.rg0 [] [(1,(slc 10 Za a1)),(2,(.ptr 0 0)),(5,(.own 1 (List.length v191))),(6,(i64 v83)),(12,(i64 (List.length a1:Int))),(13,(i64 v83)),(17,(Zk a0.From)),(18,(i64 v192)),(19,(vb (decide (v192<(5:Int)))))] ?_)
      refine AWP.seq ?_
      refine AWP.cif hF (fun h243 hF=>?_) (fun h243 hF=>?_)
      ·refine AWP.skip ?_
       refine AWP.seq ?_
       refine AWP.block ?_
       refine AWP.seq ?_
       obtain ⟨h220,hF⟩:=chkb hF
       refine AWP.rg [(1,.ixA Zg (Arr5.get a0.From) h220)] [(1,(slc 10 Za a1)),(2,(.ptr 0 0)),(5,(.own 1 (List.length v191))),(6,(i64 v83)),(7,(i64 v192)),(8,(.ptr 2 0)),(12,(i64 (List.length a1:Int))),(13,(i64 v83)),(17,(Zk a0.From)),(18,(i64 v192))] [.cells (Zd a0),bf 10 50 Za v191 false,.cells (Zg (Arr5.get a0.From v192))] ?_
       refine AWP.seq ?_
       obtain ⟨h221,hF⟩:=chkb hF
       obtain ⟨x222,h223,hF⟩:=bindb hF
       obtain ⟨h224,hF⟩:=chkb hF
       obtain ⟨x225,h226,hF⟩:=bindb hF
       obtain ⟨h227,hF⟩:=chkb hF
       refine AWP.dr [(5,.ixd h221),(7,.ldA Zg (Arr5.get a0.To) 10 2 0 h221),(11,.idx Za h223),(12,.ixd h224),(14,.ldA Zg (Arr5.get x222) 0 2 0 h224),(19,.idx Za h226),(20,.ixE Za v191 v83 h227),(21,.fdE Za v191 v83),(22,.stEd Za h226 (fun q230=>(Arr5.set x225 q230 ({ (Arr5.get x225 q230) with Lo:=(IntKind.wrap .u32 ((Arr5.get a0.To v192).Lo + (IntKind.wrap .u32 ((Arr5.get x222 v192).Lo - (Arr5.get a0.From v192).Lo)))) }:api_Range))) 0 2 0 h227)] 20 [] [] [] [(1,(slc 10 Za a1)),(2,(.ptr 0 0)),(5,(.own 1 (List.length v191))),(6,(i64 v83)),(7,(i64 v192)),(8,(.ptr 2 0)),(12,(i64 (List.length a1:Int))),(13,(i64 v83)),(17,(Zk a0.From)),(18,(i64 v192))] [.cells (Zd a0),bf 10 50 Za (List.set v191 (Int.toNat v83) (Arr5.set x225 v192 ({ (Arr5.get x225 v192) with Lo:=(IntKind.wrap .u32 ((Arr5.get a0.To v192).Lo + (IntKind.wrap .u32 ((Arr5.get x222 v192).Lo - (Arr5.get a0.From v192).Lo)))) }:api_Range))) false,.cells (Zg (Arr5.get a0.From v192))] ?_
       rw [show ([(1,(slc 10 Za a1)),(2,(.ptr 0 0)),(5,(.own 1 (List.length v191))),(6,(i64 v83)),(7,(i64 v192)),(8,(.ptr 2 0)),(12,(i64 (List.length a1:Int))),(13,(i64 v83)),(17,(Zk a0.From)),(18,(i64 v192))]:St)=[(1,(slc 10 Za a1)),(2,(.ptr 0 0)),(5,(.own 1 (List.length (List.set v191 (Int.toNat v83) (Arr5.set x225 v192 ({ (Arr5.get x225 v192) with Lo:=(IntKind.wrap .u32 ((Arr5.get a0.To v192).Lo + (IntKind.wrap .u32 ((Arr5.get x222 v192).Lo - (Arr5.get a0.From v192).Lo)))) }:api_Range)))))),(6,(i64 v83)),(7,(i64 v192)),(8,(.ptr 2 0)),(12,(i64 (List.length a1:Int))),(13,(i64 v83)),(17,(Zk a0.From)),(18,(i64 v192))] by simp only [List.length_set]]
       obtain ⟨h232,hF⟩:=chkb hF
       obtain ⟨x233,h234,hF⟩:=bindb hF
       obtain ⟨h235,hF⟩:=chkb hF
       obtain ⟨x236,h237,hF⟩:=bindb hF
       obtain ⟨h238,hF⟩:=chkb hF
       refine AWP.dr [(5,.ixd h232),(7,.ldA Zg (Arr5.get a0.To) 10 2 0 h232),(11,.idx Za h234),(12,.ixd h235),(14,.ldA Zg (Arr5.get x233) 0 2 1 h235),(19,.idx Za h237),(20,.ixE Za (List.set v191 (Int.toNat v83) (Arr5.set x225 v192 ({ (Arr5.get x225 v192) with Lo:=(IntKind.wrap .u32 ((Arr5.get a0.To v192).Lo + (IntKind.wrap .u32 ((Arr5.get x222 v192).Lo - (Arr5.get a0.From v192).Lo)))) }:api_Range))) v83 h238),(21,.fdE Za (List.set v191 (Int.toNat v83) (Arr5.set x225 v192 ({ (Arr5.get x225 v192) with Lo:=(IntKind.wrap .u32 ((Arr5.get a0.To v192).Lo + (IntKind.wrap .u32 ((Arr5.get x222 v192).Lo - (Arr5.get a0.From v192).Lo)))) }:api_Range))) v83),(22,.stEd Za h237 (fun q241=>(Arr5.set x236 q241 ({ (Arr5.get x236 q241) with Hi:=(IntKind.wrap .u32 ((Arr5.get a0.To v192).Lo + (IntKind.wrap .u32 ((Arr5.get x233 v192).Hi - (Arr5.get a0.From v192).Lo)))) }:api_Range))) 0 2 1 h238)] 20 [] [] [] [(1,(slc 10 Za a1)),(2,(.ptr 0 0)),(5,(.own 1 (List.length (List.set v191 (Int.toNat v83) (Arr5.set x225 v192 ({ (Arr5.get x225 v192) with Lo:=(IntKind.wrap .u32 ((Arr5.get a0.To v192).Lo + (IntKind.wrap .u32 ((Arr5.get x222 v192).Lo - (Arr5.get a0.From v192).Lo)))) }:api_Range)))))),(6,(i64 v83)),(12,(i64 (List.length a1:Int))),(13,(i64 v83)),(17,(Zk a0.From)),(18,(i64 v192))] [.cells (Zd a0),bf 10 50 Za (List.set (List.set v191 (Int.toNat v83) (Arr5.set x225 v192 ({ (Arr5.get x225 v192) with Lo:=(IntKind.wrap .u32 ((Arr5.get a0.To v192).Lo + (IntKind.wrap .u32 ((Arr5.get x222 v192).Lo - (Arr5.get a0.From v192).Lo)))) }:api_Range))) (Int.toNat v83) (Arr5.set x236 v192 ({ (Arr5.get x236 v192) with Hi:=(IntKind.wrap .u32 ((Arr5.get a0.To v192).Lo + (IntKind.wrap .u32 ((Arr5.get x233 v192).Hi - (Arr5.get a0.From v192).Lo)))) }:api_Range))) false,.cells (Zg (Arr5.get a0.From v192))] ?_
       rw [show ([(1,(slc 10 Za a1)),(2,(.ptr 0 0)),(5,(.own 1 (List.length (List.set v191 (Int.toNat v83) (Arr5.set x225 v192 ({ (Arr5.get x225 v192) with Lo:=(IntKind.wrap .u32 ((Arr5.get a0.To v192).Lo + (IntKind.wrap .u32 ((Arr5.get x222 v192).Lo - (Arr5.get a0.From v192).Lo)))) }:api_Range)))))),(6,(i64 v83)),(12,(i64 (List.length a1:Int))),(13,(i64 v83)),(17,(Zk a0.From)),(18,(i64 v192))]:St)=[(1,(slc 10 Za a1)),(2,(.ptr 0 0)),(5,(.own 1 (List.length (List.set (List.set v191 (Int.toNat v83) (Arr5.set x225 v192 ({ (Arr5.get x225 v192) with Lo:=(IntKind.wrap .u32 ((Arr5.get a0.To v192).Lo + (IntKind.wrap .u32 ((Arr5.get x222 v192).Lo - (Arr5.get a0.From v192).Lo)))) }:api_Range))) (Int.toNat v83) (Arr5.set x236 v192 ({ (Arr5.get x236 v192) with Hi:=(IntKind.wrap .u32 ((Arr5.get a0.To v192).Lo + (IntKind.wrap .u32 ((Arr5.get x233 v192).Hi - (Arr5.get a0.From v192).Lo)))) }:api_Range)))))),(6,(i64 v83)),(12,(i64 (List.length a1:Int))),(13,(i64 v83)),(17,(Zk a0.From)),(18,(i64 v192))] by simp only [List.length_set]]
       refine AWP.rg0 [] [(1,(slc 10 Za a1)),(2,(.ptr 0 0)),(5,(.own 1 (List.length (List.set (List.set v191 (Int.toNat v83) (Arr5.set x225 v192 ({ (Arr5.get x225 v192) with Lo:=(IntKind.wrap .u32 ((Arr5.get a0.To v192).Lo + (IntKind.wrap .u32 ((Arr5.get x222 v192).Lo - (Arr5.get a0.From v192).Lo)))) }:api_Range))) (Int.toNat v83) (Arr5.set x236 v192 ({ (Arr5.get x236 v192) with Hi:=(IntKind.wrap .u32 ((Arr5.get a0.To v192).Lo + (IntKind.wrap .u32 ((Arr5.get x233 v192).Hi - (Arr5.get a0.From v192).Lo)))) }:api_Range)))))),(6,(i64 v83)),(12,(i64 (List.length a1:Int))),(13,(i64 v83)),(17,(Zk a0.From)),(18,(i64 (IntKind.wrap .i64 (v192 + (1:Int)))))] ?_
       refine LeQ.start ?_
       refine LeQ.pk [1,2,5,6,12,13,17,18] 2 ?_
       exact ⟨n219,Nat.lt_succ_self _,(List.set (List.set v191 (Int.toNat v83) (Arr5.set x225 v192 ({ (Arr5.get x225 v192) with Lo:=(IntKind.wrap .u32 ((Arr5.get a0.To v192).Lo + (IntKind.wrap .u32 ((Arr5.get x222 v192).Lo - (Arr5.get a0.From v192).Lo)))) }:api_Range))) (Int.toNat v83) (Arr5.set x236 v192 ({ (Arr5.get x236 v192) with Hi:=(IntKind.wrap .u32 ((Arr5.get a0.To v192).Lo + (IntKind.wrap .u32 ((Arr5.get x233 v192).Hi - (Arr5.get a0.From v192).Lo)))) }:api_Range))),(IntKind.wrap .i64 (v192 + (1:Int))),hF,by kernel_rfl,by kernel_rfl⟩
      ·refine AWP.exit ?_
       refine LeQ.start ?_
       refine LeQ.pk [1,2,5,12,13] 2 ?_
       have hr:=someb hF
       subst hr
       exact ⟨rfl,by kernel_rfl,by kernel_rfl⟩
    ·rintro _ _ _ ⟨rfl,rfl,rfl⟩
     refine AWP.rg0 [] [(1,(slc 10 Za a1)),(2,(.ptr 0 0)),(5,(.own 1 (List.length v217))),(12,(i64 (List.length a1:Int))),(13,(i64 (IntKind.wrap .i64 (v83 + (1:Int)))))] ?_
     refine LeQ.start ?_
     refine LeQ.pk [1,2,5,12,13] 2 ?_
     exact ⟨n165,Nat.lt_succ_self _,v217,(IntKind.wrap .i64 (v83 + (1:Int))),hF,by kernel_rfl,by kernel_rfl⟩
   ·refine AWP.exit ?_
    refine LeQ.start ?_
    refine LeQ.pk [5] 2 ?_
    have hr:=someb hF
    subst hr
    exact ⟨rfl,by kernel_rfl,by kernel_rfl⟩
 ·rintro _ _ _ ⟨rfl,rfl,rfl⟩
  refine .seq (.rg0 [] [(4,(.own 1 (List.length v163)))] ?_)
  refine AWP.ret ?_
  have hr:=someb hF
  subst hr
  exact (FnQ.f1 0 (.inr rfl) (.inl (Wk.ownT (i:=1) (s:=10) (t:=50) (l:=v163) (sh:=false) (row:=Za) (by kernel_rfl) (.inl rfl))))
def Zh5 (r:((List (Arr5 api_Range)) × Int)):PV→List Blk→Prop:=fun p K=>p=(.tup [(slc 10 Za r.1),(i64 r.2)])∧K=[]
theorem Zh6 (a0:(List (Arr5 api_Range))) (a1:(List (Arr5 api_Range))) (r:((List (Arr5 api_Range)) × Int)) (hF:Zdu a0 a1=some r):ACall Tryd.prog glob 68 [(slc 10 Za a0),(slc 10 Za a1),(.sc (.func (.func 77) #[] #[]))] [] (Zh5 r):=by
 refine ACall.body Tryd.func68 rfl (by kernel_rfl) ?_
 unfold Zdu at hF
 refine .seq (.rg0 [] [(0,(slc 10 Za a0)),(1,(slc 10 Za a1)),(2,(.sc (.func (.func 77) #[] #[])))] ?_)
 refine AWP.seq ?_
 obtain ⟨r1,h2,hF⟩:=bindb hF
 refine AWP.rg0 [(1,.call Tryd.func78 [] (Zej a0 r1 h2))] [(1,(slc 10 Za a1)),(2,(.sc (.func (.func 77) #[] #[]))),(8,(slc 10 Za r1.1)),(9,(i64 r1.2))] ?_
 refine AWP.seq ?_
 refine .seq (.rg0 [] [(1,(slc 10 Za a1)),(2,(.sc (.func (.func 77) #[] #[]))),(8,(slc 10 Za r1.1)),(9,(i64 r1.2)),(17,(vb (r1.2 != (0:Int))))] ?_)
 refine AWP.cif hF (fun h8 hF=>?_) (fun h8 hF=>?_)
 ·refine .seq (.rg0 [] [(6,nils),(7,(i64 r1.2))] ?_)
  refine AWP.ret ?_
  have hr:=someb hF
  subst hr
  exact (FnQ.f1 0 (.inr rfl) (.inr ⟨_,_,rfl,rfl,(.cons _ _ _ _ (.nil 10) (.cons _ _ _ _ (.refl _) .nil))⟩))
 ·refine AWP.skip ?_
  refine AWP.seq ?_
  obtain ⟨r3,h4,hF⟩:=bindb hF
  refine AWP.rg0 [(1,.call Tryd.func78 [] (Zej a1 r3 h4))] [(2,(.sc (.func (.func 77) #[] #[]))),(8,(slc 10 Za r1.1)),(9,(i64 r3.2)),(10,(slc 10 Za r3.1))] ?_
  refine AWP.seq ?_
  refine .seq (.rg0 [] [(2,(.sc (.func (.func 77) #[] #[]))),(8,(slc 10 Za r1.1)),(9,(i64 r3.2)),(10,(slc 10 Za r3.1)),(25,(vb (r3.2 != (0:Int))))] ?_)
  refine AWP.cif hF (fun h7 hF=>?_) (fun h7 hF=>?_)
  ·refine .seq (.rg0 [] [(6,nils),(7,(i64 r3.2))] ?_)
   refine AWP.ret ?_
   have hr:=someb hF
   subst hr
   exact (FnQ.f1 0 (.inr rfl) (.inr ⟨_,_,rfl,rfl,(.cons _ _ _ _ (.nil 10) (.cons _ _ _ _ (.refl _) .nil))⟩))
  ·refine AWP.skip ?_
   refine AWP.seq ?_
   obtain ⟨r5,h6,hF⟩:=bindb hF
   refine AWP.rg0 [(3,.call Tryd.func76 [] (Zfg r1.1 r3.1 r5 h6))] [(6,(slc 10 Za r5.1)),(7,(i64 r5.2))] ?_
   refine AWP.ret ?_
   have hr:=someb hF
   subst hr
   exact (FnQ.f0 0 (.inr rfl))
def Zj2 (r:((List (Arr5 api_Range)) × Int)):PV→List Blk→Prop:=fun p K=>p=(.tup [(slc 10 Za r.1),(i64 r.2)])∧K=[]
theorem Zj3 (a0:(List (Arr5 api_Range))) (a1:(List (Arr5 api_Range))) (r:((List (Arr5 api_Range)) × Int)) (hF:Zeq a0 a1=some r):ACall Tryd.prog glob 70 [(slc 10 Za a0),(slc 10 Za a1)] [] (Zj2 r):=by
 refine ACall.body Tryd.func70 rfl (by kernel_rfl) ?_
 unfold Zeq at hF
 refine .seq (.rg0 [] [(0,(slc 10 Za a0)),(1,(slc 10 Za a1))] ?_)
 refine AWP.seq ?_
 obtain ⟨r1,h2,hF⟩:=bindb hF
 refine AWP.rg0 [(2,.call Tryd.func68 [] (Zh6 a0 a1 r1 h2))] [(4,(slc 10 Za r1.1)),(5,(i64 r1.2))] ?_
 refine AWP.ret ?_
 have hr:=someb hF
 subst hr
 exact (FnQ.f0 0 (.inr rfl))
def Zio (r:((List (Arr5 api_Range)) × rewrite_ledger)):PV→List Blk→Prop:=fun p K=>p=(slc 10 Za r.1)∧K=[.cells (Zh r.2)]
theorem Zd9 (a0:rewrite_ledger) (a1:(List (Arr5 api_Range))) (a2:(List (Arr5 api_Range))) (r:((List (Arr5 api_Range)) × rewrite_ledger)) (hF:Zbw a0 a1 a2=some r):ACall Tryd.prog glob 48 [(.ptr 0 0),(slc 10 Za a1),(slc 10 Za a2)] [.cells (Zh a0)] (Zio r):=by
 refine ACall.body Tryd.func48 rfl (by kernel_rfl) ?_
 unfold Zbw at hF
 refine .seq (.rg0 [] [(0,(.ptr 0 0)),(1,(slc 10 Za a1)),(2,(slc 10 Za a2))] ?_)
 refine AWP.seq ?_
 obtain ⟨r1,h2,hF⟩:=bindb hF
 obtain ⟨r3,h4,hF⟩:=bindb hF
 refine AWP.rg [(3,.call Tryd.func70 [] (Zj3 a1 a2 r1 h2)),(6,.call Tryd.func65 [] (Zei a0 r1.1 r1.2 r3 h4))] [(6,(slc 10 Za r3.1))] [.cells (Zh r3.2)] ?_
 refine AWP.ret ?_
 have hr:=someb hF
 subst hr
 exact (FnQ.f0 1 (.inr rfl))
def Zib (a0:rewrite_ledger) (r:((List (Arr5 api_Range)) × Int)):PV→List Blk→Prop:=fun p K=>p=(.tup [(slc 10 Za r.1),(i64 r.2)])∧K=[.cells (Zh a0)]
theorem Zgd (a0:rewrite_ledger) (a1:(List (Arr5 api_Range))) (r:((List (Arr5 api_Range)) × Int)) (hF:Zcr a0 a1=some r):ACall Tryd.prog glob 49 [(.ptr 0 0),(slc 10 Za a1)] [.cells (Zh a0)] (Zib a0 r):=by
 refine ACall.body Tryd.func49 rfl (by kernel_rfl) ?_
 unfold Zcr at hF
 refine .seq (.rg0 [] [(0,(.ptr 0 0)),(1,(slc 10 Za a1))] ?_)
 refine AWP.seq ?_
 refine .seq (.rg0 [] [(0,(.ptr 0 0)),(1,(slc 10 Za a1)),(10,(vb (a0.f_err != (0:Int))))] ?_)
 refine AWP.cif hF (fun h2 hF=>?_) (fun h2 hF=>?_)
 ·refine .seq (.dr [] 5 [] [] [] [(4,nils),(5,(i64 a0.f_err))] [.cells (Zh a0)] ?_)
  refine AWP.ret ?_
  have hr:=someb hF
  subst hr
  exact (FnQ.f1 1 (.inr rfl) (.inr ⟨_,_,rfl,rfl,(.cons _ _ _ _ (.nil 10) (.cons _ _ _ _ (.refl _) .nil))⟩))
 ·refine AWP.skip ?_
  refine AWP.seq ?_
  obtain ⟨h1,hF⟩:=chkb hF
  refine AWP.rg [(1,.clone Tryd.func67 Za (fun _=>by kernel_rfl) h1)] [(4,(.own 1 (List.length a1))),(5,(i64 (0:Int)))] [.cells (Zh a0),bf 10 50 Za a1 false] ?_
  refine AWP.ret ?_
  have hr:=someb hF
  subst hr
  exact (FnQ.f1 1 (.inr rfl) (.inr ⟨_,_,rfl,rfl,(.cons _ _ _ _ (Wk.ownT (i:=1) (s:=10) (t:=50) (l:=a1) (sh:=false) (row:=Za) (by kernel_rfl) (.inl rfl)) (.cons _ _ _ _ (.refl _) .nil))⟩))
def Zkm (r:((List (Arr5 api_Range)) × Int)):PV→List Blk→Prop:=fun p K=>p=(.tup [(slc 10 Za r.1),(i64 r.2)])∧K=[]
theorem Zkn (a0:(List api_Move)) (a1:(List (Arr5 api_Range))) (r:((List (Arr5 api_Range)) × Int)) (hF:Ze8 a0 a1=some r):ACall Tryd.prog glob 21 [(slc 20 Zd a0),(slc 10 Za a1)] [] (Zkm r):=by
 refine ACall.body Tryd.func21 rfl (by kernel_rfl) ?_
 unfold Ze8 at hF
 refine .seq (.rg0 [] [(0,(slc 20 Zd a0)),(1,(slc 10 Za a1))] ?_)
 refine .seq (.rg [] [(0,(slc 20 Zd a0)),(1,(slc 10 Za a1)),(6,(.ptr 0 0))] [.cells (Zh Zc2)] ?_)
 refine AWP.seq ?_
 obtain ⟨r1,h2,hF⟩:=bindb hF
 obtain ⟨r3,h4,hF⟩:=bindb hF
 obtain ⟨r5,h6,hF⟩:=bindb hF
 refine AWP.rg [(1,.call Tryd.func41 [] (Zk0 a0 r1 h2)),(3,.call Tryd.func42 [] (Zgu Zc2 a1 r3 h4)),(4,.call Tryd.func40 [] (Zin r3.2 r1 r3.1 r5 h6))] [(0,(slc 20 Zd a0)),(6,(.ptr 0 0)),(7,(slc 1 Zi r5.1)),(8,(slc 10 Za r5.2.1))] [.cells (Zh r5.2.2)] ?_
 refine .seq (.rg0 [] [(0,(slc 20 Zd a0)),(6,(.ptr 0 0)),(7,(slc 1 Zi r5.1)),(8,(slc 10 Za r5.2.1)),(9,nils)] ?_)
 refine AWP.seq ?_
 refine .seq (.rg0 [(1,.len Zi r5.1)] [(0,(slc 20 Zd a0)),(6,(.ptr 0 0)),(8,(slc 10 Za r5.2.1)),(9,nils),(20,(slc 1 Zi r5.1)),(21,(i64 (List.length r5.1:Int))),(22,(i64 (0:Int)))] ?_)
 obtain ⟨o76,h77,hF⟩:=bindb hF
 refine AWP.mid (fun e st H=>(e=.normal∧∃ (v74:rewrite_ledger),∃ (v75:(List (Arr5 api_Range))),o76=(v74,v75)∧st=[(6,(.ptr 0 0)),(8,(slc 10 Za r5.2.1)),(9,(slc 10 Za v75))]∧H=[.cells (Zh v74)])) ?_ ?_
 ·clear hF
  refine AWP.wk (p:=nils) (q:=(slc 10 Za ([]:(List (Arr5 api_Range))))) (st':=[(9,(slc 10 Za ([]:(List (Arr5 api_Range))))),(0,(slc 20 Zd a0)),(6,(.ptr 0 0)),(8,(slc 10 Za r5.2.1)),(20,(slc 1 Zi r5.1)),(21,(i64 (List.length r5.1:Int))),(22,(i64 (0:Int)))]) 9 (by kernel_rfl) (.nil 10) (by kernel_rfl) ?_
  refine AWP.kp [0,6,8,9,20,21,22] 1 ?_
  refine AWP.bround (fun n st H=>∃ (v40:rewrite_ledger),∃ (v41:(List (Arr5 api_Range))),∃ (v42:Int),Zcb a0 r5 n v40 v41 v42=some o76∧st=[(0,(slc 20 Zd a0)),(6,(.ptr 0 0)),(8,(slc 10 Za r5.2.1)),(9,(slc 10 Za v41)),(20,(slc 1 Zi r5.1)),(21,(i64 (List.length r5.1:Int))),(22,(i64 v42))]∧H=[.cells (Zh v40)]) fuel ⟨r5.2.2,([]:(List (Arr5 api_Range))),(0:Int),h77,by kernel_rfl,by kernel_rfl⟩ ?_
  rintro n78 st H ⟨v40,v41,v42,hF,rfl,rfl⟩
  cases n78 with
  | zero=>exact noneb hF
  | succ n78=>
   rw [Zcb] at hF
   refine .seq (.rg0 [] [(0,(slc 20 Zd a0)),(6,(.ptr 0 0)),(8,(slc 10 Za r5.2.1)),(9,(slc 10 Za v41)),(20,(slc 1 Zi r5.1)),(21,(i64 (List.length r5.1:Int))),(22,(i64 v42)),(23,(vb (decide (v42<(List.length r5.1:Int)))))] ?_)
   refine AWP.seq ?_
   refine AWP.cif hF (fun h109 hF=>?_) (fun h109 hF=>?_)
   ·refine AWP.skip ?_
    obtain ⟨o94,h95,hF⟩:=bindb hF
    refine AWP.seq ?_
    refine AWP.mid (fun e st H=>(e=.normal∧∃ (v92:rewrite_ledger),∃ (v93:(List (Arr5 api_Range))),o94=(v92,v93)∧st=[(0,(slc 20 Zd a0)),(6,(.ptr 0 0)),(8,(slc 10 Za r5.2.1)),(9,(slc 10 Za v93)),(20,(slc 1 Zi r5.1)),(21,(i64 (List.length r5.1:Int))),(22,(i64 v42))]∧H=[.cells (Zh v92)])) ?_ ?_
    ·clear hF
     have hF:=h95
     refine AWP.block ?_
     refine AWP.seq ?_
     obtain ⟨x96,h97,hF⟩:=bindb hF
     refine AWP.rg0 [(1,.idx Zi h97)] [(0,(slc 20 Zd a0)),(6,(.ptr 0 0)),(8,(slc 10 Za r5.2.1)),(9,(slc 10 Za v41)),(10,(i64 v42)),(11,(slc 10 Za x96)),(20,(slc 1 Zi r5.1)),(21,(i64 (List.length r5.1:Int))),(22,(i64 v42))] ?_
     refine AWP.seq ?_
     obtain ⟨x98,h99,hF⟩:=bindb hF
     obtain ⟨r100,h101,hF⟩:=bindb hF
     refine AWP.rg0 [(2,.idx Zd h99),(4,.call Tryd.func35 [] (Zd4 x98 r100 h101))] [(0,(slc 20 Zd a0)),(6,(.ptr 0 0)),(8,(slc 10 Za r5.2.1)),(9,(slc 10 Za v41)),(10,(i64 v42)),(11,(slc 10 Za x96)),(20,(slc 1 Zi r5.1)),(21,(i64 (List.length r5.1:Int))),(22,(i64 v42)),(31,(vb r100))] ?_
     refine AWP.cif hF (fun h108 hF=>?_) (fun h108 hF=>?_)
     ·obtain ⟨x102,h103,hF⟩:=bindb hF
      obtain ⟨r104,h105,hF⟩:=bindb hF
      obtain ⟨r106,h107,hF⟩:=bindb hF
      refine AWP.rg [(3,.idx Zd h103),(6,.call Tryd.func43 [] (Zhv x102 x96 r104 h105)),(7,.call Tryd.func48 [] (Zd9 v40 v41 r104 r106 h107))] [(0,(slc 20 Zd a0)),(6,(.ptr 0 0)),(8,(slc 10 Za r5.2.1)),(9,(slc 10 Za r106.1)),(20,(slc 1 Zi r5.1)),(21,(i64 (List.length r5.1:Int))),(22,(i64 v42))] [.cells (Zh r106.2)] ?_
      refine LeQ.start ?_
      refine LeQ.pk [0,6,8,9,20,21,22] 1 ?_
      exact ⟨rfl,r106.2,r106.1,(someb hF).symm,by kernel_rfl,by kernel_rfl⟩
     ·refine AWP.skip ?_
      refine LeQ.start ?_
      refine LeQ.pk [0,6,8,9,20,21,22] 1 ?_
      exact ⟨rfl,v40,v41,(someb hF).symm,by kernel_rfl,by kernel_rfl⟩
    ·rintro _ _ _ ⟨rfl,v92,v93,rfl,rfl,rfl⟩
     refine AWP.rg0 [] [(0,(slc 20 Zd a0)),(6,(.ptr 0 0)),(8,(slc 10 Za r5.2.1)),(9,(slc 10 Za v93)),(20,(slc 1 Zi r5.1)),(21,(i64 (List.length r5.1:Int))),(22,(i64 (IntKind.wrap .i64 (v42 + (1:Int)))))] ?_
     refine LeQ.start ?_
     refine LeQ.pk [0,6,8,9,20,21,22] 1 ?_
     exact ⟨n78,Nat.lt_succ_self _,v92,v93,(IntKind.wrap .i64 (v42 + (1:Int))),hF,by kernel_rfl,by kernel_rfl⟩
   ·refine AWP.exit ?_
    refine LeQ.start ?_
    refine LeQ.pk [6,8,9] 1 ?_
    exact ⟨rfl,v40,v41,(someb hF).symm,by kernel_rfl,by kernel_rfl⟩
 ·rintro _ _ _ ⟨rfl,v74,v75,rfl,rfl,rfl⟩
  refine AWP.seq ?_
  obtain ⟨r110,h111,hF⟩:=bindb hF
  obtain ⟨r112,h113,hF⟩:=bindb hF
  refine AWP.rg [(2,.call Tryd.func48 [] (Zd9 v74 v75 r5.2.1 r110 h111)),(3,.call Tryd.func49 [] (Zgd r110.2 r110.1 r112 h113))] [(4,(slc 10 Za r112.1)),(5,(i64 r112.2))] [.cells (Zh r110.2)] ?_
  refine AWP.ret ?_
  have hr:=someb hF
  subst hr
  exact (FnQ.f0 0 (.inr rfl))
def Zlm (r:(Arr5 api_Range)):PV→List Blk→Prop:=fun p K=>p=(Zk r)∧K=[]
theorem Zln (r:(Arr5 api_Range)) (hF:Zhw=some r):ACall Tryd.prog glob 50 [] [] (Zlm r):=by
 refine ACall.body Tryd.func50 rfl (by kernel_rfl) ?_
 unfold Zhw at hF
 refine .seq (.rg [] [(0,(.ptr 0 0))] [.cells (Za Zl)] ?_)
 refine .seq (.rg [] [(0,(.ptr 0 0)),(1,(.ptr 1 0))] [.cells (Za Zl),.cells (Za Zl)] ?_)
 refine AWP.seq ?_
 refine .seq (.rg0 [] [(0,(.ptr 0 0)),(1,(.ptr 1 0)),(4,(Zcw Zaf)),(5,(i64 (0:Int)))] ?_)
 obtain ⟨v14,h15,hF⟩:=bindb hF
 refine AWP.mid (fun e st H=>e=.normal∧st=[(0,(.ptr 0 0)),(1,(.ptr 1 0))]∧H=[.cells (Za Zl),.cells (Za v14)]) ?_ ?_
 ·clear hF
  refine AWP.kp [0,1,4,5] 2 ?_
  refine AWP.bround (fun n st H=>∃ (v7:(Arr5 api_Range)),∃ (v8:Int),Zgn n v7 v8=some v14∧st=[(0,(.ptr 0 0)),(1,(.ptr 1 0)),(4,(Zcw Zaf)),(5,(i64 v8))]∧H=[.cells (Za Zl),.cells (Za v7)]) fuel ⟨Zl,(0:Int),h15,by kernel_rfl,by kernel_rfl⟩ ?_
  rintro n16 st H ⟨v7,v8,hF,rfl,rfl⟩
  cases n16 with
  | zero=>exact noneb hF
  | succ n16=>
   rw [Zgn] at hF
   refine .seq (.rg0 [] [(0,(.ptr 0 0)),(1,(.ptr 1 0)),(4,(Zcw Zaf)),(5,(i64 v8)),(6,(vb (decide (v8<(5:Int)))))] ?_)
   refine AWP.seq ?_
   refine AWP.cif hF (fun h21 hF=>?_) (fun h21 hF=>?_)
   ·refine AWP.skip ?_
    refine AWP.seq ?_
    refine AWP.block ?_
    refine AWP.seq ?_
    obtain ⟨h17,hF⟩:=chkb hF
    refine AWP.rg0 [(1,.ixA Zdd (Arr5.get Zaf) h17)] [(0,(.ptr 0 0)),(1,(.ptr 1 0)),(2,(i64 v8)),(3,(u32 (Arr5.get Zaf v8))),(4,(Zcw Zaf)),(5,(i64 v8))] ?_
    obtain ⟨h18,hF⟩:=chkb hF
    refine AWP.rg [(2,.ixd h18),(4,.stA (fun q20=>Za (Arr5.set v7 q20 ({ (Arr5.get v7 q20) with Hi:=(Arr5.get Zaf v8) }:api_Range))) 0 2 1 h18)] [(0,(.ptr 0 0)),(1,(.ptr 1 0)),(4,(Zcw Zaf)),(5,(i64 v8))] [.cells (Za Zl),.cells (Za (Arr5.set v7 v8 ({ (Arr5.get v7 v8) with Hi:=(Arr5.get Zaf v8) }:api_Range)))] ?_
    refine AWP.rg0 [] [(0,(.ptr 0 0)),(1,(.ptr 1 0)),(4,(Zcw Zaf)),(5,(i64 (IntKind.wrap .i64 (v8 + (1:Int)))))] ?_
    refine LeQ.start ?_
    refine LeQ.pk [0,1,4,5] 2 ?_
    exact ⟨n16,Nat.lt_succ_self _,(Arr5.set v7 v8 ({ (Arr5.get v7 v8) with Hi:=(Arr5.get Zaf v8) }:api_Range)),(IntKind.wrap .i64 (v8 + (1:Int))),hF,by kernel_rfl,by kernel_rfl⟩
   ·refine AWP.exit ?_
    refine LeQ.start ?_
    refine LeQ.pk [0,1] 2 ?_
    have hr:=someb hF
    subst hr
    exact ⟨rfl,by kernel_rfl,by kernel_rfl⟩
 ·rintro _ _ _ ⟨rfl,rfl,rfl⟩
  refine .seq (.rg [] [(0,(.ptr 0 0))] [.cells (Za v14),.cells (Za v14)] ?_)
  refine AWP.ret ?_
  have hr:=someb hF
  subst hr
  exact (FnQ.f0 0 (.inr rfl))
def Zkb (r:api_Move):PV→List Blk→Prop:=fun p K=>p=(Zfs r)∧K=[]
theorem Zkc (a0:api_Move) (r:api_Move) (hF:Zfr a0=some r):ACall Tryd.prog glob 32 [(Zfs a0)] [] (Zkb r):=by
 refine ACall.body Tryd.func32 rfl (by kernel_rfl) ?_
 unfold Zfr at hF
 refine .seq (.rg [] [(1,(.ptr 0 0)),(2,(.ptr 1 0))] [.cells (Zd a0),.cells (Zd Zdi)] ?_)
 refine .seq (.rg [] [(2,(.ptr 1 0))] [.cells (Zd a0),.cells (Zd (api_Move.mk a0.To a0.From))] ?_)
 refine AWP.ret ?_
 have hr:=someb hF
 subst hr
 exact (FnQ.f0 0 (.inr rfl))
def Zjm (r:((List (Arr5 api_Range)) × Int)):PV→List Blk→Prop:=fun p K=>p=(.tup [(slc 10 Za r.1),(i64 r.2)])∧K=[]
theorem Zjn (a0:(List api_Move)) (a1:(List (Arr5 api_Range))) (r:((List (Arr5 api_Range)) × Int)) (hF:Zed a0 a1=some r):ACall Tryd.prog glob 22 [(slc 20 Zd a0),(slc 10 Za a1)] [] (Zjm r):=by
 refine ACall.body Tryd.func22 rfl (by kernel_rfl) ?_
 unfold Zed at hF
 refine .seq (.rg0 [] [(0,(slc 20 Zd a0)),(1,(slc 10 Za a1))] ?_)
 refine .seq (.rg [] [(0,(slc 20 Zd a0)),(1,(slc 10 Za a1)),(6,(.ptr 0 0))] [.cells (Zh Zc2)] ?_)
 refine AWP.seq ?_
 obtain ⟨r1,h2,hF⟩:=bindb hF
 refine AWP.rg [(1,.call Tryd.func42 [] (Zgu Zc2 a1 r1 h2))] [(0,(slc 20 Zd a0)),(6,(.ptr 0 0)),(7,(slc 10 Za r1.1))] [.cells (Zh r1.2)] ?_
 refine .seq (.rg0 [] [(0,(slc 20 Zd a0)),(6,(.ptr 0 0)),(7,(slc 10 Za r1.1)),(8,nils)] ?_)
 refine AWP.seq ?_
 obtain ⟨r3,h4,hF⟩:=bindb hF
 refine AWP.rg0 [(0,.call Tryd.func50 [] (Zln r3 h4))] [(0,(slc 20 Zd a0)),(6,(.ptr 0 0)),(7,(slc 10 Za r1.1)),(8,nils),(9,(slc 10 Za [r3]))] ?_
 refine AWP.seq ?_
 refine .seq (.rg0 [(1,.len Zd a0)] [(6,(.ptr 0 0)),(7,(slc 10 Za r1.1)),(8,nils),(9,(slc 10 Za [r3])),(18,(slc 20 Zd a0)),(19,(i64 (List.length a0:Int))),(20,(i64 (0:Int)))] ?_)
 obtain ⟨o103,h104,hF⟩:=bindb hF
 refine AWP.mid (fun e st H=>(e=.normal∧∃ (v100:rewrite_ledger),∃ (v101:(List (Arr5 api_Range))),∃ (v102:(List (Arr5 api_Range))),o103=(v100,v101,v102)∧st=[(6,(.ptr 0 0)),(7,(slc 10 Za r1.1)),(8,(slc 10 Za v101)),(9,(slc 10 Za v102))]∧H=[.cells (Zh v100)])) ?_ ?_
 ·clear hF
  refine AWP.wk (p:=nils) (q:=(slc 10 Za ([]:(List (Arr5 api_Range))))) (st':=[(8,(slc 10 Za ([]:(List (Arr5 api_Range))))),(6,(.ptr 0 0)),(7,(slc 10 Za r1.1)),(9,(slc 10 Za [r3])),(18,(slc 20 Zd a0)),(19,(i64 (List.length a0:Int))),(20,(i64 (0:Int)))]) 8 (by kernel_rfl) (.nil 10) (by kernel_rfl) ?_
  refine AWP.kp [6,7,8,9,18,19,20] 1 ?_
  refine AWP.bround (fun n st H=>∃ (v52:rewrite_ledger),∃ (v53:(List (Arr5 api_Range))),∃ (v54:(List (Arr5 api_Range))),∃ (v55:Int),Zbo a0 r1 n v52 v53 v54 v55=some o103∧st=[(6,(.ptr 0 0)),(7,(slc 10 Za r1.1)),(8,(slc 10 Za v53)),(9,(slc 10 Za v54)),(18,(slc 20 Zd a0)),(19,(i64 (List.length a0:Int))),(20,(i64 v55))]∧H=[.cells (Zh v52)]) fuel ⟨r1.2,([]:(List (Arr5 api_Range))),[r3],(0:Int),h104,by kernel_rfl,by kernel_rfl⟩ ?_
  rintro n105 st H ⟨v52,v53,v54,v55,hF,rfl,rfl⟩
  cases n105 with
  | zero=>exact noneb hF
  | succ n105=>
   rw [Zbo] at hF
   refine .seq (.rg0 [] [(6,(.ptr 0 0)),(7,(slc 10 Za r1.1)),(8,(slc 10 Za v53)),(9,(slc 10 Za v54)),(18,(slc 20 Zd a0)),(19,(i64 (List.length a0:Int))),(20,(i64 v55)),(21,(vb (decide (v55<(List.length a0:Int)))))] ?_)
   refine AWP.seq ?_
   refine AWP.cif hF (fun h149 hF=>?_) (fun h149 hF=>?_)
   ·refine AWP.skip ?_
    obtain ⟨o128,h129,hF⟩:=bindb hF
    refine AWP.seq ?_
    refine AWP.mid (fun e st H=>(e=.normal∧∃ (v125:rewrite_ledger),∃ (v126:(List (Arr5 api_Range))),∃ (v127:(List (Arr5 api_Range))),o128=(v125,v126,v127)∧st=[(6,(.ptr 0 0)),(7,(slc 10 Za r1.1)),(8,(slc 10 Za v126)),(9,(slc 10 Za v127)),(18,(slc 20 Zd a0)),(19,(i64 (List.length a0:Int))),(20,(i64 v55))]∧H=[.cells (Zh v125)])) ?_ ?_
    ·clear hF
     have hF:=h129
     refine AWP.block ?_
     refine AWP.seq ?_
     obtain ⟨x130,h131,hF⟩:=bindb hF
     refine AWP.rg [(0,.idx Zd h131)] [(6,(.ptr 0 0)),(7,(slc 10 Za r1.1)),(8,(slc 10 Za v53)),(9,(slc 10 Za v54)),(11,(.ptr 1 0)),(18,(slc 20 Zd a0)),(19,(i64 (List.length a0:Int))),(20,(i64 v55))] [.cells (Zh v52),.cells (Zd x130)] ?_
     refine AWP.seq ?_
     refine AWP.seq ?_
     obtain ⟨r132,h133,hF⟩:=bindb hF
     refine AWP.rg0 [(1,.call Tryd.func35 [] (Zd4 x130 r132 h133))] [(6,(.ptr 0 0)),(7,(slc 10 Za r1.1)),(8,(slc 10 Za v53)),(9,(slc 10 Za v54)),(11,(.ptr 1 0)),(18,(slc 20 Zd a0)),(19,(i64 (List.length a0:Int))),(20,(i64 v55)),(26,(vb (!r132)))] ?_
     refine AWP.cif hF (fun h148 hF=>?_) (fun h148 hF=>?_)
     ·refine AWP.exit ?_
      refine LeQ.start ?_
      refine LeQ.pk [6,7,8,9,18,19,20] 1 ?_
      exact ⟨rfl,v52,v53,v54,(someb hF).symm,by kernel_rfl,by kernel_rfl⟩
     ·refine AWP.skip ?_
      refine AWP.seq ?_
      obtain ⟨r134,h135,hF⟩:=bindb hF
      refine AWP.rg [(4,.call Tryd.func51 [] (Zcu v52 v54 [x130.From] r134 h135))] [(6,(.ptr 0 0)),(7,(slc 10 Za r1.1)),(8,(slc 10 Za v53)),(9,(slc 10 Za v54)),(11,(.ptr 1 0)),(12,(slc 10 Za r134.1)),(18,(slc 20 Zd a0)),(19,(i64 (List.length a0:Int))),(20,(i64 v55))] [.cells (Zh r134.2),.cells (Zd x130)] ?_
      refine AWP.seq ?_
      obtain ⟨r136,h137,hF⟩:=bindb hF
      obtain ⟨r138,h139,hF⟩:=bindb hF
      obtain ⟨r140,h141,hF⟩:=bindb hF
      obtain ⟨r142,h143,hF⟩:=bindb hF
      refine AWP.dr [(2,.call Tryd.func32 [] (Zkc x130 r136 h137)),(7,.call Tryd.func51 [] (Zcu r134.2 r1.1 [x130.To] r138 h139)),(8,.call Tryd.func43 [] (Zhv r136 r138.1 r140 h141)),(9,.call Tryd.func51 [] (Zcu r138.2 r134.1 r140 r142 h143))] 10 [] [7,8,9] [] [(6,(.ptr 0 0)),(7,(slc 10 Za r1.1)),(8,(slc 10 Za v53)),(9,(slc 10 Za v54)),(11,(.ptr 1 0)),(13,(slc 10 Za r142.1)),(18,(slc 20 Zd a0)),(19,(i64 (List.length a0:Int))),(20,(i64 v55))] [.cells (Zh r142.2),.cells (Zd x130)] ?_
      refine AWP.seq ?_
      obtain ⟨r144,h145,hF⟩:=bindb hF
      refine AWP.rg [(2,.call Tryd.func48 [] (Zd9 r142.2 v53 r142.1 r144 h145))] [(6,(.ptr 0 0)),(7,(slc 10 Za r1.1)),(8,(slc 10 Za r144.1)),(9,(slc 10 Za v54)),(11,(.ptr 1 0)),(18,(slc 20 Zd a0)),(19,(i64 (List.length a0:Int))),(20,(i64 v55))] [.cells (Zh r144.2),.cells (Zd x130)] ?_
      obtain ⟨r146,h147,hF⟩:=bindb hF
      refine AWP.rg [(4,.call Tryd.func52 [] (Zfw r144.2 v54 [x130.From] r146 h147))] [(6,(.ptr 0 0)),(7,(slc 10 Za r1.1)),(8,(slc 10 Za r144.1)),(9,(slc 10 Za r146.1)),(18,(slc 20 Zd a0)),(19,(i64 (List.length a0:Int))),(20,(i64 v55))] [.cells (Zh r146.2),.cells (Zd x130)] ?_
      refine LeQ.start ?_
      refine LeQ.pk [6,7,8,9,18,19,20] 1 ?_
      exact ⟨rfl,r146.2,r144.1,r146.1,(someb hF).symm,by kernel_rfl,by kernel_rfl⟩
    ·rintro _ _ _ ⟨rfl,v125,v126,v127,rfl,rfl,rfl⟩
     refine AWP.rg0 [] [(6,(.ptr 0 0)),(7,(slc 10 Za r1.1)),(8,(slc 10 Za v126)),(9,(slc 10 Za v127)),(18,(slc 20 Zd a0)),(19,(i64 (List.length a0:Int))),(20,(i64 (IntKind.wrap .i64 (v55 + (1:Int)))))] ?_
     refine LeQ.start ?_
     refine LeQ.pk [6,7,8,9,18,19,20] 1 ?_
     exact ⟨n105,Nat.lt_succ_self _,v125,v126,v127,(IntKind.wrap .i64 (v55 + (1:Int))),hF,by kernel_rfl,by kernel_rfl⟩
   ·refine AWP.exit ?_
    refine LeQ.start ?_
    refine LeQ.pk [6,7,8,9] 1 ?_
    exact ⟨rfl,v52,v53,v54,(someb hF).symm,by kernel_rfl,by kernel_rfl⟩
 ·rintro _ _ _ ⟨rfl,v100,v101,v102,rfl,rfl,rfl⟩
  refine AWP.seq ?_
  obtain ⟨r150,h151,hF⟩:=bindb hF
  obtain ⟨r152,h153,hF⟩:=bindb hF
  obtain ⟨r154,h155,hF⟩:=bindb hF
  refine AWP.rg [(3,.call Tryd.func51 [] (Zcu v100 v102 r1.1 r150 h151)),(4,.call Tryd.func48 [] (Zd9 r150.2 v101 r150.1 r152 h153)),(5,.call Tryd.func49 [] (Zgd r152.2 r152.1 r154 h155))] [(4,(slc 10 Za r154.1)),(5,(i64 r154.2))] [.cells (Zh r152.2)] ?_
  refine AWP.ret ?_
  have hr:=someb hF
  subst hr
  exact (FnQ.f0 0 (.inr rfl))
def Zi2 (r:(api_Header × nsggen_Tape)):PV→List Blk→Prop:=fun p K=>p=(Za8 r.1)∧K=[.cells (Ze r.2)]
theorem Zi3 (a0:nsggen_Tape) (r:(api_Header × nsggen_Tape)) (hF:Zds a0=some r):ACall Tryd.prog glob 29 [(.ptr 0 0)] [.cells (Ze a0)] (Zi2 r):=by
 refine ACall.body Tryd.func29 rfl (by kernel_rfl) ?_
 unfold Zds at hF
 refine .seq (.rg [] [(0,(.ptr 0 0)),(2,(.ptr 1 0))] [.cells (Ze a0),.cells (Zf Zap)] ?_)
 refine AWP.seq ?_
 obtain ⟨r1,h2,hF⟩:=bindb hF
 obtain ⟨r3,h4,hF⟩:=bindb hF
 obtain ⟨r5,h6,hF⟩:=bindb hF
 obtain ⟨x7,h8,hF⟩:=bindb hF
 obtain ⟨r9,h10,hF⟩:=bindb hF
 obtain ⟨r11,h12,hF⟩:=bindb hF
 refine AWP.dr [(1,.call Tryd.func58 [] (Zee a0 r1 h2)),(3,.call Tryd.func58 [] (Zee r1.2 r3 h4)),(6,.call Tryd.func18 [] (Zn r3.2 (6:Int) r5 h6)),(7,.idx Zlq h8),(10,.call Tryd.func53 [] (Zc7 r5.2 (65535:Int) r9 h10)),(13,.call Tryd.func53 [] (Zc7 r9.2 (65535:Int) r11 h12))] 16 [] [1,3,6,10,13] [] [(2,(.ptr 1 0))] [.cells (Ze r11.2),.cells (Zf (api_Header.mk r1.1 r3.1 x7 (IntKind.wrap .u16 r9.1) (IntKind.wrap .u16 r11.1)))] ?_
 refine AWP.ret ?_
 have hr:=someb hF
 subst hr
 exact (FnQ.f0 1 (.inr rfl))
def Zkd (r:api_Header):PV→List Blk→Prop:=fun p K=>p=(Za8 r)∧K=[]
theorem Zke (a0:(Arr5 Int)) (r:api_Header) (hF:Zes a0=some r):ACall Tryd.prog glob 31 [(Zcw a0)] [] (Zkd r):=by
 refine ACall.body Tryd.func31 rfl (by kernel_rfl) ?_
 unfold Zes at hF
 refine .seq (.rg [] [(1,(.ptr 0 0)),(2,(.ptr 1 0))] [.cells (Zao a0),.cells (Zf Zap)] ?_)
 refine .seq (.rg [] [(2,(.ptr 1 0))] [.cells (Zao a0),.cells (Zf (api_Header.mk a0.x0 a0.x1 (IntKind.wrap .u8 a0.x2) (IntKind.wrap .u16 a0.x3) (IntKind.wrap .u16 a0.x4)))] ?_)
 refine AWP.ret ?_
 have hr:=someb hF
 subst hr
 exact (FnQ.f0 0 (.inr rfl))
def Zjo (r:(api_Header × nsggen_Tape)):PV→List Blk→Prop:=fun p K=>p=(Za8 r.1)∧K=[.cells (Ze r.2)]
theorem Zf7 (a0:nsggen_Tape) (a1:(List (Arr5 api_Range))) (r:(api_Header × nsggen_Tape)) (hF:Zc3 a0 a1=some r):ACall Tryd.prog glob 11 [(.ptr 0 0),(slc 10 Za a1)] [.cells (Ze a0)] (Zjo r):=by
 refine ACall.body Tryd.func11 rfl (by kernel_rfl) ?_
 unfold Zc3 at hF
 refine .seq (.rg [] [(0,(.ptr 0 0)),(1,(slc 10 Za a1)),(4,(.ptr 1 0))] [.cells (Ze a0),.cells (Zf Zap)] ?_)
 refine AWP.seq ?_
 refine AWP.seq ?_
 obtain ⟨b1,h2,hF⟩:=bindb hF
 replace h2:=someb h2
 obtain ⟨v5,h6,hF⟩:=bindb hF
 refine AWP.to [(0,(.ptr 0 0)),(1,(slc 10 Za a1)),(4,(.ptr 1 0)),(15,(vb v5.1))] [.cells (Ze v5.2),.cells (Zf Zap)] ?_ ?_
 ·cases b1 with
  | false=>
   have h7:=ifF h6 rfl
   obtain ⟨r3,h4,h7⟩:=bindb h7
   replace h7:=someb h7
   subst h7
   exact AWP.rgT [(1,.len Za a1),(3,.bool h2),(5,.call Tryd.func18 [] (Zn a0 (4:Int) r3 h4))]
  | true=>
   have h8:=someb (ifT h6 rfl)
   subst h8
   exact AWP.rgT [(1,.len Za a1),(3,.bool h2)]
 refine AWP.cif hF (fun h101 hF=>?_) (fun h101 hF=>?_)
 ·refine AWP.seq ?_
  obtain ⟨r9,h10,hF⟩:=bindb hF
  refine AWP.rg [(1,.call Tryd.func29 [] (Zi3 v5.2 r9 h10))] [(4,(.ptr 1 0))] [.cells (Ze r9.2),.cells (Zf r9.1)] ?_
  refine AWP.ret ?_
  have hr:=someb hF
  subst hr
  exact (FnQ.f0 1 (.inr rfl))
 ·refine AWP.skip ?_
  refine AWP.seq ?_
  obtain ⟨r11,h12,hF⟩:=bindb hF
  obtain ⟨x13,h14,hF⟩:=bindb hF
  refine AWP.rg [(3,.len Za a1),(4,.call Tryd.func18 [] (Zn v5.2 (List.length a1:Int) r11 h12)),(5,.idx Za h14)] [(0,(.ptr 0 0)),(4,(.ptr 1 0)),(5,(.ptr 2 0))] [.cells (Ze r11.2),.cells (Zf Zap),.cells (Za x13)] ?_
  refine .seq (.rg [] [(0,(.ptr 0 0)),(4,(.ptr 1 0)),(5,(.ptr 2 0)),(6,(.ptr 3 0))] [.cells (Ze r11.2),.cells (Zf Zap),.cells (Za x13),.cells (Zao Zgo)] ?_)
  refine AWP.seq ?_
  refine .seq (.rg0 [] [(0,(.ptr 0 0)),(4,(.ptr 1 0)),(5,(.ptr 2 0)),(6,(.ptr 3 0)),(7,(i64 (0:Int)))] ?_)
  obtain ⟨o71,h72,hF⟩:=bindb hF
  refine AWP.mid (fun e st H=>(e=.normal∧∃ (v69:nsggen_Tape),∃ (v70:(Arr5 Int)),o71=(v69,v70)∧st=[(4,(.ptr 1 0)),(6,(.ptr 3 0))]∧H=[.cells (Ze v69),.cells (Zf Zap),.cells (Za x13),.cells (Zao v70)])) ?_ ?_
  ·clear hF
   refine AWP.kp [0,4,5,6,7] 4 ?_
   refine AWP.bround (fun n st H=>∃ (v41:nsggen_Tape),∃ (v42:(Arr5 Int)),∃ (v43:Int),Zbc x13 n v41 v42 v43=some o71∧st=[(0,(.ptr 0 0)),(4,(.ptr 1 0)),(5,(.ptr 2 0)),(6,(.ptr 3 0)),(7,(i64 v43))]∧H=[.cells (Ze v41),.cells (Zf Zap),.cells (Za x13),.cells (Zao v42)]) fuel ⟨r11.2,Zgo,(0:Int),h72,by kernel_rfl,by kernel_rfl⟩ ?_
   rintro n73 st H ⟨v41,v42,v43,hF,rfl,rfl⟩
   cases n73 with
   | zero=>exact noneb hF
   | succ n73=>
    rw [Zbc] at hF
    refine AWP.seq ?_
    refine .seq (.rg0 [] [(0,(.ptr 0 0)),(4,(.ptr 1 0)),(5,(.ptr 2 0)),(6,(.ptr 3 0)),(7,(i64 v43)),(26,(vb (decide (v43<(5:Int)))))] ?_)
    refine AWP.cif hF (fun h98 hF=>?_) (fun h98 hF=>?_)
    ·refine AWP.skip ?_
     refine AWP.seq ?_
     refine AWP.block ?_
     refine AWP.seq ?_
     obtain ⟨h74,hF⟩:=chkb hF
     obtain ⟨h75,hF⟩:=chkb hF
     obtain ⟨h76,hF⟩:=chkb hF
     obtain ⟨h77,hF⟩:=chkb hF
     obtain ⟨h78,hF⟩:=chkb hF
     obtain ⟨h79,hF⟩:=chkb hF
     obtain ⟨h80,hF⟩:=chkb hF
     obtain ⟨r81,h82,hF⟩:=bindb hF
     obtain ⟨x83,h84,hF⟩:=bindb hF
     obtain ⟨h85,hF⟩:=chkb hF
     refine AWP.dr [(2,.ixd h74),(4,.ldA Zg (Arr5.get x13) 0 2 0 h74),(6,.ixd h75),(8,.ldA Zg (Arr5.get x13) 0 2 1 h75),(10,.ixd h76),(12,.ldA Zg (Arr5.get x13) 0 2 0 h76),(15,.ixd h77),(17,.ldA Zg (Arr5.get x13) 0 2 1 h77),(20,.ixd h78),(22,.ldA Zg (Arr5.get x13) 0 2 0 h78),(24,.ixd h79),(26,.ldA Zg (Arr5.get x13) 0 2 1 h79),(28,.ixd h80),(30,.ldA Zg (Arr5.get x13) 0 2 0 h80),(36,.call Tryd.func18 [] (Zn v41 (5:Int) r81 h82)),(37,.idx Zdd h84),(39,.ixd h85),(40,.stA (fun q88=>Zao (Arr5.set v42 q88 x83)) 0 1 0 h85)] 39 [] [36] [] [(0,(.ptr 0 0)),(4,(.ptr 1 0)),(5,(.ptr 2 0)),(6,(.ptr 3 0)),(7,(i64 v43))] [.cells (Ze r81.2),.cells (Zf Zap),.cells (Za x13),.cells (Zao (Arr5.set v42 v43 x83))] ?_
     obtain ⟨h90,hF⟩:=chkb hF
     obtain ⟨r91,h92,hF⟩:=bindb hF
     obtain ⟨h93,hF⟩:=chkb hF
     refine AWP.dr [(2,.ixd h90),(3,.ldA Zdd (Arr5.get (Arr5.set v42 v43 x83)) 0 1 0 h90),(5,.call Tryd.func30 [] (Zhs v43 r91 h92)),(7,.ixd h93),(8,.stA (fun q96=>Zao (Arr5.set (Arr5.set v42 v43 x83) q96 (iMin (Arr5.get (Arr5.set v42 v43 x83) v43) r91))) 0 1 0 h93)] 7 [] [] [] [(0,(.ptr 0 0)),(4,(.ptr 1 0)),(5,(.ptr 2 0)),(6,(.ptr 3 0)),(7,(i64 v43))] [.cells (Ze r81.2),.cells (Zf Zap),.cells (Za x13),.cells (Zao (Arr5.set (Arr5.set v42 v43 x83) v43 (iMin (Arr5.get (Arr5.set v42 v43 x83) v43) r91)))] ?_
     refine AWP.rg0 [] [(0,(.ptr 0 0)),(4,(.ptr 1 0)),(5,(.ptr 2 0)),(6,(.ptr 3 0)),(7,(i64 (IntKind.wrap .i64 (v43 + (1:Int)))))] ?_
     refine LeQ.start ?_
     refine LeQ.pk [0,4,5,6,7] 4 ?_
     exact ⟨n73,Nat.lt_succ_self _,r81.2,(Arr5.set (Arr5.set v42 v43 x83) v43 (iMin (Arr5.get (Arr5.set v42 v43 x83) v43) r91)),(IntKind.wrap .i64 (v43 + (1:Int))),hF,by kernel_rfl,by kernel_rfl⟩
    ·refine AWP.exit ?_
     refine LeQ.start ?_
     refine LeQ.pk [4,6] 4 ?_
     exact ⟨rfl,v41,v42,(someb hF).symm,by kernel_rfl,by kernel_rfl⟩
  ·rintro _ _ _ ⟨rfl,v69,v70,rfl,rfl,rfl⟩
   refine AWP.seq ?_
   obtain ⟨r99,h100,hF⟩:=bindb hF
   refine AWP.rg [(1,.call Tryd.func31 [] (Zke v70 r99 h100))] [(4,(.ptr 1 0))] [.cells (Ze v69),.cells (Zf r99),.cells (Za x13),.cells (Zao v70)] ?_
   refine AWP.ret ?_
   have hr:=someb hF
   subst hr
   exact (FnQ.f0 1 (.inr rfl))
def Zk1 (r:(List (Arr5 api_Range))):PV→List Blk→Prop:=fun p K=>p=(slc 10 Za r)∧K=[]
theorem Ziw (a0:(List api_Move)) (r:(List (Arr5 api_Range))) (hF:Zer a0=some r):ACall Tryd.prog glob 12 [(slc 20 Zd a0)] [] (Zk1 r):=by
 refine ACall.body Tryd.func12 rfl (by kernel_rfl) ?_
 unfold Zer at hF
 refine .seq (.rg0 [] [(0,(slc 20 Zd a0))] ?_)
 refine .seq (.rg0 [] [(0,(slc 20 Zd a0)),(3,nils)] ?_)
 refine AWP.own (H':=[bf 10 50 Za ([]:(List (Arr5 api_Range))) false]) (st':=[(3,(.own 0 (List.length ([]:(List (Arr5 api_Range)))))),(0,(slc 20 Zd a0))]) 3 10 50 (by kernel_rfl) (by kernel_rfl) (by kernel_rfl) ?_
 refine AWP.pick (st':=[(0,(slc 20 Zd a0)),(3,(.own 0 (List.length ([]:(List (Arr5 api_Range))))))]) (ks:=[0,3]) (by kernel_rfl) ?_
 refine AWP.seq ?_
 refine .seq (.rg0 [] [(0,(slc 20 Zd a0)),(3,(.own 0 (List.length ([]:(List (Arr5 api_Range)))))),(4,(i64 (0:Int)))] ?_)
 obtain ⟨v16,h17,hF⟩:=bindb hF
 refine AWP.mid (fun e st H=>e=.normal∧st=[(3,(.own 0 (List.length v16)))]∧H=[bf 10 50 Za v16 false]) ?_ ?_
 ·clear hF
  refine AWP.kp [0,3,4] 1 ?_
  refine AWP.bround (fun n st H=>∃ (v8:(List (Arr5 api_Range))),∃ (v9:Int),Zc9 a0 n v8 v9=some v16∧st=[(0,(slc 20 Zd a0)),(3,(.own 0 (List.length v8))),(4,(i64 v9))]∧H=[bf 10 50 Za v8 false]) fuel ⟨([]:(List (Arr5 api_Range))),(0:Int),h17,by kernel_rfl,by kernel_rfl⟩ ?_
  rintro n18 st H ⟨v8,v9,hF,rfl,rfl⟩
  cases n18 with
  | zero=>exact noneb hF
  | succ n18=>
   rw [Zc9] at hF
   refine AWP.seq ?_
   refine .seq (.rg0 [(2,.len Zd a0)] [(0,(slc 20 Zd a0)),(3,(.own 0 (List.length v8))),(4,(i64 v9)),(8,(vb (decide (v9<(List.length a0:Int)))))] ?_)
   refine AWP.cif hF (fun h24 hF=>?_) (fun h24 hF=>?_)
   ·refine AWP.skip ?_
    refine AWP.seq ?_
    refine AWP.block ?_
    obtain ⟨x19,h20,hF⟩:=bindb hF
    obtain ⟨x21,h22,hF⟩:=bindb hF
    obtain ⟨h23,hF⟩:=chkb hF
    refine AWP.dr [(3,.idx Zd h20),(8,.idx Zd h22),(12,.app Za (fun _=>by kernel_rfl) h23)] 13 [] [12] [] [(0,(slc 20 Zd a0)),(3,(.own 0 (List.length (v8++[x19.From,x21.To])))),(4,(i64 v9))] [bf 10 50 Za (v8++[x19.From,x21.To]) false] ?_
    refine AWP.rg0 [] [(0,(slc 20 Zd a0)),(3,(.own 0 (List.length (v8++[x19.From,x21.To])))),(4,(i64 (IntKind.wrap .i64 (v9 + (1:Int)))))] ?_
    refine LeQ.start ?_
    refine LeQ.pk [0,3,4] 1 ?_
    exact ⟨n18,Nat.lt_succ_self _,(v8++[x19.From,x21.To]),(IntKind.wrap .i64 (v9 + (1:Int))),hF,by kernel_rfl,by kernel_rfl⟩
   ·refine AWP.exit ?_
    refine LeQ.start ?_
    refine LeQ.pk [3] 1 ?_
    have hr:=someb hF
    subst hr
    exact ⟨rfl,by kernel_rfl,by kernel_rfl⟩
 ·rintro _ _ _ ⟨rfl,rfl,rfl⟩
  refine .seq (.rg0 [] [(2,(.own 0 (List.length v16)))] ?_)
  refine AWP.ret ?_
  have hr:=someb hF
  subst hr
  exact (FnQ.f1 0 (.inr rfl) (.inl (Wk.ownT (i:=0) (s:=10) (t:=50) (l:=v16) (sh:=false) (row:=Za) (by kernel_rfl) (.inl rfl))))
def Zle (r:(Arr5 Int)):PV→List Blk→Prop:=fun p K=>p=(Zcw r)∧K=[]
theorem Zh7 (a0:api_Header) (r:(Arr5 Int)) (hF:Zfo a0=some r):ACall Tryd.prog glob 60 [(Za8 a0)] [] (Zle r):=by
 refine ACall.body Tryd.func60 rfl (by kernel_rfl) ?_
 unfold Zfo at hF
 refine .seq (.rg [] [(1,(.ptr 0 0)),(2,(.ptr 1 0))] [.cells (Zf a0),.cells (Zao Zgo)] ?_)
 refine .seq (.rg [] [(2,(.ptr 1 0))] [.cells (Zf a0),.cells (Zao (Arr5.mk a0.Src a0.Dst (IntKind.wrap .u32 a0.Proto) (IntKind.wrap .u32 a0.SrcPort) (IntKind.wrap .u32 a0.DstPort)))] ?_)
 refine AWP.ret ?_
 have hr:=someb hF
 subst hr
 exact (FnQ.f0 0 (.inr rfl))
end Go.AM
set_option maxRecDepth 100000
namespace Go.AM
open Go Go.Proofs
def Zix (r:Bool):PV→List Blk→Prop:=fun p K=>p=(vb r)∧K=[]
abbrev Zk2 (r:Bool):Exit→St→List Blk→Prop:=FnQ Tryd.prog Tryd.f36.results 0 (Zix r)
theorem Zk3 (a0:(Arr5 api_Range)) (a1:api_Header) (r:Bool) (hF:Zfp a0 a1=some r):ACall Tryd.prog glob 36 [(Zk a0),(Za8 a1)] [] (Zix r):=by
 refine ACall.body Tryd.func36 rfl (by kernel_rfl) ?_
 unfold Zfp at hF
 refine .seq (.rg [] [(2,(.ptr 0 0)),(3,(.ptr 1 0))] [.cells (Za a0),.cells (Zf a1)] ?_)
 refine AWP.seq ?_
 refine AWP.seq ?_
 obtain ⟨r1,h2,hF⟩:=bindb hF
 refine AWP.rg0 [(1,.call Tryd.func59 [] (Zft a0 r1 h2))] [(2,(.ptr 0 0)),(3,(.ptr 1 0)),(9,(vb (!r1)))] ?_
 refine AWP.cif hF (fun h32 hF=>?_) (fun h32 hF=>?_)
 ·refine .seq (.rg0 [] [(4,(vb false))] ?_)
  refine AWP.ret ?_
  have hr:=someb hF
  subst hr
  exact (FnQ.f0 0 (.inr rfl))
 ·refine AWP.skip ?_
  refine AWP.seq ?_
  refine AWP.seq ?_
  obtain ⟨r3,h4,hF⟩:=bindb hF
  refine AWP.rg0 [(1,.call Tryd.func60 [] (Zh7 a1 r3 h4))] [(2,(.ptr 0 0)),(11,(Zcw r3)),(12,(i64 (0:Int)))] ?_
  obtain ⟨o17,h18,hF⟩:=bindb hF
  refine AWP.mid (fun e st H=>(e=.normal∧o17=(.inl ())∧st=[]∧H=[.cells (Za a0),.cells (Zf a1)])∨(e=.ret∧∃ (r:Bool),o17=(.inr r)∧Zk2 r e st H)) ?_ ?_
  ·clear hF
   refine AWP.kp [2,11,12] 2 ?_
   refine AWP.bround (fun n st H=>∃ (v5:Int),Zcx a0 r3 n v5=some o17∧st=[(2,(.ptr 0 0)),(11,(Zcw r3)),(12,(i64 v5))]∧H=[.cells (Za a0),.cells (Zf a1)]) fuel ⟨(0:Int),h18,by kernel_rfl,by kernel_rfl⟩ ?_
   rintro n19 st H ⟨v5,hF,rfl,rfl⟩
   cases n19 with
   | zero=>exact noneb hF
   | succ n19=>
    rw [Zcx] at hF
    refine .seq (.rg0 [] [(2,(.ptr 0 0)),(11,(Zcw r3)),(12,(i64 v5)),(13,(vb (decide (v5<(5:Int)))))] ?_)
    refine AWP.seq ?_
    refine AWP.cif hF (fun h30 hF=>?_) (fun h30 hF=>?_)
    ·refine AWP.skip ?_
     refine AWP.seq ?_
     refine AWP.block ?_
     refine AWP.seq ?_
     obtain ⟨h20,hF⟩:=chkb hF
     refine AWP.rg0 [(1,.ixA Zdd (Arr5.get r3) h20)] [(2,(.ptr 0 0)),(5,(i64 v5)),(6,(u32 (Arr5.get r3 v5))),(11,(Zcw r3)),(12,(i64 v5))] ?_
     refine AWP.seq ?_
     obtain ⟨h21,hF⟩:=chkb hF
     obtain ⟨b22,h23,hF⟩:=bindb hF
     replace h23:=someb h23
     obtain ⟨v25,h26,hF⟩:=bindb hF
     refine AWP.to [(2,(.ptr 0 0)),(11,(Zcw r3)),(12,(i64 v5)),(29,(vb v25))] [.cells (Za a0),.cells (Zf a1)] ?_ ?_
     ·cases b22 with
      | false=>
       have h27:=ifF h26 rfl
       obtain ⟨h24,h27⟩:=chkb h27
       replace h27:=someb h27
       subst h27
       exact AWP.rgT [(2,.ixd h21),(4,.ldA Zg (Arr5.get a0) 0 2 0 h21),(6,.bool h23),(9,.ixd h24),(11,.ldA Zg (Arr5.get a0) 0 2 1 h24)]
      | true=>
       have h28:=someb (ifT h26 rfl)
       subst h28
       exact AWP.rgT [(2,.ixd h21),(4,.ldA Zg (Arr5.get a0) 0 2 0 h21),(6,.bool h23)]
     refine AWP.cif hF (fun h29 hF=>?_) (fun h29 hF=>?_)
     ·refine .seq (.rg0 [] [(4,(vb false))] ?_)
      refine AWP.ret ?_
      exact LeQ.of (.inr ⟨rfl,false,(someb hF).symm,(FnQ.f0 0 (.inr rfl))⟩)
     ·refine AWP.skip ?_
      refine AWP.rg0 [] [(2,(.ptr 0 0)),(11,(Zcw r3)),(12,(i64 (IntKind.wrap .i64 (v5 + (1:Int)))))] ?_
      refine LeQ.start ?_
      refine LeQ.pk [2,11,12] 2 ?_
      exact ⟨n19,Nat.lt_succ_self _,(IntKind.wrap .i64 (v5 + (1:Int))),hF,by kernel_rfl,by kernel_rfl⟩
    ·refine AWP.exit ?_
     refine LeQ.start ?_
     refine LeQ.pk [] 2 ?_
     exact (.inl ⟨rfl,(someb hF).symm,by kernel_rfl,by kernel_rfl⟩)
  ·rintro _ _ _ (⟨rfl,rfl,rfl,rfl⟩ | ⟨rfl,r31,rfl,hq⟩)
   ·refine .seq (.rg0 [] [(4,(vb true))] ?_)
    refine AWP.ret ?_
    have hr:=someb hF
    subst hr
    exact (FnQ.f0 0 (.inr rfl))
   ·have hr:=someb hF
    subst hr
    exact hq
def Zj4 (a1:api_Header) (r:Bool):PV→List Blk→Prop:=fun p K=>p=(vb r)∧K=[.cells (Zf a1)]
theorem Zj5 (a0:api_Move) (a1:api_Header) (r:Bool) (hF:Zen a0 a1=some r):ACall Tryd.prog glob 34 [(Zfs a0),(.ptr 0 0)] [.cells (Zf a1)] (Zj4 a1 r):=by
 refine ACall.body Tryd.func34 rfl (by kernel_rfl) ?_
 unfold Zen at hF
 refine .seq (.rg [] [(1,(.ptr 0 0)),(2,(.ptr 1 0))] [.cells (Zf a1),.cells (Zd a0)] ?_)
 refine AWP.seq ?_
 obtain ⟨r1,h2,hF⟩:=bindb hF
 obtain ⟨b3,h4,hF⟩:=bindb hF
 replace h4:=someb h4
 obtain ⟨v7,h8,hF⟩:=bindb hF
 refine AWP.to [(3,(vb v7))] [.cells (Zf a1),.cells (Zd a0)] ?_ ?_
 ·cases b3 with
  | false=>
   have h9:=someb (ifF h8 rfl)
   subst h9
   exact AWP.rgT [(1,.call Tryd.func35 [] (Zd4 a0 r1 h2)),(2,.bool h4)]
  | true=>
   have h10:=ifT h8 rfl
   obtain ⟨r5,h6,h10⟩:=bindb h10
   replace h10:=someb h10
   subst h10
   exact AWP.rgT [(1,.call Tryd.func35 [] (Zd4 a0 r1 h2)),(2,.bool h4),(6,.call Tryd.func36 [] (Zk3 a0.From a1 r5 h6))]
 refine AWP.ret ?_
 have hr:=someb hF
 subst hr
 exact (FnQ.f0 1 (.inr rfl))
def Zc6 (a1:api_Header) (r:Int):PV→List Blk→Prop:=fun p K=>p=(i64 r)∧K=[.cells (Zf a1)]
abbrev Zex (a1:api_Header) (r:Int):Exit→St→List Blk→Prop:=FnQ Tryd.prog Tryd.f33.results 1 (Zc6 a1 r)
theorem Zey (a0:(List api_Move)) (a1:api_Header) (r:Int) (hF:Za7 a0 a1=some r):ACall Tryd.prog glob 33 [(slc 20 Zd a0),(.fn 34 [(.ptr 0 0)])] [.cells (Zf a1)] (Zc6 a1 r):=by
 refine ACall.body Tryd.func33 rfl (by kernel_rfl) ?_
 unfold Za7 at hF
 refine .seq (.rg0 [] [(0,(slc 20 Zd a0)),(1,(.fn 34 [(.ptr 0 0)]))] ?_)
 refine AWP.seq ?_
 refine .seq (.rg0 [(1,.len Zd a0)] [(0,(slc 20 Zd a0)),(1,(.fn 34 [(.ptr 0 0)])),(7,(i64 (List.length a0:Int))),(8,(i64 (0:Int)))] ?_)
 obtain ⟨o8,h9,hF⟩:=bindb hF
 refine AWP.mid (fun e st H=>(e=.normal∧o8=(.inl ())∧st=[]∧H=[.cells (Zf a1)])∨(e=.ret∧∃ (r:Int),o8=(.inr r)∧Zex a1 r e st H)) ?_ ?_
 ·clear hF
  refine AWP.kp [0,1,7,8] 1 ?_
  refine AWP.bround (fun n st H=>∃ (v1:Int),Zu a0 a1 n v1=some o8∧st=[(0,(slc 20 Zd a0)),(1,(.fn 34 [(.ptr 0 0)])),(7,(i64 (List.length a0:Int))),(8,(i64 v1))]∧H=[.cells (Zf a1)]) fuel ⟨(0:Int),h9,by kernel_rfl,by kernel_rfl⟩ ?_
  rintro n10 st H ⟨v1,hF,rfl,rfl⟩
  cases n10 with
  | zero=>exact noneb hF
  | succ n10=>
   rw [Zu] at hF
   refine .seq (.rg0 [] [(0,(slc 20 Zd a0)),(1,(.fn 34 [(.ptr 0 0)])),(7,(i64 (List.length a0:Int))),(8,(i64 v1)),(9,(vb (decide (v1<(List.length a0:Int)))))] ?_)
   refine AWP.seq ?_
   refine AWP.cif hF (fun h16 hF=>?_) (fun h16 hF=>?_)
   ·refine AWP.skip ?_
    refine AWP.seq ?_
    refine AWP.block ?_
    refine .seq (.rg0 [] [(0,(slc 20 Zd a0)),(1,(.fn 34 [(.ptr 0 0)])),(5,(i64 v1)),(7,(i64 (List.length a0:Int))),(8,(i64 v1))] ?_)
    refine AWP.seq ?_
    obtain ⟨x11,h12,hF⟩:=bindb hF
    obtain ⟨r13,h14,hF⟩:=bindb hF
    refine AWP.rg0 [(3,.idx Zd h12),(5,.callF Tryd.func34 [] (Zj5 x11 a1 r13 h14))] [(0,(slc 20 Zd a0)),(1,(.fn 34 [(.ptr 0 0)])),(5,(i64 v1)),(7,(i64 (List.length a0:Int))),(8,(i64 v1)),(16,(vb r13))] ?_
    refine AWP.cif hF (fun h15 hF=>?_) (fun h15 hF=>?_)
    ·refine .seq (.rg0 [] [(4,(i64 v1))] ?_)
     refine AWP.ret ?_
     exact LeQ.of (.inr ⟨rfl,v1,(someb hF).symm,(FnQ.f0 1 (.inr rfl))⟩)
    ·refine AWP.skip ?_
     refine AWP.rg0 [] [(0,(slc 20 Zd a0)),(1,(.fn 34 [(.ptr 0 0)])),(7,(i64 (List.length a0:Int))),(8,(i64 (IntKind.wrap .i64 (v1 + (1:Int)))))] ?_
     refine LeQ.start ?_
     refine LeQ.pk [0,1,7,8] 1 ?_
     exact ⟨n10,Nat.lt_succ_self _,(IntKind.wrap .i64 (v1 + (1:Int))),hF,by kernel_rfl,by kernel_rfl⟩
   ·refine AWP.exit ?_
    refine LeQ.start ?_
    refine LeQ.pk [] 1 ?_
    exact (.inl ⟨rfl,(someb hF).symm,by kernel_rfl,by kernel_rfl⟩)
 ·rintro _ _ _ (⟨rfl,rfl,rfl,rfl⟩ | ⟨rfl,r17,rfl,hq⟩)
  ·refine .seq (.rg0 [] [(4,(i64 (-1:Int)))] ?_)
   refine AWP.ret ?_
   have hr:=someb hF
   subst hr
   exact (FnQ.f0 1 (.inr rfl))
  ·have hr:=someb hF
   subst hr
   exact hq
def Zko (r:Int):PV→List Blk→Prop:=fun p K=>p=(i64 r)∧K=[]
theorem Zkp (a0:(List api_Move)) (a1:api_Header) (r:Int) (hF:Ze6 a0 a1=some r):ACall Tryd.prog glob 14 [(slc 20 Zd a0),(Za8 a1)] [] (Zko r):=by
 refine ACall.body Tryd.func14 rfl (by kernel_rfl) ?_
 unfold Ze6 at hF
 refine .seq (.rg [] [(0,(slc 20 Zd a0)),(3,(.ptr 0 0))] [.cells (Zf a1)] ?_)
 refine AWP.seq ?_
 obtain ⟨r1,h2,hF⟩:=bindb hF
 refine AWP.rg0 [(1,.q),(2,.call Tryd.func33 [] (Zey a0 a1 r1 h2))] [(4,(i64 r1))] ?_
 refine AWP.ret ?_
 have hr:=someb hF
 subst hr
 exact (FnQ.f0 0 (.inr rfl))
def Zlj (r:Int):PV→List Blk→Prop:=fun p K=>p=(u32 r)∧K=[]
theorem Zlk (a0:api_Header) (a1:Int) (r:Int) (hF:Zgk a0 a1=some r):ACall Tryd.prog glob 38 [(Za8 a0),(i64 a1)] [] (Zlj r):=by
 refine ACall.body Tryd.func38 rfl (by kernel_rfl) ?_
 unfold Zgk at hF
 refine .seq (.rg [] [(1,(i64 a1)),(2,(.ptr 0 0))] [.cells (Zf a0)] ?_)
 refine AWP.seq ?_
 refine AWP.seq ?_
 obtain ⟨b1,h2,hF⟩:=bindb hF
 replace h2:=someb h2
 refine AWP.to [(1,(i64 a1)),(2,(.ptr 0 0)),(10,(vb (b1 || (decide (a1 ≥ (5:Int))))))] [.cells (Zf a0)] ?_ ?_
 ·cases b1 with
  | false=>
   exact AWP.rgT [(2,.bool h2)]
  | true=>
   exact AWP.rgT [(2,.bool h2)]
 refine AWP.cif hF (fun h6 hF=>?_) (fun h6 hF=>?_)
 ·refine .seq (.rg0 [] [(4,(u32 (0:Int)))] ?_)
  refine AWP.ret ?_
  have hr:=someb hF
  subst hr
  exact (FnQ.f0 0 (.inr rfl))
 ·refine AWP.skip ?_
  refine AWP.seq ?_
  obtain ⟨r3,h4,hF⟩:=bindb hF
  obtain ⟨h5,hF⟩:=chkb hF
  refine AWP.rg0 [(1,.call Tryd.func60 [] (Zh7 a0 r3 h4)),(3,.ixA Zdd (Arr5.get r3) h5)] [(4,(u32 (Arr5.get r3 a1)))] ?_
  refine AWP.ret ?_
  have hr:=someb hF
  subst hr
  exact (FnQ.f0 0 (.inr rfl))
def Zlf (r:api_Header):PV→List Blk→Prop:=fun p K=>p=(Za8 r)∧K=[]
theorem Zlg (a0:(Arr5 Int)) (r:api_Header) (hF:Zf0 a0=some r):ACall Tryd.prog glob 61 [(Zcw a0)] [] (Zlf r):=by
 refine ACall.body Tryd.func61 rfl (by kernel_rfl) ?_
 unfold Zf0 at hF
 refine .seq (.rg [] [(1,(.ptr 0 0)),(2,(.ptr 1 0))] [.cells (Zao a0),.cells (Zf Zap)] ?_)
 refine .seq (.rg [] [(2,(.ptr 1 0))] [.cells (Zao a0),.cells (Zf (api_Header.mk a0.x0 a0.x1 (IntKind.wrap .u8 a0.x2) (IntKind.wrap .u16 a0.x3) (IntKind.wrap .u16 a0.x4)))] ?_)
 refine AWP.ret ?_
 have hr:=someb hF
 subst hr
 exact (FnQ.f0 0 (.inr rfl))
def Zlo (r:api_Header):PV→List Blk→Prop:=fun p K=>p=(Za8 r)∧K=[]
theorem Zlp (a0:api_Header) (a1:Int) (a2:Int) (r:api_Header) (hF:Zg3 a0 a1 a2=some r):ACall Tryd.prog glob 37 [(Za8 a0),(i64 a1),(u32 a2)] [] (Zlo r):=by
 refine ACall.body Tryd.func37 rfl (by kernel_rfl) ?_
 unfold Zg3 at hF
 refine .seq (.rg [] [(1,(i64 a1)),(2,(u32 a2)),(3,(.ptr 0 0)),(6,(.ptr 1 0))] [.cells (Zf a0),.cells (Zf Zap)] ?_)
 refine AWP.seq ?_
 refine AWP.seq ?_
 obtain ⟨b1,h2,hF⟩:=bindb hF
 replace h2:=someb h2
 obtain ⟨b3,h4,hF⟩:=bindb hF
 replace h4:=someb h4
 obtain ⟨v6,h7,hF⟩:=bindb hF
 refine AWP.to [(1,(i64 a1)),(2,(u32 a2)),(3,(.ptr 0 0)),(6,(.ptr 1 0)),(20,(vb v6))] [.cells (Zf a0),.cells (Zf Zap)] ?_ ?_
 ·cases b1 with
  | false=>
   cases b3 with
   | false=>
    have h8:=ifF h7 rfl
    obtain ⟨h5,h8⟩:=chkb h8
    replace h8:=someb h8
    subst h8
    exact AWP.rgT [(2,.bool h2),(6,.bool h4),(9,.ixd h5),(10,.ldA Zdd (Arr5.get Zaf) 0 1 0 h5)]
   | true=>
    have h9:=someb (ifT h7 rfl)
    subst h9
    exact AWP.rgT [(2,.bool h2),(6,.bool h4)]
  | true=>
   subst h4
   have h10:=someb (ifT h7 rfl)
   subst h10
   exact AWP.rgT [(2,.bool h2)]
 refine AWP.cif hF (fun h18 hF=>?_) (fun h18 hF=>?_)
 ·refine .seq (.rg [] [(6,(.ptr 1 0))] [.cells (Zf a0),.cells (Zf a0)] ?_)
  refine AWP.ret ?_
  have hr:=someb hF
  subst hr
  exact (FnQ.f0 0 (.inr rfl))
 ·refine AWP.skip ?_
  refine AWP.seq ?_
  obtain ⟨r11,h12,hF⟩:=bindb hF
  refine AWP.rg [(1,.call Tryd.func60 [] (Zh7 a0 r11 h12))] [(1,(i64 a1)),(2,(u32 a2)),(6,(.ptr 1 0)),(7,(.ptr 2 0))] [.cells (Zf a0),.cells (Zf Zap),.cells (Zao r11)] ?_
  refine AWP.seq ?_
  obtain ⟨h13,hF⟩:=chkb hF
  refine AWP.rg [(2,.ixd h13),(3,.stA (fun q15=>Zao (Arr5.set r11 q15 a2)) 0 1 0 h13)] [(6,(.ptr 1 0)),(7,(.ptr 2 0))] [.cells (Zf a0),.cells (Zf Zap),.cells (Zao (Arr5.set r11 a1 a2))] ?_
  refine AWP.seq ?_
  obtain ⟨r16,h17,hF⟩:=bindb hF
  refine AWP.rg [(1,.call Tryd.func61 [] (Zlg (Arr5.set r11 a1 a2) r16 h17))] [(6,(.ptr 1 0))] [.cells (Zf a0),.cells (Zf r16),.cells (Zao (Arr5.set r11 a1 a2))] ?_
  refine AWP.ret ?_
  have hr:=someb hF
  subst hr
  exact (FnQ.f0 0 (.inr rfl))
def Zkq (r:api_Header):PV→List Blk→Prop:=fun p K=>p=(Za8 r)∧K=[]
theorem Zkr (a0:(List api_Move)) (a1:api_Header) (r:api_Header) (hF:Ze7 a0 a1=some r):ACall Tryd.prog glob 15 [(slc 20 Zd a0),(Za8 a1)] [] (Zkq r):=by
 refine ACall.body Tryd.func15 rfl (by kernel_rfl) ?_
 unfold Ze7 at hF
 refine .seq (.rg [] [(0,(slc 20 Zd a0)),(3,(.ptr 0 0)),(4,(.ptr 1 0))] [.cells (Zf a1),.cells (Zf Zap)] ?_)
 refine AWP.seq ?_
 obtain ⟨r1,h2,hF⟩:=bindb hF
 refine AWP.rg0 [(2,.call Tryd.func14 [] (Zkp a0 a1 r1 h2))] [(0,(slc 20 Zd a0)),(3,(.ptr 0 0)),(4,(.ptr 1 0)),(5,(i64 r1))] ?_
 refine AWP.seq ?_
 refine .seq (.rg0 [] [(0,(slc 20 Zd a0)),(3,(.ptr 0 0)),(4,(.ptr 1 0)),(5,(i64 r1)),(13,(vb (decide (r1<(0:Int)))))] ?_)
 refine AWP.cif hF (fun h38 hF=>?_) (fun h38 hF=>?_)
 ·refine .seq (.rg [] [(4,(.ptr 1 0))] [.cells (Zf a1),.cells (Zf a1)] ?_)
  refine AWP.ret ?_
  have hr:=someb hF
  subst hr
  exact (FnQ.f0 0 (.inr rfl))
 ·refine AWP.skip ?_
  refine .seq (.rg [] [(0,(slc 20 Zd a0)),(3,(.ptr 0 0)),(4,(.ptr 1 0)),(5,(i64 r1)),(6,(.ptr 2 0))] [.cells (Zf a1),.cells (Zf Zap),.cells (Zf a1)] ?_)
  refine AWP.seq ?_
  refine AWP.seq ?_
  obtain ⟨x3,h4,hF⟩:=bindb hF
  refine AWP.rg0 [(2,.idx Zd h4)] [(0,(slc 20 Zd a0)),(3,(.ptr 0 0)),(4,(.ptr 1 0)),(5,(i64 r1)),(6,(.ptr 2 0)),(20,(Zk x3.From)),(21,(i64 (0:Int)))] ?_
  obtain ⟨v26,h27,hF⟩:=bindb hF
  refine AWP.mid (fun e st H=>e=.normal∧st=[(4,(.ptr 1 0)),(6,(.ptr 2 0))]∧H=[.cells (Zf a1),.cells (Zf Zap),.cells (Zf v26)]) ?_ ?_
  ·clear hF
   refine AWP.kp [0,3,4,5,6,20,21] 3 ?_
   refine AWP.bround (fun n st H=>∃ (v15:api_Header),∃ (v16:Int),Zb6 a0 a1 r1 x3 n v15 v16=some v26∧st=[(0,(slc 20 Zd a0)),(3,(.ptr 0 0)),(4,(.ptr 1 0)),(5,(i64 r1)),(6,(.ptr 2 0)),(20,(Zk x3.From)),(21,(i64 v16))]∧H=[.cells (Zf a1),.cells (Zf Zap),.cells (Zf v15)]) fuel ⟨a1,(0:Int),h27,by kernel_rfl,by kernel_rfl⟩ ?_
   rintro n28 st H ⟨v15,v16,hF,rfl,rfl⟩
   cases n28 with
   | zero=>exact noneb hF
   | succ n28=>
    rw [Zb6] at hF
    refine .seq (.rg0 [] [(0,(slc 20 Zd a0)),(3,(.ptr 0 0)),(4,(.ptr 1 0)),(5,(i64 r1)),(6,(.ptr 2 0)),(20,(Zk x3.From)),(21,(i64 v16)),(22,(vb (decide (v16<(5:Int)))))] ?_)
    refine AWP.seq ?_
    refine AWP.cif hF (fun h37 hF=>?_) (fun h37 hF=>?_)
    ·refine AWP.skip ?_
     refine AWP.seq ?_
     refine AWP.block ?_
     refine AWP.seq ?_
     obtain ⟨h29,hF⟩:=chkb hF
     refine AWP.rg [(1,.ixA Zg (Arr5.get x3.From) h29)] [(0,(slc 20 Zd a0)),(3,(.ptr 0 0)),(4,(.ptr 1 0)),(5,(i64 r1)),(6,(.ptr 2 0)),(7,(i64 v16)),(8,(.ptr 3 0)),(20,(Zk x3.From)),(21,(i64 v16))] [.cells (Zf a1),.cells (Zf Zap),.cells (Zf v15),.cells (Zg (Arr5.get x3.From v16))] ?_
     obtain ⟨x30,h31,hF⟩:=bindb hF
     obtain ⟨h32,hF⟩:=chkb hF
     obtain ⟨r33,h34,hF⟩:=bindb hF
     obtain ⟨r35,h36,hF⟩:=bindb hF
     refine AWP.dr [(5,.idx Zd h31),(7,.ixd h32),(9,.ldA Zg (Arr5.get x30.To) 10 2 0 h32),(12,.call Tryd.func38 [] (Zlk a1 v16 r33 h34)),(17,.call Tryd.func37 [] (Zlp v15 v16 (IntKind.wrap .u32 ((Arr5.get x30.To v16).Lo + (IntKind.wrap .u32 (r33 - (Arr5.get x3.From v16).Lo)))) r35 h36))] 18 [] [] [] [(0,(slc 20 Zd a0)),(3,(.ptr 0 0)),(4,(.ptr 1 0)),(5,(i64 r1)),(6,(.ptr 2 0)),(20,(Zk x3.From)),(21,(i64 v16))] [.cells (Zf a1),.cells (Zf Zap),.cells (Zf r35),.cells (Zg (Arr5.get x3.From v16))] ?_
     refine AWP.rg0 [] [(0,(slc 20 Zd a0)),(3,(.ptr 0 0)),(4,(.ptr 1 0)),(5,(i64 r1)),(6,(.ptr 2 0)),(20,(Zk x3.From)),(21,(i64 (IntKind.wrap .i64 (v16 + (1:Int)))))] ?_
     refine LeQ.start ?_
     refine LeQ.pk [0,3,4,5,6,20,21] 3 ?_
     exact ⟨n28,Nat.lt_succ_self _,r35,(IntKind.wrap .i64 (v16 + (1:Int))),hF,by kernel_rfl,by kernel_rfl⟩
    ·refine AWP.exit ?_
     refine LeQ.start ?_
     refine LeQ.pk [4,6] 3 ?_
     have hr:=someb hF
     subst hr
     exact ⟨rfl,by kernel_rfl,by kernel_rfl⟩
  ·rintro _ _ _ ⟨rfl,rfl,rfl⟩
   refine .seq (.rg [] [(4,(.ptr 1 0))] [.cells (Zf a1),.cells (Zf v26),.cells (Zf v26)] ?_)
   refine AWP.ret ?_
   have hr:=someb hF
   subst hr
   exact (FnQ.f0 0 (.inr rfl))
def Zks (r:(Arr5 Int)):PV→List Blk→Prop:=fun p K=>p=(Zcw r)∧K=[]
theorem Zkt (a0:api_Header) (r:(Arr5 Int)) (hF:Ze9 a0=some r):ACall Tryd.prog glob 47 [(Za8 a0)] [] (Zks r):=by
 refine ACall.body Tryd.func47 rfl (by kernel_rfl) ?_
 unfold Ze9 at hF
 refine .seq (.rg [] [(1,(.ptr 0 0)),(2,(.ptr 1 0))] [.cells (Zf a0),.cells (Zao Zgo)] ?_)
 refine .seq (.rg [] [(2,(.ptr 1 0))] [.cells (Zf a0),.cells (Zao (Arr5.mk a0.Src a0.Dst (IntKind.wrap .u32 a0.Proto) (IntKind.wrap .u32 a0.SrcPort) (IntKind.wrap .u32 a0.DstPort)))] ?_)
 refine AWP.ret ?_
 have hr:=someb hF
 subst hr
 exact (FnQ.f0 0 (.inr rfl))
def Zig (r:Bool):PV→List Blk→Prop:=fun p K=>p=(vb r)∧K=[]
abbrev Zku (r:Bool):Exit→St→List Blk→Prop:=FnQ Tryd.prog Tryd.f56.results 0 (Zig r)
theorem Zkv (a0:(Arr5 api_Range)) (r:Bool) (hF:Ze5 a0=some r):ACall Tryd.prog glob 56 [(Zk a0)] [] (Zig r):=by
 refine ACall.body Tryd.func56 rfl (by kernel_rfl) ?_
 unfold Ze5 at hF
 refine .seq (.rg [] [(1,(.ptr 0 0))] [.cells (Za a0)] ?_)
 refine AWP.seq ?_
 refine .seq (.rg0 [] [(1,(.ptr 0 0)),(3,(i64 (0:Int)))] ?_)
 obtain ⟨o15,h16,hF⟩:=bindb hF
 refine AWP.mid (fun e st H=>(e=.normal∧o15=(.inl ())∧st=[]∧H=[.cells (Za a0)])∨(e=.ret∧∃ (r:Bool),o15=(.inr r)∧Zku r e st H)) ?_ ?_
 ·clear hF
  refine AWP.kp [1,3] 1 ?_
  refine AWP.bround (fun n st H=>∃ (v1:Int),Z0 a0 n v1=some o15∧st=[(1,(.ptr 0 0)),(3,(i64 v1))]∧H=[.cells (Za a0)]) fuel ⟨(0:Int),h16,by kernel_rfl,by kernel_rfl⟩ ?_
  rintro n17 st H ⟨v1,hF,rfl,rfl⟩
  cases n17 with
  | zero=>exact noneb hF
  | succ n17=>
   rw [Z0] at hF
   refine AWP.seq ?_
   refine .seq (.rg0 [] [(1,(.ptr 0 0)),(3,(i64 v1)),(5,(vb (decide (v1<(5:Int)))))] ?_)
   refine AWP.cif hF (fun h30 hF=>?_) (fun h30 hF=>?_)
   ·refine AWP.skip ?_
    refine AWP.seq ?_
    refine AWP.block ?_
    refine AWP.seq ?_
    obtain ⟨h18,hF⟩:=chkb hF
    obtain ⟨h19,hF⟩:=chkb hF
    obtain ⟨b20,h21,hF⟩:=bindb hF
    replace h21:=someb h21
    obtain ⟨v25,h26,hF⟩:=bindb hF
    refine AWP.to [(1,(.ptr 0 0)),(3,(i64 v1)),(25,(vb v25))] [.cells (Za a0)] ?_ ?_
    ·cases b20 with
     | false=>
      have h27:=ifF h26 rfl
      obtain ⟨h22,h27⟩:=chkb h27
      obtain ⟨r23,h24,h27⟩:=bindb h27
      replace h27:=someb h27
      subst h27
      exact AWP.drT [(1,.ixd h18),(3,.ldA Zg (Arr5.get a0) 0 2 0 h18),(5,.ixd h19),(7,.ldA Zg (Arr5.get a0) 0 2 1 h19),(9,.bool h21),(11,.ixd h22),(13,.ldA Zg (Arr5.get a0) 0 2 1 h22),(15,.call Tryd.func30 [] (Zhs v1 r23 h24))] 18 [] [] []
     | true=>
      have h28:=someb (ifT h26 rfl)
      subst h28
      exact AWP.drT [(1,.ixd h18),(3,.ldA Zg (Arr5.get a0) 0 2 0 h18),(5,.ixd h19),(7,.ldA Zg (Arr5.get a0) 0 2 1 h19),(9,.bool h21)] 18 [] [] []
    refine AWP.cif hF (fun h29 hF=>?_) (fun h29 hF=>?_)
    ·refine .seq (.rg0 [] [(2,(vb false))] ?_)
     refine AWP.ret ?_
     exact LeQ.of (.inr ⟨rfl,false,(someb hF).symm,(FnQ.f0 0 (.inr rfl))⟩)
    ·refine AWP.skip ?_
     refine AWP.rg0 [] [(1,(.ptr 0 0)),(3,(i64 (IntKind.wrap .i64 (v1 + (1:Int)))))] ?_
     refine LeQ.start ?_
     refine LeQ.pk [1,3] 1 ?_
     exact ⟨n17,Nat.lt_succ_self _,(IntKind.wrap .i64 (v1 + (1:Int))),hF,by kernel_rfl,by kernel_rfl⟩
   ·refine AWP.exit ?_
    refine LeQ.start ?_
    refine LeQ.pk [] 1 ?_
    exact (.inl ⟨rfl,(someb hF).symm,by kernel_rfl,by kernel_rfl⟩)
 ·rintro _ _ _ (⟨rfl,rfl,rfl,rfl⟩ | ⟨rfl,r31,rfl,hq⟩)
  ·refine .seq (.rg0 [] [(2,(vb true))] ?_)
   refine AWP.ret ?_
   have hr:=someb hF
   subst hr
   exact (FnQ.f0 0 (.inr rfl))
  ·have hr:=someb hF
   subst hr
   exact hq
def Zhp (r:Bool):PV→List Blk→Prop:=fun p K=>p=(vb r)∧K=[]
abbrev Zjp (r:Bool):Exit→St→List Blk→Prop:=FnQ Tryd.prog Tryd.f46.results 0 (Zhp r)
theorem Zjq (a0:(Arr5 api_Range)) (a1:api_Header) (r:Bool) (hF:Zec a0 a1=some r):ACall Tryd.prog glob 46 [(Zk a0),(Za8 a1)] [] (Zhp r):=by
 refine ACall.body Tryd.func46 rfl (by kernel_rfl) ?_
 unfold Zec at hF
 refine .seq (.rg [] [(2,(.ptr 0 0)),(3,(.ptr 1 0))] [.cells (Za a0),.cells (Zf a1)] ?_)
 refine AWP.seq ?_
 obtain ⟨r1,h2,hF⟩:=bindb hF
 refine AWP.rg [(1,.call Tryd.func47 [] (Zkt a1 r1 h2))] [(2,(.ptr 0 0)),(5,(.ptr 2 0))] [.cells (Za a0),.cells (Zf a1),.cells (Zao r1)] ?_
 refine AWP.seq ?_
 refine .seq (.rg0 [] [(2,(.ptr 0 0)),(5,(.ptr 2 0)),(6,(i64 (0:Int)))] ?_)
 obtain ⟨o16,h17,hF⟩:=bindb hF
 refine AWP.mid (fun e st H=>(e=.normal∧o16=(.inl ())∧st=[(2,(.ptr 0 0))]∧H=[.cells (Za a0),.cells (Zf a1),.cells (Zao r1)])∨(e=.ret∧∃ (r:Bool),o16=(.inr r)∧Zjp r e st H)) ?_ ?_
 ·clear hF
  refine AWP.kp [2,5,6] 3 ?_
  refine AWP.bround (fun n st H=>∃ (v3:Int),Zb1 a0 r1 n v3=some o16∧st=[(2,(.ptr 0 0)),(5,(.ptr 2 0)),(6,(i64 v3))]∧H=[.cells (Za a0),.cells (Zf a1),.cells (Zao r1)]) fuel ⟨(0:Int),h17,by kernel_rfl,by kernel_rfl⟩ ?_
  rintro n18 st H ⟨v3,hF,rfl,rfl⟩
  cases n18 with
  | zero=>exact noneb hF
  | succ n18=>
   rw [Zb1] at hF
   refine AWP.seq ?_
   refine .seq (.rg0 [] [(2,(.ptr 0 0)),(5,(.ptr 2 0)),(6,(i64 v3)),(10,(vb (decide (v3<(5:Int)))))] ?_)
   refine AWP.cif hF (fun h30 hF=>?_) (fun h30 hF=>?_)
   ·refine AWP.skip ?_
    refine AWP.seq ?_
    refine AWP.block ?_
    refine AWP.seq ?_
    obtain ⟨h19,hF⟩:=chkb hF
    obtain ⟨h20,hF⟩:=chkb hF
    obtain ⟨b21,h22,hF⟩:=bindb hF
    replace h22:=someb h22
    obtain ⟨v25,h26,hF⟩:=bindb hF
    refine AWP.to [(2,(.ptr 0 0)),(5,(.ptr 2 0)),(6,(i64 v3)),(30,(vb v25))] [.cells (Za a0),.cells (Zf a1),.cells (Zao r1)] ?_ ?_
    ·cases b21 with
     | false=>
      have h27:=ifF h26 rfl
      obtain ⟨h23,h27⟩:=chkb h27
      obtain ⟨h24,h27⟩:=chkb h27
      replace h27:=someb h27
      subst h27
      exact AWP.drT [(1,.ixd h19),(2,.ldA Zdd (Arr5.get r1) 0 1 0 h19),(4,.ixd h20),(6,.ldA Zg (Arr5.get a0) 0 2 0 h20),(8,.bool h22),(10,.ixd h23),(11,.ldA Zdd (Arr5.get r1) 0 1 0 h23),(13,.ixd h24),(15,.ldA Zg (Arr5.get a0) 0 2 1 h24)] 18 [] [] []
     | true=>
      have h28:=someb (ifT h26 rfl)
      subst h28
      exact AWP.drT [(1,.ixd h19),(2,.ldA Zdd (Arr5.get r1) 0 1 0 h19),(4,.ixd h20),(6,.ldA Zg (Arr5.get a0) 0 2 0 h20),(8,.bool h22)] 18 [] [] []
    refine AWP.cif hF (fun h29 hF=>?_) (fun h29 hF=>?_)
    ·refine .seq (.rg0 [] [(4,(vb false))] ?_)
     refine AWP.ret ?_
     exact LeQ.of (.inr ⟨rfl,false,(someb hF).symm,(FnQ.f0 0 (.inr rfl))⟩)
    ·refine AWP.skip ?_
     refine AWP.rg0 [] [(2,(.ptr 0 0)),(5,(.ptr 2 0)),(6,(i64 (IntKind.wrap .i64 (v3 + (1:Int)))))] ?_
     refine LeQ.start ?_
     refine LeQ.pk [2,5,6] 3 ?_
     exact ⟨n18,Nat.lt_succ_self _,(IntKind.wrap .i64 (v3 + (1:Int))),hF,by kernel_rfl,by kernel_rfl⟩
   ·refine AWP.exit ?_
    refine LeQ.start ?_
    refine LeQ.pk [2] 3 ?_
    exact (.inl ⟨rfl,(someb hF).symm,by kernel_rfl,by kernel_rfl⟩)
 ·rintro _ _ _ (⟨rfl,rfl,rfl,rfl⟩ | ⟨rfl,r33,rfl,hq⟩)
  ·refine AWP.seq ?_
   obtain ⟨r31,h32,hF⟩:=bindb hF
   refine AWP.rg0 [(1,.call Tryd.func56 [] (Zkv a0 r31 h32))] [(4,(vb r31))] ?_
   refine AWP.ret ?_
   have hr:=someb hF
   subst hr
   exact (FnQ.f0 0 (.inr rfl))
  ·have hr:=someb hF
   subst hr
   exact hq
def Zhq (r:Bool):PV→List Blk→Prop:=fun p K=>p=(vb r)∧K=[]
abbrev Zjr (r:Bool):Exit→St→List Blk→Prop:=FnQ Tryd.prog Tryd.f19.results 0 (Zhq r)
theorem Zcc (a0:(List (Arr5 api_Range))) (a1:api_Header) (r:Bool) (hF:Zcp a0 a1=some r):ACall Tryd.prog glob 19 [(slc 10 Za a0),(Za8 a1)] [] (Zhq r):=by
 refine ACall.body Tryd.func19 rfl (by kernel_rfl) ?_
 unfold Zcp at hF
 refine .seq (.rg [] [(0,(slc 10 Za a0)),(3,(.ptr 0 0))] [.cells (Zf a1)] ?_)
 refine AWP.seq ?_
 refine .seq (.rg0 [] [(0,(slc 10 Za a0)),(3,(.ptr 0 0)),(5,(i64 (0:Int)))] ?_)
 obtain ⟨o8,h9,hF⟩:=bindb hF
 refine AWP.mid (fun e st H=>(e=.normal∧o8=(.inl ())∧st=[]∧H=[.cells (Zf a1)])∨(e=.ret∧∃ (r:Bool),o8=(.inr r)∧Zjr r e st H)) ?_ ?_
 ·clear hF
  refine AWP.kp [0,3,5] 1 ?_
  refine AWP.bround (fun n st H=>∃ (v1:Int),Zcl a0 a1 n v1=some o8∧st=[(0,(slc 10 Za a0)),(3,(.ptr 0 0)),(5,(i64 v1))]∧H=[.cells (Zf a1)]) fuel ⟨(0:Int),h9,by kernel_rfl,by kernel_rfl⟩ ?_
  rintro n10 st H ⟨v1,hF,rfl,rfl⟩
  cases n10 with
  | zero=>exact noneb hF
  | succ n10=>
   rw [Zcl] at hF
   refine AWP.seq ?_
   refine .seq (.rg0 [(2,.len Za a0)] [(0,(slc 10 Za a0)),(3,(.ptr 0 0)),(5,(i64 v1)),(9,(vb (decide (v1<(List.length a0:Int)))))] ?_)
   refine AWP.cif hF (fun h16 hF=>?_) (fun h16 hF=>?_)
   ·refine AWP.skip ?_
    refine AWP.seq ?_
    refine AWP.block ?_
    refine AWP.seq ?_
    obtain ⟨x11,h12,hF⟩:=bindb hF
    obtain ⟨r13,h14,hF⟩:=bindb hF
    refine AWP.dr [(2,.idx Za h12),(5,.call Tryd.func46 [] (Zjq x11 a1 r13 h14))] 6 [] [] [] [(0,(slc 10 Za a0)),(3,(.ptr 0 0)),(5,(i64 v1)),(17,(vb r13))] [.cells (Zf a1)] ?_
    refine AWP.cif hF (fun h15 hF=>?_) (fun h15 hF=>?_)
    ·refine .seq (.rg0 [] [(4,(vb true))] ?_)
     refine AWP.ret ?_
     exact LeQ.of (.inr ⟨rfl,true,(someb hF).symm,(FnQ.f0 0 (.inr rfl))⟩)
    ·refine AWP.skip ?_
     refine AWP.rg0 [] [(0,(slc 10 Za a0)),(3,(.ptr 0 0)),(5,(i64 (IntKind.wrap .i64 (v1 + (1:Int)))))] ?_
     refine LeQ.start ?_
     refine LeQ.pk [0,3,5] 1 ?_
     exact ⟨n10,Nat.lt_succ_self _,(IntKind.wrap .i64 (v1 + (1:Int))),hF,by kernel_rfl,by kernel_rfl⟩
   ·refine AWP.exit ?_
    refine LeQ.start ?_
    refine LeQ.pk [] 1 ?_
    exact (.inl ⟨rfl,(someb hF).symm,by kernel_rfl,by kernel_rfl⟩)
 ·rintro _ _ _ (⟨rfl,rfl,rfl,rfl⟩ | ⟨rfl,r17,rfl,hq⟩)
  ·refine .seq (.rg0 [] [(4,(vb false))] ?_)
   refine AWP.ret ?_
   have hr:=someb hF
   subst hr
   exact (FnQ.f0 0 (.inr rfl))
  ·have hr:=someb hF
   subst hr
   exact hq
def Zge (r:Bool):PV→List Blk→Prop:=fun p K=>p=(vb r)∧K=[]
abbrev Zic (r:Bool):Exit→St→List Blk→Prop:=FnQ Tryd.prog Tryd.f5.results 0 (Zge r)
theorem Zid (a0:(List Int)) (a1:api_Header) (r:Bool) (hF:Zd1 a0 a1=some r):ACall Tryd.prog glob 5 [(slc 1 Z5 a0),(Za8 a1)] [] (Zge r):=by
 refine ACall.body Tryd.func5 rfl (by kernel_rfl) ?_
 unfold Zd1 at hF
 refine .seq (.rg [] [(0,(slc 1 Z5 a0)),(3,(.ptr 0 0))] [.cells (Zf a1)] ?_)
 refine AWP.seq ?_
 obtain ⟨r1,h2,hF⟩:=bindb hF
 refine AWP.rg [(1,.call Tryd.func6 [] (Zlb a0 r1 h2))] [(3,(.ptr 0 0)),(5,(.ptr 1 0))] [.cells (Zf a1),.cells (Ze r1)] ?_
 refine AWP.seq ?_
 obtain ⟨r3,h4,hF⟩:=bindb hF
 obtain ⟨r5,h6,hF⟩:=bindb hF
 refine AWP.rg [(1,.call Tryd.func7 [] (Zi7 r1 (3:Int) true r3 h4)),(3,.call Tryd.func16 [] (Zja r3.2 (3:Int) true r5 h6))] [(3,(.ptr 0 0)),(5,(.ptr 1 0)),(6,(slc 20 Zd r3.1)),(7,(slc 10 Za r5.1))] [.cells (Zf a1),.cells (Ze r5.2)] ?_
 refine AWP.seq ?_
 obtain ⟨r7,h8,hF⟩:=bindb hF
 refine AWP.rg0 [(2,.call Tryd.func21 [] (Zkn r3.1 r5.1 r7 h8))] [(3,(.ptr 0 0)),(5,(.ptr 1 0)),(6,(slc 20 Zd r3.1)),(7,(slc 10 Za r5.1)),(8,(slc 10 Za r7.1)),(9,(i64 r7.2))] ?_
 refine AWP.seq ?_
 obtain ⟨r9,h10,hF⟩:=bindb hF
 refine AWP.rg0 [(2,.call Tryd.func22 [] (Zjn r3.1 r5.1 r9 h10))] [(3,(.ptr 0 0)),(5,(.ptr 1 0)),(6,(slc 20 Zd r3.1)),(7,(slc 10 Za r5.1)),(8,(slc 10 Za r7.1)),(9,(i64 r7.2)),(10,(slc 10 Za r9.1)),(11,(i64 r9.2))] ?_
 refine AWP.seq ?_
 refine AWP.seq ?_
 obtain ⟨b11,h12,hF⟩:=bindb hF
 replace h12:=someb h12
 refine AWP.to [(3,(.ptr 0 0)),(5,(.ptr 1 0)),(6,(slc 20 Zd r3.1)),(7,(slc 10 Za r5.1)),(8,(slc 10 Za r7.1)),(9,(i64 r7.2)),(10,(slc 10 Za r9.1)),(11,(i64 r9.2)),(38,(vb (b11 || (r9.2 != (0:Int)))))] [.cells (Zf a1),.cells (Ze r5.2)] ?_ ?_
 ·cases b11 with
  | false=>
   exact AWP.rgT [(2,.bool h12)]
  | true=>
   exact AWP.rgT [(2,.bool h12)]
 refine AWP.cif hF (fun h103 hF=>?_) (fun h103 hF=>?_)
 ·refine AWP.seq ?_
  obtain ⟨b13,h14,hF⟩:=bindb hF
  replace h14:=someb h14
  obtain ⟨b15,h16,hF⟩:=bindb hF
  replace h16:=someb h16
  obtain ⟨v19,h20,hF⟩:=bindb hF
  refine AWP.to [(4,(vb v19))] [.cells (Zf a1),.cells (Ze r5.2)] ?_ ?_
  ·cases b13 with
   | false=>
    cases b15 with
    | false=>
     have h21:=someb (ifF h20 rfl)
     subst h21
     exact AWP.rgT [(2,.bool h14),(6,.bool h16)]
    | true=>
     have h22:=ifT h20 rfl
     obtain ⟨r17,h18,h22⟩:=bindb h22
     replace h22:=someb h22
     subst h22
     exact AWP.rgT [(2,.bool h14),(6,.bool h16),(7,.call Tryd.func10 [] (Zhj r17 h18))]
   | true=>
    subst h16
    have h23:=ifT h20 rfl
    obtain ⟨r17,h18,h23⟩:=bindb h23
    replace h23:=someb h23
    subst h23
    exact AWP.rgT [(2,.bool h14),(7,.call Tryd.func10 [] (Zhj r17 h18))]
  refine AWP.ret ?_
  have hr:=someb hF
  subst hr
  exact (FnQ.f0 0 (.inr rfl))
 ·refine AWP.skip ?_
  refine AWP.seq ?_
  obtain ⟨r24,h25,hF⟩:=bindb hF
  obtain ⟨r26,h27,hF⟩:=bindb hF
  obtain ⟨r28,h29,hF⟩:=bindb hF
  obtain ⟨r30,h31,hF⟩:=bindb hF
  obtain ⟨r32,h33,hF⟩:=bindb hF
  refine AWP.dr [(3,.call Tryd.func11 [] (Zf7 r5.2 r5.1 r24 h25)),(6,.call Tryd.func12 [] (Ziw r3.1 r26 h27)),(7,.call Tryd.func11 [] (Zf7 r24.2 r26 r28 h29)),(10,.call Tryd.func12 [] (Ziw r3.1 r30 h31)),(11,.call Tryd.func11 [] (Zf7 r28.2 r30 r32 h33))] 13 [] [3,6,7,10,11] [] [(6,(slc 20 Zd r3.1)),(7,(slc 10 Za r5.1)),(8,(slc 10 Za r7.1)),(10,(slc 10 Za r9.1)),(12,(slc 5 Zf [a1,r24.1,r28.1,r32.1]))] [.cells (Zf a1),.cells (Ze r32.2)] ?_
  refine AWP.seq ?_
  refine .seq (.rg0 [] [(6,(slc 20 Zd r3.1)),(7,(slc 10 Za r5.1)),(8,(slc 10 Za r7.1)),(10,(slc 10 Za r9.1)),(12,(slc 5 Zf [a1,r24.1,r28.1,r32.1])),(13,(i64 (0:Int)))] ?_)
  obtain ⟨o66,h67,hF⟩:=bindb hF
  refine AWP.mid (fun e st H=>(e=.normal∧o66=(.inl ())∧st=[]∧H=[.cells (Zf a1),.cells (Ze r32.2)])∨(e=.ret∧∃ (r:Bool),o66=(.inr r)∧Zic r e st H)) ?_ ?_
  ·clear hF
   refine AWP.kp [6,7,8,10,12,13] 2 ?_
   refine AWP.bround (fun n st H=>∃ (v34:Int),Za9 a1 r3 r5 r7 r9 r24 r28 r32 n v34=some o66∧st=[(6,(slc 20 Zd r3.1)),(7,(slc 10 Za r5.1)),(8,(slc 10 Za r7.1)),(10,(slc 10 Za r9.1)),(12,(slc 5 Zf [a1,r24.1,r28.1,r32.1])),(13,(i64 v34))]∧H=[.cells (Zf a1),.cells (Ze r32.2)]) fuel ⟨(0:Int),h67,by kernel_rfl,by kernel_rfl⟩ ?_
   rintro n68 st H ⟨v34,hF,rfl,rfl⟩
   cases n68 with
   | zero=>exact noneb hF
   | succ n68=>
    rw [Za9] at hF
    refine AWP.seq ?_
    refine .seq (.rg0 [(2,.len Zf [a1,r24.1,r28.1,r32.1])] [(6,(slc 20 Zd r3.1)),(7,(slc 10 Za r5.1)),(8,(slc 10 Za r7.1)),(10,(slc 10 Za r9.1)),(12,(slc 5 Zf [a1,r24.1,r28.1,r32.1])),(13,(i64 v34)),(64,(vb (decide (v34<(List.length [a1,r24.1,r28.1,r32.1]:Int)))))] ?_)
    refine AWP.cif hF (fun h99 hF=>?_) (fun h99 hF=>?_)
    ·refine AWP.skip ?_
     refine AWP.seq ?_
     refine AWP.block ?_
     refine AWP.seq ?_
     obtain ⟨x69,h70,hF⟩:=bindb hF
     obtain ⟨r71,h72,hF⟩:=bindb hF
     refine AWP.rg [(3,.idx Zf h70),(5,.call Tryd.func15 [] (Zkr r3.1 x69 r71 h72))] [(6,(slc 20 Zd r3.1)),(7,(slc 10 Za r5.1)),(8,(slc 10 Za r7.1)),(10,(slc 10 Za r9.1)),(12,(slc 5 Zf [a1,r24.1,r28.1,r32.1])),(13,(i64 v34)),(14,(.ptr 2 0))] [.cells (Zf a1),.cells (Ze r32.2),.cells (Zf r71)] ?_
     refine AWP.seq ?_
     obtain ⟨x73,h74,hF⟩:=bindb hF
     obtain ⟨r75,h76,hF⟩:=bindb hF
     obtain ⟨b77,h78,hF⟩:=bindb hF
     replace h78:=someb h78
     obtain ⟨v81,h82,hF⟩:=bindb hF
     obtain ⟨b83,h84,hF⟩:=bindb hF
     replace h84:=someb h84
     obtain ⟨v91,h92,hF⟩:=bindb hF
     refine AWP.to [(6,(slc 20 Zd r3.1)),(7,(slc 10 Za r5.1)),(8,(slc 10 Za r7.1)),(10,(slc 10 Za r9.1)),(12,(slc 5 Zf [a1,r24.1,r28.1,r32.1])),(13,(i64 v34)),(96,(vb v91))] [.cells (Zf a1),.cells (Ze r32.2),.cells (Zf r71)] ?_ ?_
     ·cases b77 with
      | false=>
       have h93:=someb (ifF h82 rfl)
       subst h93
       subst h84
       have h94:=ifF h92 rfl
       obtain ⟨x85,h86,h94⟩:=bindb h94
       obtain ⟨r87,h88,h94⟩:=bindb h94
       obtain ⟨r89,h90,h94⟩:=bindb h94
       replace h94:=someb h94
       subst h94
       exact AWP.drT [(3,.idx Zf h74),(5,.call Tryd.func19 [] (Zcc r5.1 x73 r75 h76)),(6,.bool h78),(16,.idx Zf h86),(18,.call Tryd.func19 [] (Zcc r9.1 x85 r87 h88)),(21,.call Tryd.func19 [] (Zcc r5.1 r71 r89 h90))] 24 [] [] []
      | true=>
       have h95:=ifT h82 rfl
       obtain ⟨r79,h80,h95⟩:=bindb h95
       replace h95:=someb h95
       subst h95
       cases b83 with
       | false=>
        have h96:=ifF h92 rfl
        obtain ⟨x85,h86,h96⟩:=bindb h96
        obtain ⟨r87,h88,h96⟩:=bindb h96
        obtain ⟨r89,h90,h96⟩:=bindb h96
        replace h96:=someb h96
        subst h96
        exact AWP.drT [(3,.idx Zf h74),(5,.call Tryd.func19 [] (Zcc r5.1 x73 r75 h76)),(6,.bool h78),(9,.call Tryd.func19 [] (Zcc r7.1 r71 r79 h80)),(12,.bool h84),(16,.idx Zf h86),(18,.call Tryd.func19 [] (Zcc r9.1 x85 r87 h88)),(21,.call Tryd.func19 [] (Zcc r5.1 r71 r89 h90))] 24 [] [] []
       | true=>
        have h97:=someb (ifT h92 rfl)
        subst h97
        exact AWP.drT [(3,.idx Zf h74),(5,.call Tryd.func19 [] (Zcc r5.1 x73 r75 h76)),(6,.bool h78),(9,.call Tryd.func19 [] (Zcc r7.1 r71 r79 h80)),(12,.bool h84)] 24 [] [] []
     refine AWP.cif hF (fun h98 hF=>?_) (fun h98 hF=>?_)
     ·refine .seq (.rg0 [] [(4,(vb false))] ?_)
      refine AWP.ret ?_
      exact LeQ.of (.inr ⟨rfl,false,(someb hF).symm,(FnQ.f0 0 (.inr rfl))⟩)
     ·refine AWP.skip ?_
      refine AWP.rg0 [] [(6,(slc 20 Zd r3.1)),(7,(slc 10 Za r5.1)),(8,(slc 10 Za r7.1)),(10,(slc 10 Za r9.1)),(12,(slc 5 Zf [a1,r24.1,r28.1,r32.1])),(13,(i64 (IntKind.wrap .i64 (v34 + (1:Int)))))] ?_
      refine LeQ.start ?_
      refine LeQ.pk [6,7,8,10,12,13] 2 ?_
      exact ⟨n68,Nat.lt_succ_self _,(IntKind.wrap .i64 (v34 + (1:Int))),hF,by kernel_rfl,by kernel_rfl⟩
    ·refine AWP.exit ?_
     refine LeQ.start ?_
     refine LeQ.pk [] 2 ?_
     exact (.inl ⟨rfl,(someb hF).symm,by kernel_rfl,by kernel_rfl⟩)
  ·rintro _ _ _ (⟨rfl,rfl,rfl,rfl⟩ | ⟨rfl,r102,rfl,hq⟩)
   ·refine AWP.seq ?_
    obtain ⟨r100,h101,hF⟩:=bindb hF
    refine AWP.rg0 [(0,.call Tryd.func10 [] (Zhj r100 h101))] [(4,(vb r100))] ?_
    refine AWP.ret ?_
    have hr:=someb hF
    subst hr
    exact (FnQ.f0 0 (.inr rfl))
   ·have hr:=someb hF
    subst hr
    exact hq
end Go.AM
set_option maxRecDepth 100000
namespace Go.AM
open Go
def Ok {α:Type} (x:Option α) (p:α→Prop):Prop:=∃ r,x=some r∧p r
theorem Ok.bind {α γ:Type} {x:Option α} {p:α→Prop} {f:α→Option γ} {q:γ→Prop} (h:Ok x p) (k:∀ v,p v→Ok (f v) q):Ok (x.bind f) q:=by
 obtain ⟨v,rfl,hv⟩:=h
 exact k v hv
theorem Ok.ret {α:Type} {r:α} {p:α→Prop} (h:p r):Ok (some r) p:=⟨r,rfl,h⟩
theorem Ok.chk {α:Type} {c:Prop} [Decidable c] {x:Option α} {p:α→Prop} (hc:c) (h:Ok x p):Ok (if c then x else none) p:=by rw [if_pos hc]; exact h
theorem Ok.ite {α:Type} {c:Prop} [Decidable c] {x y:Option α} {p:α→Prop} (h1:c→Ok x p) (h2:¬ c→Ok y p):Ok (if c then x else y) p:=by
 split
 ·exact h1 (by assumption)
 ·exact h2 (by assumption)
theorem Ok.lift {α γ:Type} {b:α} {f:α→Option γ} {q:γ→Prop} (h:Ok (f b) q):Ok ((Option.some b).bind f) q:=h
theorem Ok.mono {α:Type} {x:Option α} {p q:α→Prop} (h:Ok x p) (k:∀ v,p v→q v):Ok x q:=by
 obtain ⟨v,h1,h2⟩:=h
 exact ⟨v,h1,k v h2⟩
theorem Ok.get {α:Type} {x:Option α} {p:α→Prop} (h:Ok x p) {r:α} (e:x=some r):p r:=by
 obtain ⟨v,h1,h2⟩:=h
 rw [h1] at e; cases e; exact h2
theorem Ok.eq {α:Type} {x:Option α} {r:α} (h:Ok x (·=r)):x=some r:=by
 obtain ⟨v,h1,rfl⟩:=h; exact h1
theorem Ok.idx {α:Type} {l:List α} {i:Int} {p:α→Prop} (h0:0≤i) (h1:i<l.length) (h:∀ x∈l,p x):Ok (idx l i) p:=by
 have hi:i.toNat<l.length:=by omega
 exact ⟨l[i.toNat],by simp [AM.idx,h0,hi],h _ (List.getElem_mem hi)⟩
theorem idx_get {α:Type} {l:List α} {i:Nat} (h:i<l.length):AM.idx l (i:Int)=some l[i]:=by simp [AM.idx,h]
theorem wrap_u (k:IntKind) (b:Nat) (hs:k.signed=false) (hb:k.bits=b) (x:Int):k.wrap x=x % (2 ^ b:Int):=by
 subst hb; simp [IntKind.wrap,hs]
theorem wi64 {x:Int} (h0:-9223372036854775808≤x) (h1:x<9223372036854775808):IntKind.wrap .i64 x=x:=by
 simp only [IntKind.wrap,IntKind.bits,IntKind.signed]
 simp
 omega
theorem wu64 {x:Int} (h0:0≤x) (h1:x<18446744073709551616):IntKind.wrap .u64 x=x:=by
 simp only [IntKind.wrap,IntKind.bits,IntKind.signed]
 simp
 omega
theorem wu32 {x:Int} (h0:0≤x) (h1:x<4294967296):IntKind.wrap .u32 x=x:=by
 simp only [IntKind.wrap,IntKind.bits,IntKind.signed]
 simp
 omega
theorem wu32_range (x:Int):0≤IntKind.wrap .u32 x∧IntKind.wrap .u32 x<4294967296:=by
 simp only [IntKind.wrap,IntKind.bits,IntKind.signed]
 simp
 omega
theorem wu16_range (x:Int):0≤IntKind.wrap .u16 x∧IntKind.wrap .u16 x<65536:=by
 simp only [IntKind.wrap,IntKind.bits,IntKind.signed]
 simp
 omega
theorem wu64_range (x:Int):0≤IntKind.wrap .u64 x∧IntKind.wrap .u64 x<18446744073709551616:=by
 simp only [IntKind.wrap,IntKind.bits,IntKind.signed]
 simp
 omega
theorem bShl_one {k:Nat} (h:k<64):bShl .u64 1 (k:Int)=(2 ^ k:Nat):=by
 have h2:(2:Nat) ^ k<2 ^ 64:=Nat.pow_lt_pow_right (by omega) h
 unfold bShl
 have e:((1:Int) * 2 ^ min (k:Int).toNat (IntKind.bits .u64))=((2 ^ k:Nat):Int):=by
  rw [show IntKind.bits .u64=64 from rfl,Int.toNat_natCast,Nat.min_eq_left (by omega)]; simp
 have h3:((2 ^ k:Nat):Int)<18446744073709551616:=Int.ofNat_lt.2 h2
 rw [e]
 exact wu64 (Int.natCast_nonneg _) h3
structure TOk (t:nsggen_Tape):Prop where
 h0:0≤t.f_i
 h1:t.f_i≤t.f_l.length
 h2:(t.f_l.length:Int)<9223372036854775808
theorem New_ok {l:List Int} (h:(l.length:Int)<9223372036854775808):Ok (Zg1 l) TOk:=Ok.ret ⟨Int.le_refl 0,by simp,h⟩
theorem Mod_ok {x n:Int} (h1:1≤n) (h2:n<9223372036854775808):Ok (Zfl x n) fun v=>0≤v∧v<n:=by
 unfold Zfl
 have hn:IntKind.wrap .u64 n=n:=wu64 (by omega) (by omega)
 rw [hn]
 have hx:=wu64_range x
 have h3:0≤Int.tmod (IntKind.wrap .u64 x) n:=Int.tmod_nonneg _ hx.1
 have h4:Int.tmod (IntKind.wrap .u64 x) n<n:=Int.tmod_lt_of_pos _ (by omega)
 refine Ok.chk (by omega) (Ok.ret ?_)
 rw [wi64 (by omega) (by omega)]
 exact ⟨h3,h4⟩
theorem Next_ok {t:nsggen_Tape} (ht:TOk t) (n:Int) (h2:n<9223372036854775808):Ok (Zm t n) fun r=>(0≤r.1∧(r.1<n∨r.1=0))∧TOk r.2:=by
 unfold Zm
 refine Ok.lift (Ok.ite (fun hc=>Ok.ret ⟨⟨by simp,.inr rfl⟩,ht⟩) fun hc=>?_)
 simp only [Bool.or_eq_true,decide_eq_true_eq] at hc
 have hc1:¬ n≤1:=fun h=>hc (.inl h)
 have hc2:¬ t.f_i ≥ t.f_l.length:=fun h=>hc (.inr h)
 have h0:=ht.h0
 have h1:=ht.h2
 have e1:IntKind.wrap .i64 (t.f_i + 1)=t.f_i + 1:=wi64 (by omega) (by omega)
 rw [e1]
 have e2:IntKind.wrap .i64 (t.f_i + 1 - 1)=t.f_i:=by rw [Int.add_sub_cancel]; exact wi64 (by omega) (by omega)
 rw [e2]
 refine Ok.bind (Ok.idx (p:=fun _=>True) h0 (by omega) fun _ _=>trivial) fun x _=>?_
 refine Ok.bind (Mod_ok (by omega) h2) fun v hv=>Ok.ret ⟨⟨hv.1,.inl hv.2⟩,?_⟩
 exact ⟨by show 0≤t.f_i + 1; omega,by show t.f_i + 1≤t.f_l.length; omega,h1⟩
theorem Next_lt {t:nsggen_Tape} (ht:TOk t) (n:Int) (h1:1≤n) (h2:n<9223372036854775808):Ok (Zm t n) fun r=>(0≤r.1∧r.1<n)∧TOk r.2:=
 (Next_ok ht n h2).mono fun r ⟨⟨h3,h4⟩,h5⟩=>⟨⟨h3,by omega⟩,h5⟩
def full:Arr5 api_Range:=⟨⟨0,4294967295⟩,⟨0,4294967295⟩,⟨0,255⟩,⟨0,65535⟩,⟨0,65535⟩⟩
theorem Full_eq:Zfm=some full:=by kernel_rfl
structure ROk (top:Int) (r:api_Range):Prop where
 h0:0≤r.Lo
 h1:r.Lo≤r.Hi
 h2:r.Hi≤top
structure RIn (r:api_Range):Prop where
 h0:0≤r.Lo
 h1:r.Lo<4294967296
 h2:0≤r.Hi
 h3:r.Hi<4294967296
theorem ROk.rin {top:Int} {r:api_Range} (h:ROk top r) (ht:top<4294967296):RIn r:=⟨h.h0,by have:=h.h1; have:=h.h2; omega,by have:=h.h0; have:=h.h1; omega,by have:=h.h2; omega⟩
structure BOk (b:Arr5 api_Range):Prop where
 h0:ROk 4294967295 b.x0
 h1:ROk 4294967295 b.x1
 h2:ROk 255 b.x2
 h3:ROk 65535 b.x3
 h4:ROk 65535 b.x4
structure BIn (b:Arr5 api_Range):Prop where
 h0:RIn b.x0
 h1:RIn b.x1
 h2:RIn b.x2
 h3:RIn b.x3
 h4:RIn b.x4
theorem BOk.bin {b:Arr5 api_Range} (h:BOk b):BIn b:=⟨h.h0.rin (by omega),h.h1.rin (by omega),h.h2.rin (by omega),h.h3.rin (by omega),h.h4.rin (by omega)⟩
theorem full_ok:BOk full:=⟨⟨by decide,by decide,by decide⟩,⟨by decide,by decide,by decide⟩,⟨by decide,by decide,by decide⟩,⟨by decide,by decide,by decide⟩,⟨by decide,by decide,by decide⟩⟩
def topOf (i:Int):Int:=if i=0 then 4294967295 else if i=1 then 4294967295 else if i=2 then 255 else 65535
theorem Top_eq (f:Int) (h0:0≤f) (h1:f<5):Ze4 f=some (topOf f):=by
 have hk:f=0∨f=1∨f=2∨f=3∨f=4:=by omega
 rcases hk with rfl | rfl | rfl | rfl | rfl <;> rfl
theorem fuel6:fuel=1180591620717411303418 + 6:=by kernel_rfl
theorem Number_ok {t:nsggen_Tape} (ht:TOk t) {top:Int} (h0:0≤top) (h1:top<4294967296):Ok (Zbj t top) fun r=>(0≤r.1∧r.1≤top)∧TOk r.2:=by
 unfold Zbj
 refine Ok.bind (Next_lt ht 17 (by omega) (by omega)) fun r ⟨⟨h2,h3⟩,h4⟩=>?_
 have hw:=wu32_range (Int.tdiv top 2)
 have hw2:=wu32_range (top - 1)
 refine Ok.bind (Ok.idx (p:=fun x=>0≤x) h2 (by simpa using h3) fun x hx=>?_) fun x hx=>Ok.ret ⟨⟨?_,?_⟩,h4⟩
 ·simp only [List.mem_cons,List.not_mem_nil,or_false] at hx
  omega
 ·show 0≤iMin x top
  unfold iMin; split <;> omega
 ·show iMin x top≤top
  unfold iMin; split <;> omega
theorem Range_ok {t:nsggen_Tape} (ht:TOk t) {top:Int} (h0:0≤top) (h1:top<4294967296):Ok (Zde t top) fun r=>ROk top r.1∧TOk r.2:=by
 unfold Zde
 refine Ok.bind (Number_ok ht h0 h1) fun r ⟨⟨h2,h3⟩,h4⟩=>Ok.bind (Number_ok h4 h0 h1) fun s ⟨⟨h5,h6⟩,h7⟩=>Ok.ret ⟨⟨?_,?_,?_⟩,h7⟩
 ·show 0≤iMin r.1 s.1
  unfold iMin; split <;> omega
 ·show iMin r.1 s.1≤iMax r.1 s.1
  unfold iMin iMax; split <;> split <;> omega
 ·show iMax r.1 s.1≤top
  unfold iMax; split <;> omega
def subnets:List api_Prefix:=[⟨167772160,24⟩,⟨167772416,24⟩,⟨167772672,25⟩,⟨167772800,26⟩,⟨2886729728,16⟩,⟨3232237321,32⟩]
theorem Subnet_ok {x:Int}:Ok (Zdr x) fun p=>p∈subnets:=by
 unfold Zdr
 refine Ok.bind (Mod_ok (by omega) (by omega)) fun r ⟨h0,h1⟩=>?_
 exact Ok.bind (Ok.idx (p:=fun p=>p∈subnets) h0 (by simpa using h1) fun x hx=>hx) fun x hx=>Ok.ret hx
theorem Of_ok {p:api_Prefix} (hp:p∈subnets):Ok (Zfn p) fun r=>ROk 4294967295 r.1:=by
 simp only [subnets,List.mem_cons,List.not_mem_nil,or_false] at hp
 rcases hp with rfl | rfl | rfl | rfl | rfl | rfl
 ·exact ⟨(⟨167772160,167772415⟩,true),by kernel_rfl,by decide,by decide,by decide⟩
 ·exact ⟨(⟨167772416,167772671⟩,true),by kernel_rfl,by decide,by decide,by decide⟩
 ·exact ⟨(⟨167772672,167772799⟩,true),by kernel_rfl,by decide,by decide,by decide⟩
 ·exact ⟨(⟨167772800,167772863⟩,true),by kernel_rfl,by decide,by decide,by decide⟩
 ·exact ⟨(⟨2886729728,2886795263⟩,true),by kernel_rfl,by decide,by decide,by decide⟩
 ·exact ⟨(⟨3232237321,3232237321⟩,true),by kernel_rfl,by decide,by decide,by decide⟩
theorem Addr_ok {t:nsggen_Tape} (ht:TOk t):Ok (Zb5 t) fun r=>(0≤r.1∧r.1≤4294967295)∧TOk r.2:=by
 unfold Zb5
 refine Ok.bind (Next_lt ht 5 (by omega) (by omega)) fun r ⟨⟨h2,h3⟩,h4⟩=>Ok.ite (fun _=>?_) fun _=>?_
 ·refine Ok.bind (Next_lt h4 6 (by omega) (by omega)) fun r ⟨⟨h2,h3⟩,h4⟩=>?_
  refine Ok.bind (Ok.idx (p:=fun x=>0≤x∧x≤4294967295) h2 (by simpa using h3) fun x hx=>?_) fun x hx=>Ok.ret ⟨hx,h4⟩
  simp only [List.mem_cons,List.not_mem_nil,or_false] at hx
  omega
 ·refine Ok.bind (Next_lt h4 6 (by omega) (by omega)) fun r ⟨⟨h2,h3⟩,h4⟩=>Ok.bind Subnet_ok fun p hp=>Ok.bind (Of_ok hp) fun q hq=>?_
  refine Ok.bind (Next_lt h4 5 (by omega) (by omega)) fun r ⟨⟨h2,h3⟩,h4⟩=>?_
  refine Ok.bind (Ok.idx (p:=fun x=>0≤x∧x≤4294967295) h2 (by simpa using h3) fun x hx=>?_) fun x hx=>Ok.ret ⟨hx,h4⟩
  have g0:=hq.h0
  have g1:=hq.h1
  have g2:=hq.h2
  have w1:=wu32_range (q.1.Lo + 5)
  have w2:=wu32_range (q.1.Hi + 1)
  have w3:=wu32_range (q.1.Lo - 1)
  simp only [List.mem_cons,List.not_mem_nil,or_false] at hx
  omega
theorem addresses_ok {t:nsggen_Tape} (ht:TOk t):Ok (Zcq t) fun r=>ROk 4294967295 r.1∧TOk r.2:=by
 unfold Zcq
 refine Ok.bind (Next_lt ht 4 (by omega) (by omega)) fun r ⟨⟨h2,h3⟩,h4⟩=>Ok.ite (fun _=>?_) fun _=>Ok.ite (fun _=>?_) fun _=>Ok.ite (fun _=>?_) fun _=>?_
 ·exact Ok.bind (Next_lt h4 6 (by omega) (by omega)) fun r ⟨⟨h2,h3⟩,h4⟩=>Ok.bind Subnet_ok fun p hp=>Ok.bind (Of_ok hp) fun q hq=>Ok.ret ⟨hq,h4⟩
 ·refine Ok.bind (Addr_ok h4) fun a ⟨⟨a1,a2⟩,a3⟩=>Ok.bind (Addr_ok a3) fun b ⟨⟨b1,b2⟩,b3⟩=>Ok.ret ⟨⟨?_,?_,?_⟩,b3⟩
  ·show 0≤iMin a.1 b.1
   unfold iMin; split <;> omega
  ·show iMin a.1 b.1≤iMax a.1 b.1
   unfold iMin iMax; split <;> split <;> omega
  ·show iMax a.1 b.1≤4294967295
   unfold iMax; split <;> omega
 ·exact Ok.bind (Addr_ok h4) fun a ⟨⟨a1,a2⟩,a3⟩=>Ok.ret ⟨⟨a1,Int.le_refl _,a2⟩,a3⟩
 ·exact Ok.ret ⟨⟨Int.le_refl _,(by decide:(0:Int)≤4294967295),Int.le_refl _⟩,h4⟩
theorem Box_L1_ok:∀ (n:Nat) (t:nsggen_Tape) (b:Arr5 api_Range) (i:Int),TOk t→BOk b→i≤n→0≤i→i<100→Ok (Zb7 (n + 1) t b i) fun r=>TOk r.1∧BOk r.2
 | 0,t,b,i,ht,hb,hi,h0,h9=>by
  rw [Zb7]
  exact Ok.ite (fun hc=>absurd (of_decide_eq_true hc) (by omega)) fun _=>Ok.ret ⟨ht,hb⟩
 | n + 1,t,b,i,ht,hb,hi,h0,h9=>by
  rw [Zb7]
  refine Ok.ite (fun hc=>?_) fun _=>Ok.ret ⟨ht,hb⟩
  have hc:=of_decide_eq_true hc
  refine Ok.bind (p:=fun r=>TOk r.1∧BOk r.2) ?_ fun r ⟨h1,h2⟩=>?_
  ·refine Ok.bind (Next_lt ht 5 (by omega) (by omega)) fun r ⟨_,h4⟩=>Ok.ite (fun _=>?_) fun _=>Ok.ite (fun _=>?_) fun _=>Ok.ite (fun _=>?_) fun _=>Ok.ite (fun _=>?_) fun _=>?_
   ·exact Ok.bind (addresses_ok h4) fun q ⟨g1,g2⟩=>Ok.ret ⟨g2,⟨g1,hb.h1,hb.h2,hb.h3,hb.h4⟩⟩
   ·exact Ok.bind (addresses_ok h4) fun q ⟨g1,g2⟩=>Ok.ret ⟨g2,⟨hb.h0,g1,hb.h2,hb.h3,hb.h4⟩⟩
   ·refine Ok.bind (Next_lt h4 6 (by omega) (by omega)) fun r ⟨⟨h2,h3⟩,h4⟩=>?_
    refine Ok.bind (Ok.idx (p:=fun x=>0≤x∧x≤255) h2 (by simpa using h3) fun x hx=>?_) fun x hx=>Ok.ret ⟨h4,⟨hb.h0,hb.h1,⟨hx.1,Int.le_refl _,hx.2⟩,hb.h3,hb.h4⟩⟩
    simp only [List.mem_cons,List.not_mem_nil,or_false] at hx
    omega
   ·exact Ok.bind (Range_ok h4 (by omega) (by omega)) fun q ⟨g1,g2⟩=>Ok.ret ⟨g2,⟨hb.h0,hb.h1,hb.h2,g1,hb.h4⟩⟩
   ·exact Ok.bind (Range_ok h4 (by omega) (by omega)) fun q ⟨g1,g2⟩=>Ok.ret ⟨g2,⟨hb.h0,hb.h1,hb.h2,hb.h3,g1⟩⟩
  ·obtain ⟨r1,r2⟩:=r
   show Ok (Zb7 (n + 1) r1 r2 (IntKind.wrap .i64 (i - 1))) _
   rw [wi64 (by omega) (by omega)]
   exact Box_L1_ok n r1 r2 (i - 1) h1 h2 (by omega) (by omega) (by omega)
theorem Box_ok {t:nsggen_Tape} (ht:TOk t):Ok (Zeo t) fun r=>BOk r.1∧TOk r.2:=by
 unfold Zeo
 rw [Full_eq]
 refine Ok.lift (Ok.bind (Next_lt ht 3 (by omega) (by omega)) fun r ⟨⟨h2,h3⟩,h4⟩=>?_)
 have e:IntKind.wrap .i64 (1 + r.1)=1 + r.1:=wi64 (by omega) (by omega)
 rw [e]
 refine Ok.bind (Box_L1_ok 1180591620717411303423 r.2 full (1 + r.1) h4 full_ok (by omega) (by omega) (by omega)) fun q ⟨g1,g2⟩=>?_
 obtain ⟨q1,q2⟩:=q
 exact Ok.ret ⟨g2,g1⟩
theorem five {k:Int} (h0:0≤k) (h1:k<5):k=0∨k=1∨k=2∨k=3∨k=4:=by omega
theorem wnext {k:Int} (h0:0≤k) (h1:k<1000000):IntKind.wrap .i64 (k + (1:Int))=k + 1:=wi64 (by omega) (by omega)
def sideBad (top:Int) (r:api_Range):Bool:=decide (r.Lo > r.Hi) || decide (r.Hi > top)
theorem tops_get {k:Int} (h0:0≤k) (h1:k<5):Arr5.get Zaf k=topOf k:=by
 rcases five h0 h1 with rfl | rfl | rfl | rfl | rfl <;> rfl
theorem vstep (b:Arr5 api_Range) (n:Nat) {k:Int} (h0:0≤k) (h1:k<5):Zag b (n + 1) k=if sideBad (topOf k) (b.get k)=true then some (.inr false) else Zag b n (k + 1):=by
 rw [Zag,if_pos (decide_eq_true h1),if_pos ⟨h0,h1⟩,if_pos ⟨h0,h1⟩,tops_get h0 h1,wnext h0 (by omega)]
 unfold sideBad
 cases decide ((b.get k).Lo > (b.get k).Hi) <;> simp
theorem rvstep (b:Arr5 api_Range) (n:Nat) {k:Int} (h0:0≤k) (h1:k<5):Z0 b (n + 1) k=if sideBad (topOf k) (b.get k)=true then some (.inr false) else Z0 b n (k + 1):=by
 rw [Z0,if_pos (decide_eq_true h1),if_pos ⟨h0,h1⟩,if_pos ⟨h0,h1⟩,if_pos ⟨h0,h1⟩,Top_eq k h0 h1,wnext h0 (by omega)]
 unfold sideBad
 cases decide ((b.get k).Lo > (b.get k).Hi) <;> simp
def vB (b:Arr5 api_Range):Bool:=
 if sideBad 4294967295 b.x0=true then false else if sideBad 4294967295 b.x1=true then false else if sideBad 255 b.x2=true then false else if sideBad 65535 b.x3=true then false else if sideBad 65535 b.x4=true then false else true
theorem Valid_eq (b:Arr5 api_Range):Zd7 b=some (vB b):=by
 unfold Zd7
 rw [fuel6]
 generalize (1180591620717411303418:Nat)=m
 have s0:Zag b (m + 6) 0=if sideBad 4294967295 b.x0=true then some (.inr false) else Zag b (m + 5) 1:=vstep b (m + 5) (by omega) (by omega)
 have s1:Zag b (m + 5) 1=if sideBad 4294967295 b.x1=true then some (.inr false) else Zag b (m + 4) 2:=vstep b (m + 4) (by omega) (by omega)
 have s2:Zag b (m + 4) 2=if sideBad 255 b.x2=true then some (.inr false) else Zag b (m + 3) 3:=vstep b (m + 3) (by omega) (by omega)
 have s3:Zag b (m + 3) 3=if sideBad 65535 b.x3=true then some (.inr false) else Zag b (m + 2) 4:=vstep b (m + 2) (by omega) (by omega)
 have s4:Zag b (m + 2) 4=if sideBad 65535 b.x4=true then some (.inr false) else Zag b (m + 1) 5:=vstep b (m + 1) (by omega) (by omega)
 have s5:Zag b (m + 1) 5=some (.inl ()):=by rw [Zag]; rfl
 rw [s0,s1,s2,s3,s4,s5]
 unfold vB
 repeat' split
 all_goals first | rfl | (simp_all; done) | skip
theorem rValid_eq (b:Arr5 api_Range):Ze5 b=some (vB b):=by
 unfold Ze5
 rw [fuel6]
 generalize (1180591620717411303418:Nat)=m
 have s0:Z0 b (m + 6) 0=if sideBad 4294967295 b.x0=true then some (.inr false) else Z0 b (m + 5) 1:=rvstep b (m + 5) (by omega) (by omega)
 have s1:Z0 b (m + 5) 1=if sideBad 4294967295 b.x1=true then some (.inr false) else Z0 b (m + 4) 2:=rvstep b (m + 4) (by omega) (by omega)
 have s2:Z0 b (m + 4) 2=if sideBad 255 b.x2=true then some (.inr false) else Z0 b (m + 3) 3:=rvstep b (m + 3) (by omega) (by omega)
 have s3:Z0 b (m + 3) 3=if sideBad 65535 b.x3=true then some (.inr false) else Z0 b (m + 2) 4:=rvstep b (m + 2) (by omega) (by omega)
 have s4:Z0 b (m + 2) 4=if sideBad 65535 b.x4=true then some (.inr false) else Z0 b (m + 1) 5:=rvstep b (m + 1) (by omega) (by omega)
 have s5:Z0 b (m + 1) 5=some (.inl ()):=by rw [Z0]; rfl
 rw [s0,s1,s2,s3,s4,s5]
 unfold vB
 repeat' split
 all_goals first | rfl | (simp_all; done) | skip
theorem vB_ok {b:Arr5 api_Range} (hb:BIn b) (h:vB b=true):BOk b:=by
 unfold vB sideBad at h
 simp only [Bool.or_eq_true,decide_eq_true_eq] at h
 split at h; · cases h
 split at h; · cases h
 split at h; · cases h
 split at h; · cases h
 split at h; · cases h
 exact ⟨⟨hb.h0.h0,by omega,by omega⟩,⟨hb.h1.h0,by omega,by omega⟩,⟨hb.h2.h0,by omega,by omega⟩,⟨hb.h3.h0,by omega,by omega⟩,⟨hb.h4.h0,by omega,by omega⟩⟩
theorem ok_vB {b:Arr5 api_Range} (h:BOk b):vB b=true:=by
 obtain ⟨⟨_,a1,a2⟩,⟨_,b1,b2⟩,⟨_,c1,c2⟩,⟨_,d1,d2⟩,⟨_,e1,e2⟩⟩:=h
 unfold vB sideBad
 simp only [Bool.or_eq_true,decide_eq_true_eq]
 rw [if_neg (by omega),if_neg (by omega),if_neg (by omega),if_neg (by omega),if_neg (by omega)]
theorem BIn.get {b:Arr5 api_Range} (h:BIn b) (k:Int):RIn (b.get k):=by
 unfold Arr5.get
 split
 ·exact h.h0
 split
 ·exact h.h1
 split
 ·exact h.h2
 split
 ·exact h.h3
 ·exact h.h4
theorem BIn.set {b:Arr5 api_Range} (h:BIn b) {r:api_Range} (hr:RIn r) (k:Int):BIn (b.set k r):=by
 unfold Arr5.set
 split
 ·exact ⟨hr,h.h1,h.h2,h.h3,h.h4⟩
 split
 ·exact ⟨h.h0,hr,h.h2,h.h3,h.h4⟩
 split
 ·exact ⟨h.h0,h.h1,hr,h.h3,h.h4⟩
 split
 ·exact ⟨h.h0,h.h1,h.h2,hr,h.h4⟩
 ·exact ⟨h.h0,h.h1,h.h2,h.h3,hr⟩
theorem BIn.setHi {b:Arr5 api_Range} (h:BIn b) {v:Int} (h0:0≤v) (h1:v<4294967296) (k:Int):BIn (b.set k { (b.get k) with Hi:=v }):=by
 have hg:=h.get k
 generalize b.get k=r at hg ⊢
 exact BIn.set h (r:=⟨r.Lo,v⟩) (RIn.mk hg.h0 hg.h1 h0 h1) k
theorem BIn.setLo {b:Arr5 api_Range} (h:BIn b) {v:Int} (h0:0≤v) (h1:v<4294967296) (k:Int):BIn (b.set k { (b.get k) with Lo:=v }):=by
 have hg:=h.get k
 generalize b.get k=r at hg ⊢
 exact BIn.set h (r:=⟨v,r.Hi⟩) (RIn.mk h0 h1 hg.h2 hg.h3) k
theorem SpoilBox_ok {t:nsggen_Tape} (ht:TOk t) {b:Arr5 api_Range} (hb:BIn b):Ok (Zcv t b) fun r=>BIn r.1∧TOk r.2:=by
 unfold Zcv
 refine Ok.bind (Next_lt ht 5 (by omega) (by omega)) fun r1 ⟨⟨h2,h3⟩,h4⟩=>?_
 refine Ok.bind (p:=fun o=>TOk o.1∧BIn o.2) ?_ fun o ⟨g1,g2⟩=>Ok.ret ⟨g2,g1⟩
 refine Ok.bind (Next_lt h4 3 (by omega) (by omega)) fun r20 ⟨_,h6⟩=>?_
 have hk:0≤r1.1∧r1.1<5:=⟨h2,h3⟩
 have hg:=hb.get r1.1
 refine Ok.ite (fun _=>?_) fun _=>Ok.ite (fun _=>?_) fun _=>?_
 ·refine Ok.chk hk (Ok.chk hk (Ok.chk hk (Ok.chk hk (Ok.ret ⟨h6,?_⟩))))
  exact (hb.setLo hg.h2 hg.h3 _).setHi hg.h0 hg.h1 _
 ·exact Ok.chk hk (Ok.ret ⟨h6,hb.setHi (by decide) (by decide) _⟩)
 ·exact Ok.chk hk (Ok.ret ⟨h6,hb.set ⟨by decide,by decide,by decide,by decide⟩ _⟩)
def GB (wild:Bool) (b:Arr5 api_Range):Prop:=BIn b∧(wild=false→BOk b)
theorem Boxes_L1_ok (wild:Bool):∀ (n:Nat) (t:nsggen_Tape) (l:List (Arr5 api_Range)) (i:Int),TOk t→(∀ x∈l,GB wild x)→i≤n→0≤i→i<100→(l.length:Int) + i<1000 →
  Ok (Zbu wild (n + 1) t l i) fun r=>TOk r.1∧(∀ x∈r.2,GB wild x)∧(r.2.length:Int)=l.length + i
 | 0,t,l,i,ht,hl,hi,h0,h9,hlen=>by
  rw [Zbu]
  exact Ok.ite (fun hc=>absurd (of_decide_eq_true hc) (by omega)) fun _=>Ok.ret ⟨ht,hl,by show (l.length:Int)=_; omega⟩
 | n + 1,t,l,i,ht,hl,hi,h0,h9,hlen=>by
  rw [Zbu]
  refine Ok.ite (fun hc=>?_) fun hc=>Ok.ret ⟨ht,hl,by simp at hc; show (l.length:Int)=_; omega⟩
  have hc:=of_decide_eq_true hc
  refine Ok.bind (p:=fun r=>TOk r.1∧(∀ x∈r.2,GB wild x)∧r.2.length=l.length + 1) ?_ fun r ⟨h1,h2,h3⟩=>?_
  ·refine Ok.bind (Box_ok ht) fun q ⟨g1,g2⟩=>?_
   refine Ok.bind (p:=fun o=>TOk o.1∧GB wild o.2) ?_ fun o ⟨k1,k2⟩=>?_
   ·refine Ok.lift ?_
    refine Ok.bind (p:=fun v=>TOk v.2∧(v.1=true→wild=true)) ?_ fun v ⟨k1,k2⟩=>?_
    ·refine Ok.ite (fun hw=>?_) fun _=>Ok.ret ⟨g2,fun h=>by cases h⟩
     exact Ok.bind (Next_lt g2 8 (by omega) (by omega)) fun r190 ⟨_,h6⟩=>Ok.ret ⟨h6,fun _=>hw⟩
    ·refine Ok.ite (fun hv=>?_) fun _=>Ok.ret ⟨k1,g1.bin,fun _=>g1⟩
     refine Ok.bind (SpoilBox_ok k1 g1.bin) fun r196 ⟨m1,m2⟩=>Ok.ret ⟨m2,m1,fun hw=>?_⟩
     rw [k2 hv] at hw; cases hw
   ·obtain ⟨o1,o2⟩:=o
    refine Ok.chk (by simp only [List.length_singleton]; unfold lim; omega) (Ok.ret ⟨k1,fun x hx=>?_,by simp⟩)
    rcases List.mem_append.1 hx with hx | hx
    ·exact hl x hx
    ·simp only [List.mem_singleton] at hx; subst hx; exact k2
  ·obtain ⟨r1,r2⟩:=r
   simp only at h1 h2 h3
   show Ok (Zbu wild (n + 1) r1 r2 (IntKind.wrap .i64 (i - 1))) _
   rw [wi64 (by omega) (by omega)]
   refine (Boxes_L1_ok wild n r1 r2 (i - 1) h1 h2 (by omega) (by omega) (by omega) (by omega)).mono fun v ⟨e1,e2,e3⟩=>⟨e1,e2,?_⟩
   omega
theorem Boxes_ok (wild:Bool) {t:nsggen_Tape} (ht:TOk t) {n:Int} (h0:0≤n) (h1:n<90):Ok (Zd3 t n wild) fun r=>(∀ x∈r.1,GB wild x)∧(r.1.length:Int)≤n∧TOk r.2:=by
 unfold Zd3
 rw [wi64 (x:=n + 1) (by omega) (by omega)]
 refine Ok.bind (Next_lt ht (n + 1) (by omega) (by omega)) fun r ⟨⟨h2,h3⟩,h4⟩=>?_
 refine Ok.bind (Boxes_L1_ok wild 1180591620717411303423 r.2 [] r.1 h4 (by simp) (by omega) h2 (by omega) (by simp; omega)) fun q ⟨g1,g2,g3⟩=>?_
 obtain ⟨q1,q2⟩:=q
 refine Ok.ret ⟨g2,?_,g1⟩
 simp at g3
 show (q2.length:Int)≤n
 omega
theorem fuel_cut (m:Nat) (h:m≤1000000000000):∃ n,fuel=n + m + 1:=⟨fuel - m - 1,by unfold fuel; omega⟩
theorem Zlw {t:List Int} (h:Zj7 t):(t.length:Int)<9223372036854775808:=by have:=h.1; omega
end Go.AM
set_option maxRecDepth 100000
namespace Go.AM
open Go
theorem five_find {ρ:Type} {L:Nat→Int→Option (Unit ⊕ ρ)} {bad:Int→Bool} {v:ρ}
  (step:∀ n (k:Int),0≤k→k<5→L (n + 1) k=if bad k=true then some (.inr v) else L n (k + 1)) (stop:∀ n,L (n + 1) 5=some (.inl ())) :
  L fuel 0=some (if (bad 0 || bad 1 || bad 2 || bad 3 || bad 4)=true then .inr v else .inl ()):=by
 rw [fuel6]
 rw [step _ 0 (by omega) (by omega),step _ (0 + 1) (by omega) (by omega),step _ (0 + 1 + 1) (by omega) (by omega),step _ (0 + 1 + 1 + 1) (by omega) (by omega),step _ (0 + 1 + 1 + 1 + 1) (by omega) (by omega)]
 rw [show (0:Int) + 1 + 1 + 1 + 1 + 1=5 from rfl,stop,show (0:Int) + 1=1 from rfl,show (1:Int) + 1=2 from rfl,show (2:Int) + 1=3 from rfl,show (3:Int) + 1=4 from rfl]
 cases bad 0 <;> cases bad 1 <;> cases bad 2 <;> cases bad 3 <;> cases bad 4 <;> rfl
theorem five_ok {σ ρ:Type} {L:Nat→σ→Int→Option ρ} {I:σ→Prop} {q:ρ→Prop}
  (step:∀ n s (k:Int),0≤k→k<5→I s→(∀ s',I s'→Ok (L n s' (k + 1)) q)→Ok (L (n + 1) s k) q) (stop:∀ n s,I s→Ok (L (n + 1) s 5) q) (s:σ) (hs:I s):Ok (L fuel s 0) q:=by
 rw [fuel6]
 refine step _ _ 0 (by omega) (by omega) hs fun s hs=>?_
 refine step _ _ 1 (by omega) (by omega) hs fun s hs=>?_
 refine step _ _ 2 (by omega) (by omega) hs fun s hs=>?_
 refine step _ _ 3 (by omega) (by omega) hs fun s hs=>?_
 refine step _ _ 4 (by omega) (by omega) hs fun s hs=>?_
 exact stop _ _ hs
theorem wsucc {i:Nat} (h:i<1000000000001):IntKind.wrap .i64 ((i:Int) + (1:Int))=((i + 1:Nat):Int):=by
 rw [wi64 (by omega) (by omega)]; omega
def findI {α ρ:Type} (g:Nat→α→Option ρ):Nat→List α→Option ρ
 | _,[]=>none
 | i,x :: xs=>match g i x with
  | some r=>some r
  | none=>findI g (i + 1) xs
def orS {ρ:Type}:Option ρ→Unit ⊕ ρ
 | some r=>.inr r
 | none=>.inl ()
theorem list_find {α ρ:Type} {L:Nat→Int→Option (Unit ⊕ ρ)} (l:List α) (g:Nat→α→Option ρ) (hl:l.length≤1000000000000)
  (step:∀ n (i:Nat) (h:i<l.length),L (n + 1) (i:Int)=match g i l[i] with
   | some r=>some (.inr r)
   | none=>L n ((i + 1:Nat):Int))
  (stop:∀ n,L (n + 1) (l.length:Int)=some (.inl ())):L fuel 0=some (orS (findI g 0 l)):=by
 have key:∀ (m n i:Nat),i + m=l.length→L (n + m + 1) (i:Int)=some (orS (findI g i (l.drop i))):=by
  intro m
  induction m with
  | zero=>
   intro n i h
   have hi:i=l.length:=by omega
   subst hi
   rw [List.drop_length]
   exact stop _
  | succ m ih=>
   intro n i h
   have hi:i<l.length:=by omega
   rw [show n + (m + 1) + 1=(n + m + 1) + 1 by omega,step _ i hi,List.drop_eq_getElem_cons hi]
   simp only [findI]
   cases hg:g i l[i] with
   | some r=>rfl
   | none=>exact ih n (i + 1) (by omega)
 obtain ⟨f,hf⟩:=fuel_cut l.length hl
 rw [hf]
 exact key l.length f 0 (by omega)
def foldI {α σ:Type} (f:σ→Nat→α→σ):σ→Nat→List α→σ
 | s,_,[]=>s
 | s,i,x :: xs=>foldI f (f s i x) (i + 1) xs
theorem list_fold {α σ ρ:Type} {L:Nat→σ→Int→Option ρ} (l:List α) (f:σ→Nat→α→σ) (fin:σ→ρ) (I:Nat→σ→Prop) (hl:l.length≤1000000000000)
  (step:∀ n s (i:Nat) (h:i<l.length),I i s→L (n + 1) s (i:Int)=L n (f s i l[i]) ((i + 1:Nat):Int)∧I (i + 1) (f s i l[i]))
  (stop:∀ n s,I l.length s→L (n + 1) s (l.length:Int)=some (fin s)) (s:σ) (hs:I 0 s):L fuel s 0=some (fin (foldI f s 0 l))∧I l.length (foldI f s 0 l):=by
 have key:∀ (m n i:Nat) (s:σ),I i s→i + m=l.length→L (n + m + 1) s (i:Int)=some (fin (foldI f s i (l.drop i)))∧I l.length (foldI f s i (l.drop i)):=by
  intro m
  induction m with
  | zero=>
   intro n i s hs h
   have hi:i=l.length:=by omega
   subst hi
   rw [List.drop_length]
   exact ⟨stop _ _ hs,hs⟩
  | succ m ih=>
   intro n i s hs h
   have hi:i<l.length:=by omega
   obtain ⟨h1,h2⟩:=step (n + m + 1) s i hi hs
   rw [show n + (m + 1) + 1=(n + m + 1) + 1 by omega,h1,List.drop_eq_getElem_cons hi]
   simp only [foldI]
   exact ih n (i + 1) _ h2 (by omega)
 obtain ⟨g,hg⟩:=fuel_cut l.length hl
 rw [hg]
 exact key l.length g 0 s hs (by omega)
theorem list_ok {α σ ρ:Type} {L:Nat→σ→Int→Option ρ} (l:List α) (I:Nat→σ→Prop) {q:ρ→Prop} (hl:l.length≤1000000000000)
  (step:∀ n s (i:Nat),i<l.length→I i s→(∀ s',I (i + 1) s'→Ok (L n s' ((i + 1:Nat):Int)) q)→Ok (L (n + 1) s (i:Int)) q)
  (stop:∀ n s,I l.length s→Ok (L (n + 1) s (l.length:Int)) q) (s:σ) (hs:I 0 s):Ok (L fuel s 0) q:=by
 have key:∀ (m n i:Nat) (s:σ),I i s→i + m=l.length→Ok (L (n + m + 1) s (i:Int)) q:=by
  intro m
  induction m with
  | zero=>
   intro n i s hs h
   have hi:i=l.length:=by omega
   subst hi
   exact stop _ _ hs
  | succ m ih=>
   intro n i s hs h
   rw [show n + (m + 1) + 1=(n + m + 1) + 1 by omega]
   exact step _ s i (by omega) hs fun s' hs'=>ih n (i + 1) s' hs' (by omega)
 obtain ⟨g,hg⟩:=fuel_cut l.length hl
 rw [hg]
 exact key l.length g 0 s hs (by omega)
theorem foldI_map {α β:Type} (g:α→β):∀ (l:List α) (acc:List β) (i:Nat),foldI (fun s _ x=>s++[g x]) acc i l=acc++l.map g
 | [],acc,i=>by simp [foldI]
 | x :: xs,acc,i=>by simp only [foldI]; rw [foldI_map g xs]; simp
theorem foldI_flat {α β:Type} (g:α→List β):∀ (l:List α) (acc:List β) (i:Nat),foldI (fun s _ x=>s++g x) acc i l=acc++l.flatMap g
 | [],acc,i=>by simp [foldI]
 | x :: xs,acc,i=>by simp only [foldI]; rw [foldI_flat g xs]; simp
end Go.AM
set_option maxRecDepth 100000
namespace Go.AM
open Go
instance decRg:DecidableEq api_Range:=fun a b=>
 if h:a.Lo=b.Lo∧a.Hi=b.Hi then .isTrue (by cases a; cases b; obtain ⟨h1,h2⟩:=h; simp only at h1 h2; rw [h1,h2]) else .isFalse fun e=>h (by rw [e]; exact ⟨rfl,rfl⟩)
def inR (v:Int) (r:api_Range):Bool:=decide (r.Lo≤v) && decide (v≤r.Hi)
def mB:List api_Range→List Int→Bool
 | [],[]=>true
 | r :: b,v :: p=>inR v r && mB b p
 | _,_=>false
def mS (l:List (List api_Range)) (p:List Int):Bool:=l.any (mB · p)
def atv (l:List (List api_Range)) (v:Int):List (List api_Range):=l.flatMap fun b=>match b with
 | r :: b'=>if inR v r then [b'] else []
 | []=>[]
def vP:List Int→List Int→Prop
 | [],[]=>True
 | t :: ts,v :: p=>0≤v∧v≤t∧vP ts p
 | _,_=>False
def vR:List Int→List api_Range→Prop
 | [],[]=>True
 | t :: ts,r :: b=>0≤r.Lo∧r.Lo≤r.Hi∧r.Hi≤t∧vR ts b
 | _,_=>False
theorem mS_cons (l:List (List api_Range)) (v:Int) (p:List Int):mS l (v :: p)=mS (atv l v) p:=by
 induction l with
 | nil=>rfl
 | cons b l ih=>
  have e:mS (b :: l) (v :: p)=(mB b (v :: p) || mS l (v :: p)):=rfl
  rw [e,ih]
  cases b with
  | nil=>rfl
  | cons r b=>
   have e2:atv ((r :: b) :: l) v=(if inR v r then [b] else [])++atv l v:=rfl
   rw [e2]
   unfold mS
   rw [List.any_append]
   simp only [mB]
   cases inR v r <;> simp
theorem mS_app (a b:List (List api_Range)) (p:List Int):mS (a++b) p=(mS a p || mS b p):=by unfold mS; rw [List.any_append]
theorem mS_nil (p:List Int):mS [] p=false:=rfl
theorem atv_app (a b:List (List api_Range)) (v:Int):atv (a++b) v=atv a v++atv b v:=by unfold atv; rw [List.flatMap_append]
theorem mS_iff {l:List (List api_Range)} {p:List Int}:mS l p=true ↔ ∃ b∈l,mB b p=true:=by unfold mS; rw [List.any_eq_true]
abbrev Cell:=api_Range × List (List api_Range)
def gp (y x:Cell):Prop:=y.1.Hi<x.1.Lo∧(y.1.Hi + 1=x.1.Lo→y.2 ≠ x.2)
def lk (c:List Cell) (v:Int):List (List api_Range):=c.flatMap fun x=>if inR v x.1 then x.2 else []
def flt (c:List Cell):List (List api_Range):=c.flatMap fun x=>x.2.map (x.1 :: ·)
structure Ord (t:Int) (c:List Cell):Prop where
 pw:c.Pairwise gp
 ok:∀ x∈c,0≤x.1.Lo∧x.1.Lo≤x.1.Hi∧x.1.Hi≤t∧x.2 ≠ []
def CF:List Int→List (List api_Range)→Prop
 | [],l=>l=[]∨l=[[]]
 | t :: ts,l=>∃ c,l=flt c∧Ord t c∧∀ x∈c,CF ts x.2
theorem lk_app (a b:List Cell) (v:Int):lk (a++b) v=lk a v++lk b v:=by unfold lk; rw [List.flatMap_append]
theorem lk_cons (x:Cell) (b:List Cell) (v:Int):lk (x :: b) v=(if inR v x.1 then x.2 else [])++lk b v:=rfl
theorem flt_app (a b:List Cell):flt (a++b)=flt a++flt b:=by unfold flt; rw [List.flatMap_append]
theorem flt_cons (x:Cell) (b:List Cell):flt (x :: b)=x.2.map (x.1 :: ·)++flt b:=rfl
theorem atv_map (r:api_Range) (v:Int):∀ (l:List (List api_Range)),atv (l.map (r :: ·)) v=if inR v r then l else []
 | []=>by simp [atv]
 | b :: l=>by
  have e:atv ((b :: l).map (r :: ·)) v=(if inR v r then [b] else [])++atv (l.map (r :: ·)) v:=rfl
  rw [e,atv_map r v l]
  split <;> rfl
theorem atv_flt (c:List Cell) (v:Int):atv (flt c) v=lk c v:=by
 induction c with
 | nil=>rfl
 | cons x c ih=>rw [flt_cons,lk_cons,atv_app,atv_map,ih]
theorem inR_iff {v:Int} {r:api_Range}:inR v r=true ↔ r.Lo≤v∧v≤r.Hi:=by unfold inR; simp
theorem lk_nil_of {c:List Cell} {v:Int} (h:∀ x∈c,¬ (x.1.Lo≤v∧v≤x.1.Hi)):lk c v=[]:=by
 induction c with
 | nil=>rfl
 | cons x c ih=>
  rw [lk_cons,ih fun y hy=>h y (List.mem_cons_of_mem _ hy),if_neg (by rw [inR_iff]; exact h x (List.mem_cons_self ..))]; rfl
theorem Ord.tail {t:Int} {x:Cell} {c:List Cell} (h:Ord t (x :: c)):Ord t c:=⟨(List.pairwise_cons.1 h.pw).2,fun y hy=>h.ok y (List.mem_cons_of_mem _ hy)⟩
theorem lk_mem {t:Int}:∀ {c:List Cell},Ord t c→∀ {x:Cell},x∈c→∀ {v:Int},x.1.Lo≤v→v≤x.1.Hi→lk c v=x.2
 | [],_,_,h,_,_,_=>(by cases h)
 | y :: c,ho,x,hx,v,h1,h2=>by
  have hp:=List.pairwise_cons.1 ho.pw
  rw [lk_cons]
  rcases List.mem_cons.1 hx with rfl | hx
  ·rw [if_pos (inR_iff.2 ⟨h1,h2⟩),lk_nil_of,List.append_nil]
   intro z hz
   have:=(hp.1 z hz).1
   omega
  ·have:=(hp.1 x hx).1
   rw [if_neg (by rw [inR_iff]; omega),lk_mem ho.tail hx h1 h2]; rfl
theorem lk_some {c:List Cell} {v:Int} (h:lk c v ≠ []):∃ x∈c,x.1.Lo≤v∧v≤x.1.Hi:=by
 apply Classical.byContradiction
 intro hn
 exact h (lk_nil_of fun x hx hv=>hn ⟨x,hx,hv⟩)
theorem Ord.inj {t:Int}:∀ {c c':List Cell},Ord t c→Ord t c'→(∀ v,lk c v=lk c' v)→c=c'
 | [],[],_,_,_=>rfl
 | [],y :: c',_,h',h=>by
  have hy:=h'.ok y (List.mem_cons_self ..)
  have:=h y.1.Lo
  rw [lk_mem h' (List.mem_cons_self ..) (Int.le_refl _) hy.2.1] at this
  exact absurd this.symm hy.2.2.2
 | x :: c,[],h,_,he=>by
  have hy:=h.ok x (List.mem_cons_self ..)
  have:=he x.1.Lo
  rw [lk_mem h (List.mem_cons_self ..) (Int.le_refl _) hy.2.1] at this
  exact absurd this hy.2.2.2
 | x :: c,y :: c',h,h',he=>by
  have hx:=h.ok x (List.mem_cons_self ..)
  have hy:=h'.ok y (List.mem_cons_self ..)
  have px:=List.pairwise_cons.1 h.pw
  have py:=List.pairwise_cons.1 h'.pw
  have low:∀ {x:Cell} {c c':List Cell} {y:Cell},Ord t (x :: c)→Ord t (y :: c')→(∀ v,lk (x :: c) v=lk (y :: c') v)→y.1.Lo≤x.1.Lo:=by
   intro x c c' y h h' he
   have hx:=h.ok x (List.mem_cons_self ..)
   have py:=List.pairwise_cons.1 h'.pw
   have h1:=he x.1.Lo
   rw [lk_mem h (List.mem_cons_self ..) (Int.le_refl _) hx.2.1] at h1
   obtain ⟨z,hz,h2,h3⟩:=lk_some (c:=y :: c') (v:=x.1.Lo) (by rw [← h1]; exact hx.2.2.2)
   rcases List.mem_cons.1 hz with rfl | hz
   ·exact h2
   ·have:=(py.1 z hz).1
    have:=(h'.ok y (List.mem_cons_self ..)).2.1
    omega
  have e1:x.1.Lo=y.1.Lo:=Int.le_antisymm (low h' h fun v=>(he v).symm) (low h h' he)
  have e2:x.2=y.2:=by
   have h1:=he x.1.Lo
   rw [lk_mem h (List.mem_cons_self ..) (Int.le_refl _) hx.2.1,lk_mem h' (List.mem_cons_self ..) (by omega) (by omega)] at h1
   exact h1
  have hi:∀ {x:Cell} {c c':List Cell} {y:Cell},Ord t (x :: c)→Ord t (y :: c')→(∀ v,lk (x :: c) v=lk (y :: c') v)→x.1.Lo=y.1.Lo→x.2=y.2→¬ x.1.Hi<y.1.Hi:=by
   intro x c c' y h h' he e1 e2 hlt
   have hx:=h.ok x (List.mem_cons_self ..)
   have px:=List.pairwise_cons.1 h.pw
   have h1:=he (x.1.Hi + 1)
   rw [lk_mem h' (v:=x.1.Hi + 1) (List.mem_cons_self ..) (by omega) (by omega)] at h1
   obtain ⟨z,hz,h2,h3⟩:=lk_some (c:=x :: c) (v:=x.1.Hi + 1) (by rw [h1,← e2]; exact hx.2.2.2)
   rcases List.mem_cons.1 hz with rfl | hzc
   ·omega
   ·have hg:=px.1 z hzc
    rw [lk_mem h hz h2 h3,← e2] at h1
    exact hg.2 (by have:=hg.1; omega) h1.symm
  have e3:x.1.Hi=y.1.Hi:=by
   have a1:=hi h h' he e1 e2
   have a2:=hi h' h (fun v=>(he v).symm) e1.symm e2.symm
   omega
  have exy:x=y:=by
   obtain ⟨⟨a,b⟩,r⟩:=x
   obtain ⟨⟨a',b'⟩,r'⟩:=y
   simp only at e1 e2 e3
   subst e1 e2 e3
   rfl
  subst exy
  congr 1
  refine Ord.inj h.tail h'.tail fun v=>?_
  have h1:=he v
  rw [lk_cons,lk_cons] at h1
  exact List.append_cancel_left h1
theorem CF_nil:∀ ts,CF ts []
 | []=>.inl rfl
 | _ :: _=>⟨[],rfl,⟨List.Pairwise.nil,fun _ h=>(by cases h)⟩,fun _ h=>(by cases h)⟩
theorem CF_lk {ts:List Int} {t:Int} {c:List Cell} (h:Ord t c) (hc:∀ x∈c,CF ts x.2) (v:Int):CF ts (lk c v):=by
 by_cases hv:lk c v=[]
 ·rw [hv]; exact CF_nil ts
 ·obtain ⟨x,hx,h1,h2⟩:=lk_some hv
  rw [lk_mem h hx h1 h2]
  exact hc x hx
theorem lk_out {t:Int} {c:List Cell} (h:Ord t c) {v:Int} (hv:v<0∨t<v):lk c v=[]:=
 lk_nil_of fun x hx=>by have:=h.ok x hx; omega
theorem CF_inj:∀ (ts:List Int) {l l':List (List api_Range)},CF ts l→CF ts l'→(∀ p,vP ts p→mS l p=mS l' p)→l=l'
 | [],l,l',h,h',he=>by
  have:=he [] trivial
  rcases h with rfl | rfl <;> rcases h' with rfl | rfl
  ·rfl
  ·simp [mS,mB] at this
  ·simp [mS,mB] at this
  ·rfl
 | t :: ts,l,l',h,h',he=>by
  obtain ⟨c,rfl,ho,hc⟩:=h
  obtain ⟨c',rfl,ho',hc'⟩:=h'
  rw [Ord.inj ho ho' fun v=>?_]
  by_cases hv:0≤v∧v≤t
  ·refine CF_inj ts (CF_lk ho hc v) (CF_lk ho' hc' v) fun p hp=>?_
   have:=he (v :: p) ⟨hv.1,hv.2,hp⟩
   rw [mS_cons,mS_cons,atv_flt,atv_flt] at this
   exact this
  ·rw [lk_out ho (by omega),lk_out ho' (by omega)]
def joinC (c:List Cell) (lo hi:Int) (rest:List (List api_Range)):List Cell:=
 if rest=[] then c else match c.getLast? with
  | some y=>if y.1.Hi + 1=lo∧y.2=rest then c.dropLast++[(⟨y.1.Lo,hi⟩,rest)] else c++[(⟨lo,hi⟩,rest)]
  | none=>c++[(⟨lo,hi⟩,rest)]
structure Upto (g:Int→List (List api_Range)) (p:Int) (c:List Cell):Prop where
 ord:Ord (p - 1) c
 at_:∀ v,lk c v=if 0≤v∧v<p then g v else []
theorem Ord.mono {t t':Int} (h:t≤t') {c:List Cell} (ho:Ord t c):Ord t' c:=⟨ho.pw,fun x hx=>by have:=ho.ok x hx; exact ⟨this.1,this.2.1,by omega,this.2.2.2⟩⟩
theorem Upto.nil (g:Int→List (List api_Range)):Upto g 0 []:=⟨⟨List.Pairwise.nil,fun _ h=>(by cases h)⟩,fun v=>by rw [if_neg (by omega)]; rfl⟩
theorem Upto.inj {g:Int→List (List api_Range)} {p:Int} {c c':List Cell} (h:Upto g p c) (h':Upto g p c'):c=c':=Ord.inj h.ord h'.ord fun v=>by rw [h.at_,h'.at_]
theorem lk_one (lo hi:Int) (rest:List (List api_Range)) (v:Int):lk [(⟨lo,hi⟩,rest)] v=if lo≤v∧v≤hi then rest else []:=by
 rw [lk_cons]
 show _++[]=_
 rw [List.append_nil]
 by_cases h:lo≤v∧v≤hi
 ·rw [if_pos h,if_pos (inR_iff.2 h)]
 ·rw [if_neg h,if_neg (by rw [inR_iff]; exact h)]
theorem Upto.step {g:Int→List (List api_Range)} {p q:Int} {c:List Cell} (h:Upto g p c) (hp:0≤p) (hq:p<q) (hg:∀ v,p≤v→v<q→g v=g p):Upto g q (joinC c p (q - 1) (g p)):=by
 unfold joinC
 by_cases hr:g p=[]
 ·rw [if_pos hr]
  refine ⟨h.ord.mono (by omega),fun v=>?_⟩
  rw [h.at_]
  by_cases h1:0≤v∧v<p
  ·rw [if_pos h1,if_pos ⟨h1.1,by omega⟩]
  ·rw [if_neg h1]
   split
   ·rw [hg v (by omega) (by omega),hr]
   ·rfl
 ·rw [if_neg hr]
  have snoc:∀ (d:List Cell) (lo:Int),d.Pairwise gp→(∀ x∈d,0≤x.1.Lo∧x.1.Lo≤x.1.Hi∧x.1.Hi≤p - 1∧x.2 ≠ [])→(∀ y∈d,gp y (⟨lo,q - 1⟩,g p))→0≤lo→lo≤p →
    Ord (q - 1) (d++[(⟨lo,q - 1⟩,g p)]):=by
   intro d lo h1 h2 h3 h4 h5
   refine ⟨List.pairwise_append.2 ⟨h1,List.pairwise_singleton ..,fun y hy x hx=>by rw [List.mem_singleton] at hx; subst hx; exact h3 y hy⟩,fun x hx=>?_⟩
   rcases List.mem_append.1 hx with hx | hx
   ·have:=h2 x hx
    exact ⟨this.1,this.2.1,by omega,this.2.2.2⟩
   ·rw [List.mem_singleton] at hx
    subst hx
    exact ⟨h4,by show lo≤q - 1; omega,by show q - 1≤q - 1; omega,hr⟩
  have look:∀ v,lk c v++(if p≤v∧v≤q - 1 then g p else [])=if 0≤v∧v<q then g v else []:=by
   intro v
   rw [h.at_]
   by_cases h1:0≤v∧v<p
   ·rw [if_pos h1,if_neg (show ¬ (p≤v∧v≤q - 1) by omega),if_pos (show 0≤v∧v<q by omega),List.append_nil]
   ·rw [if_neg h1,List.nil_append]
    by_cases h2:p≤v∧v≤q - 1
    ·rw [if_pos h2,if_pos (by omega),hg v h2.1 (by omega)]
    ·rw [if_neg h2,if_neg (by omega)]
  cases hl:c.getLast? with
  | none=>
   rw [List.getLast?_eq_none_iff] at hl
   subst hl
   refine ⟨snoc [] p List.Pairwise.nil (fun _ h=>(by cases h)) (fun _ h=>(by cases h)) hp (Int.le_refl _),fun v=>?_⟩
   rw [lk_app,lk_one]
   exact look v
  | some y=>
   obtain ⟨d,rfl⟩:=List.getLast?_eq_some_iff.1 hl
   have hyo:=h.ord.ok y (List.mem_append_right _ (List.mem_singleton.2 rfl))
   have hpw:=List.pairwise_append.1 h.ord.pw
   have hbe:∀ x∈d,gp x y:=fun x hx=>hpw.2.2 x hx y (List.mem_singleton.2 rfl)
   simp only
   by_cases hj:y.1.Hi + 1=p∧y.2=g p
   ·rw [if_pos hj,List.dropLast_concat]
    refine ⟨snoc d y.1.Lo hpw.1 (fun x hx=>h.ord.ok x (List.mem_append_left _ hx)) (fun x hx=>⟨(hbe x hx).1,by rw [← hj.2]; exact (hbe x hx).2⟩) hyo.1 (by omega),fun v=>?_⟩
    rw [lk_app,lk_one,← look v,lk_app,List.append_assoc]
    congr 1
    obtain ⟨⟨ylo,yhi⟩,yr⟩:=y
    rw [lk_one]
    simp only at hj hyo ⊢
    obtain ⟨h1,rfl⟩:=hj
    by_cases h2:ylo≤v∧v≤yhi
    ·rw [if_pos h2,if_neg (show ¬ (p≤v∧v≤q - 1) by omega),if_pos (show ylo≤v∧v≤q - 1 by omega),List.append_nil]
    ·rw [if_neg h2,List.nil_append]
     by_cases h3:p≤v∧v≤q - 1
     ·rw [if_pos h3,if_pos (show ylo≤v∧v≤q - 1 by omega)]
     ·rw [if_neg h3,if_neg (show ¬ (ylo≤v∧v≤q - 1) by omega)]
   ·rw [if_neg hj]
    refine ⟨snoc (d++[y]) p h.ord.pw h.ord.ok (fun x hx=>⟨?_,fun e1 e2=>?_⟩) hp (Int.le_refl _),fun v=>?_⟩
    ·have:=h.ord.ok x hx
     show x.1.Hi<p
     omega
    ·simp only at e1 e2
     rcases List.mem_append.1 hx with hx | hx
     ·have:=(hbe x hx).1
      omega
     ·rw [List.mem_singleton] at hx
      subst hx
      exact hj ⟨e1,e2⟩
    ·rw [lk_app,lk_one]
     exact look v
theorem Upto.exists_ (g:Int→List (List api_Range)):∀ n:Nat,∃ c,Upto g n c
 | 0=>⟨[],Upto.nil g⟩
 | n + 1=>by
  obtain ⟨c,h⟩:=Upto.exists_ g n
  refine ⟨_,h.step (q:=((n + 1:Nat):Int)) (by omega) (by omega) fun v h1 h2=>?_⟩
  rw [show v=(n:Int) by omega]
structure Is (op:Bool→Bool→Bool) (ts:List Int) (a b l:List (List api_Range)):Prop where
 cf:CF ts l
 mem:∀ p,vP ts p→mS l p=op (mS a p) (mS b p)
theorem Is.inj {op:Bool→Bool→Bool} {ts:List Int} {a b l l':List (List api_Range)} (h:Is op ts a b l) (h':Is op ts a b l'):l=l':=
 CF_inj ts h.cf h'.cf fun p hp=>by rw [h.mem p hp,h'.mem p hp]
theorem Is.exists_ (op:Bool→Bool→Bool):∀ (ts:List Int),(∀ t∈ts,0≤t)→∀ a b,∃ l,Is op ts a b l
 | [],_,a,b=>by
  by_cases h:op (mS a []) (mS b [])=true
  ·exact ⟨[[]],.inr rfl,fun p hp=>by cases p with | nil=>rw [h]; rfl | cons _ _=>exact hp.elim⟩
  ·exact ⟨[],.inl rfl,fun p hp=>by cases p with | nil=>rw [Bool.not_eq_true] at h; rw [h]; rfl | cons _ _=>exact hp.elim⟩
 | t :: ts,ht,a,b=>by
  have ih:=fun v=>Is.exists_ op ts (fun x hx=>ht x (List.mem_cons_of_mem _ hx)) (atv a v) (atv b v)
  have h0:=ht t (List.mem_cons_self ..)
  obtain ⟨c,hc⟩:=Upto.exists_ (fun v=>(ih v).choose) (t + 1).toNat
  have hg:=fun v=>(ih v).choose_spec
  refine ⟨flt c,⟨c,rfl,hc.ord.mono (by omega),fun x hx=>?_⟩,fun p hp=>?_⟩
  ·have hx2:=hc.ord.ok x hx
   have:=hc.at_ x.1.Lo
   rw [lk_mem hc.ord hx (Int.le_refl _) hx2.2.1,if_pos (by omega)] at this
   rw [this]
   exact (hg _).cf
  ·cases p with
   | nil=>exact hp.elim
   | cons v p=>
    rw [mS_cons,atv_flt,hc.at_,if_pos (by have:=hp.1; have:=hp.2.1; omega),(hg v).mem p hp.2.2,mS_cons,mS_cons]
theorem Is.at_ {op:Bool→Bool→Bool} {t:Int} {ts:List Int} {a b:List (List api_Range)} {c:List Cell} (ho:Ord t c) (hc:∀ x∈c,CF ts x.2) (h:Is op (t :: ts) a b (flt c)) {v:Int} (h0:0≤v) (h1:v≤t) :
  Is op ts (atv a v) (atv b v) (lk c v):=
 ⟨CF_lk ho hc v,fun p hp=>by have:=h.mem (v :: p) ⟨h0,h1,hp⟩; rw [mS_cons,mS_cons,mS_cons,atv_flt] at this; exact this⟩
end Go.AM
set_option maxRecDepth 100000
namespace Go.AM
open Go
def runC (g:Int→List (List api_Range)):List Cell→List Int→List Cell
 | c,p :: q :: ps=>runC g (joinC c p (q - 1) (g p)) (q :: ps)
 | c,[_]=>c
 | c,[]=>c
theorem flt_one (r:api_Range) (rest:List (List api_Range)):(flt [(r,rest)]).length=rest.length:=by
 simp [flt]
theorem join_size (c:List Cell) (lo hi:Int) (rest:List (List api_Range)):(flt c).length≤(flt (joinC c lo hi rest)).length∧(flt (joinC c lo hi rest)).length≤(flt c).length + rest.length:=by
 unfold joinC
 split
 ·omega
 ·split
  ·rename_i y hl
   obtain ⟨d,rfl⟩:=List.getLast?_eq_some_iff.1 hl
   split
   ·rename_i hj
    rw [List.dropLast_concat,flt_app,flt_app,List.length_append,List.length_append,flt_one]
    obtain ⟨yr,yrest⟩:=y
    rw [flt_one]
    have:=congrArg List.length hj.2
    simp only at this ⊢
    omega
   ·rw [flt_app (d++[y]),List.length_append,flt_one]; omega
  ·rw [flt_app,List.length_append,flt_one]; omega
theorem runC_size (g:Int→List (List api_Range)):∀ (ps:List Int) (c:List Cell),(flt c).length≤(flt (runC g c ps)).length
 | [],_=>Nat.le_refl _
 | [_],_=>Nat.le_refl _
 | p :: q :: ps,c=>Nat.le_trans (join_size c p (q - 1) (g p)).1 (runC_size g (q :: ps) _)
def Steps (g:Int→List (List api_Range)):List Int→Prop
 | p :: q :: ps=>p<q∧(∀ v,p≤v→v<q→g v=g p)∧Steps g (q :: ps)
 | [_]=>True
 | []=>False
theorem Upto.run {g:Int→List (List api_Range)}:∀ {ps:List Int} {p:Int} {c:List Cell},0≤p→Steps g (p :: ps)→Upto g p c→∃ q,(p :: ps).getLast? = some q∧Upto g q (runC g c (p :: ps))
 | [],p,c,_,_,h=>⟨p,rfl,h⟩
 | q :: ps,p,c,h0,hs,h=>by
  obtain ⟨h1,h2,h3⟩:=hs
  obtain ⟨z,hz,hu⟩:=Upto.run (ps:=ps) (p:=q) (by omega) h3 (h.step h0 h1 h2)
  exact ⟨z,by rw [List.getLast?_cons_cons]; exact hz,hu⟩
theorem runC_eq {g:Int→List (List api_Range)} {t:Int} {c:List Cell} {ps:List Int} (hs:Steps g (0 :: ps)) (hl:(0 :: ps).getLast? = some (t + 1)) (ho:Ord t c) (hg:∀ v,0≤v→v≤t→lk c v=g v):runC g [] (0 :: ps)=c:=by
 obtain ⟨q,h1,h2⟩:=Upto.run (Int.le_refl 0) hs (Upto.nil g)
 rw [hl,Option.some.injEq] at h1
 subst h1
 refine Ord.inj (h2.ord.mono (t':=t) (by omega)) ho fun v=>?_
 rw [h2.at_]
 by_cases hv:0≤v∧v<t + 1
 ·rw [if_pos hv,hg v hv.1 (by omega)]
 ·rw [if_neg hv,lk_out ho (by omega)]
def Cut (ps:List Int) (l:List (List api_Range)):Prop:=∀ b∈l,∀ r b',b=r :: b'→r.Lo∈ps∧r.Hi + 1∈ps
theorem atv_step {l:List (List api_Range)} {p q:Int} (h:∀ b∈l,∀ r b',b=r :: b'→¬ (p<r.Lo∧r.Lo<q)∧¬ (p<r.Hi + 1∧r.Hi + 1<q)) {v:Int} (h1:p≤v) (h2:v<q):atv l v=atv l p:=by
 unfold atv
 induction l with
 | nil=>rfl
 | cons b l ih=>
  rw [List.flatMap_cons,List.flatMap_cons,ih fun x hx=>h x (List.mem_cons_of_mem _ hx)]
  congr 1
  cases b with
  | nil=>rfl
  | cons r b=>
   have hb:=h (r :: b) (List.mem_cons_self ..) r b rfl
   have:inR v r=inR p r:=by
    rw [Bool.eq_iff_iff,inR_iff,inR_iff]
    omega
   simp only [this]
theorem pairs_between:∀ {ps:List Int},ps.Pairwise (·<·)→∀ {i:Nat} (h:i + 1<ps.length),∀ x∈ps,¬ (ps[i]<x∧x<ps[i + 1]):=by
 intro ps hp i h x hx hc
 obtain ⟨j,hj,rfl⟩:=List.getElem_of_mem hx
 have hm:=List.pairwise_iff_getElem.1 hp
 rcases Nat.lt_trichotomy j i with h1 | h1 | h1
 ·have:=hm j i hj (by omega) h1; omega
 ·subst h1; omega
 ·rcases Nat.lt_or_eq_of_le (show i + 1≤j by omega) with h2 | h2
  ·have:=hm (i + 1) j (by omega) hj h2; omega
  ·subst h2; omega
theorem steps_of {g:Int→List (List api_Range)}:∀ {ps:List Int},ps ≠ []→ps.Pairwise (·<·)→(∀ i (h:i + 1<ps.length),∀ v,ps[i]≤v→v<ps[i + 1]→g v=g ps[i])→Steps g ps
 | [],h,_,_=>h rfl
 | [_],_,_,_=>trivial
 | p :: q :: ps,_,hp,hg=>by
  refine ⟨(List.pairwise_cons.1 hp).1 q (List.mem_cons_self ..),fun v h1 h2=>hg 0 (by simp) v h1 h2,steps_of (List.cons_ne_nil _ _) (List.pairwise_cons.1 hp).2 fun i h v h1 h2=>?_⟩
  have:=hg (i + 1) (by simp at h ⊢; omega) v
  simpa using this h1 h2
structure Nx (t:Int) (ts:List Int) (last:Option Cell) (c:List Cell):Prop where
 ord:Ord t c
 cf:∀ x∈c,CF ts x.2
 gap:∀ y∈last,∀ x∈c,gp y x
theorem Nx.nil (t:Int) (ts:List Int) (last:Option Cell):Nx t ts last []:=⟨⟨List.Pairwise.nil,fun _ h=>(by cases h)⟩,fun _ h=>(by cases h),fun _ _ _ h=>(by cases h)⟩
theorem CF_iff {t:Int} {ts:List Int} {l:List (List api_Range)}:CF (t :: ts) l ↔ ∃ c,l=flt c∧Nx t ts none c:=
 ⟨fun ⟨c,h1,h2,h3⟩=>⟨c,h1,h2,h3,fun _ h=>(by cases h)⟩,fun ⟨c,h1,h2⟩=>⟨c,h1,h2.ord,h2.cf⟩⟩
theorem Nx.run {t:Int} {ts:List Int} {last:Option Cell} {r:api_Range} {run:List (List api_Range)} {l:List (List api_Range)} (hrun:run ≠ []) (hl:∀ b,l.head? = some b→∃ r' b',b=r' :: b'∧r' ≠ r) :
  (∃ c,run.map (r :: ·)++l=flt c∧Nx t ts last c) ↔ (0≤r.Lo∧r.Lo≤r.Hi∧r.Hi≤t)∧CF ts run∧(∀ y∈last,gp y (r,run))∧∃ c,l=flt c∧Nx t ts (some (r,run)) c:=by
 constructor
 ·rintro ⟨c,hc,hn⟩
  cases c with
  | nil=>
   have:run.map (r :: ·)=[]:=(List.append_eq_nil_iff.1 hc).1
   simp at this
   exact absurd this hrun
  | cons x c=>
   rw [flt_cons] at hc
   have hx:=hn.ord.ok x (List.mem_cons_self ..)
   have hp:=List.pairwise_cons.1 hn.ord.pw
   have key:∀ (u w:List (List api_Range)) (l l':List (List api_Range)),u ≠ []→w ≠ []→(∀ b,l.head? = some b→∃ r' b',b=r' :: b'∧r' ≠ r)→(∀ b,l'.head? = some b→∃ r' b',b=r' :: b'∧r' ≠ x.1) →
     u.map (r :: ·)++l=w.map (x.1 :: ·)++l'→r=x.1∧u=w∧l=l':=by
    intro u w l l' hu hw g1 g2 he
    have hr:r=x.1:=by
     cases u with
     | nil=>exact absurd rfl hu
     | cons b u=>cases w with
      | nil=>exact absurd rfl hw
      | cons d w=>
       simp only [List.map_cons,List.cons_append,List.cons.injEq] at he
       exact he.1.1
    refine ⟨hr,?_⟩
    rw [← hr] at he g2
    clear hu hw
    induction u generalizing w with
    | nil=>cases w with
     | nil=>exact ⟨rfl,by simpa using he⟩
     | cons d w=>
      simp only [List.map_nil,List.nil_append,List.map_cons,List.cons_append] at he
      obtain ⟨r',b',e1,e2⟩:=g1 (r :: d) (by rw [he]; rfl)
      simp only [List.cons.injEq] at e1
      exact absurd e1.1.symm e2
    | cons b u ih=>cases w with
     | nil=>
      simp only [List.map_nil,List.nil_append,List.map_cons,List.cons_append] at he
      obtain ⟨r',b',e1,e2⟩:=g2 (r :: b) (by rw [← he]; rfl)
      simp only [List.cons.injEq] at e1
      exact absurd e1.1.symm e2
     | cons d w=>
      simp only [List.map_cons,List.cons_append,List.cons.injEq,true_and] at he
      obtain ⟨i1,i2⟩:=ih w he.2
      exact ⟨by rw [he.1,i1],i2⟩
   have hnext:∀ b,(flt c).head? = some b→∃ r' b',b=r' :: b'∧r' ≠ x.1:=by
    intro b hb
    cases c with
    | nil=>simp [flt] at hb
    | cons z c=>
     have hz:=hn.ord.ok z (List.mem_cons_of_mem _ (List.mem_cons_self ..))
     rw [flt_cons] at hb
     cases hz2:z.2 with
     | nil=>exact absurd hz2 hz.2.2.2
     | cons d w=>
      rw [hz2] at hb
      simp only [List.map_cons,List.cons_append,List.head?_cons,Option.some.injEq] at hb
      refine ⟨z.1,d,hb.symm,fun e=>?_⟩
      have:=(hp.1 z (List.mem_cons_self ..)).1
      rw [e] at this
      omega
   obtain ⟨e1,e2,e3⟩:=key run x.2 l (flt c) hrun hx.2.2.2 hl hnext hc
   subst e1 e2 e3
   exact ⟨⟨hx.1,hx.2.1,hx.2.2.1⟩,hn.cf x (List.mem_cons_self ..),fun y hy=>hn.gap y hy x (List.mem_cons_self ..),c,rfl,hn.ord.tail,fun z hz=>hn.cf z (List.mem_cons_of_mem _ hz),fun y hy z hz=>by
    have:x=y:=by simpa using hy
    subst this
    exact hp.1 z hz⟩
 ·rintro ⟨h1,h2,h3,c,rfl,hn⟩
  refine ⟨(r,run) :: c,rfl,⟨List.pairwise_cons.2 ⟨fun z hz=>hn.gap _ rfl z hz,hn.ord.pw⟩,fun x hx=>?_⟩,fun x hx=>?_,fun y hy x hx=>?_⟩
  ·rcases List.mem_cons.1 hx with rfl | hx
   ·exact ⟨h1.1,h1.2.1,h1.2.2,hrun⟩
   ·exact hn.ord.ok x hx
  ·rcases List.mem_cons.1 hx with rfl | hx
   ·exact h2
   ·exact hn.cf x hx
  ·rcases List.mem_cons.1 hx with rfl | hx
   ·exact h3 y hy
   ·have g1:=h3 y hy
    have g2:=hn.gap _ rfl x hx
    have g3:=g1.1
    have g4:=g2.1
    simp only at g3 g4
    exact ⟨by omega,fun e=>by omega⟩
end Go.AM
set_option maxRecDepth 100000
namespace Go.AM
open Go
theorem idxn_arr {d:Array Int} {n i:Nat} (hn:d.size=n) (h:i<n):idxn n d.toList (i:Int)=some d[i]!:=by
 have hi:i<d.size:=by omega
 unfold idxn
 rw [if_pos ⟨by omega,by omega⟩]
 simp [AM.idx,hi]
theorem setl_arr (d:Array Int) (i:Nat) (x:Int):d.toList.set i x=(d.setIfInBounds i x).toList:=by simp
theorem idxn_set {d:Array Int} {n i j:Nat} {x:Int} (hn:d.size=n) (h:j<n):∃ y,idxn n (d.toList.set i x) (j:Int)=some y:=by
 rw [setl_arr]
 exact ⟨_,idxn_arr (by simpa using hn) h⟩
theorem swp_arr (d:Array Int) (i j:Nat):(d.toList.set i d[j]!).set j d[i]! = (Sort.swp d i j).toList:=by
 unfold Sort.swp; simp
theorem swp_sz (d:Array Int) (i j:Nat):(Sort.swp d i j).size=d.size:=Sort.swp_size d i j
theorem Less_eq (x y:Int):Z1 x y=some (Sort.ltInt x y):=by
 unfold Z1 Zeb Sort.ltInt
 simp
abbrev sB:Nat:=1000000000
theorem wpred {j:Nat} (h:j + 1<1000000000000):IntKind.wrap .i64 (((j + 1:Nat):Int) - (1:Int))=(j:Int):=by
 rw [wi64 (by omega) (by omega)]; omega
theorem wsuc {j:Nat} (h:j + 1<1000000000000):IntKind.wrap .i64 ((j:Int) + (1:Int))=((j + 1:Nat):Int):=by
 rw [wi64 (by omega) (by omega)]; omega
theorem wadd {i j:Nat} (h:i + j<1000000000000):IntKind.wrap .i64 ((i:Int) + (j:Int))=((i + j:Nat):Int):=by
 rw [wi64 (by omega) (by omega)]; omega
theorem wsub {i j:Nat} (h:i<1000000000000) (hj:j≤i):IntKind.wrap .i64 ((i:Int) - (j:Int))=((i - j:Nat):Int):=by
 rw [wi64 (by omega) (by omega)]; omega
theorem insInner_eq {n a:Nat} (hB:n≤sB):∀ (j m:Nat) (d:Array Int),d.size=n→j<n→j<m→Z8 n (a:Int) m d.toList (j:Int)=some (Sort.insInner Sort.ltInt a j d).toList
 | 0,m + 1,d,hd,hj,hm=>by
  rw [Z8,decide_eq_false (by omega)]
  simp [Sort.insInner]
 | j + 1,m + 1,d,hd,hj,hm=>by
  have ih:=insInner_eq (a:=a) hB j m
  rw [Z8,Sort.insInner]
  unfold sB at hB
  simp only [wpred (show j + 1<1000000000000 by omega),idxn_arr hd hj,idxn_arr hd (show j<n by omega),Option.bind_some,Less_eq,Int.toNat_natCast]
  by_cases h:j + 1 > a
  ·have h':((j + 1:Nat):Int) > (a:Int):=by omega
   simp only [decide_eq_true h,decide_eq_true h',if_true,Option.bind_some,Bool.true_and]
   cases hl:Sort.ltInt d[j + 1]! d[j]! with
   | false=>simp
   | true=>
    obtain ⟨y,hy⟩:=idxn_set (i:=j + 1) (x:=d[j]!) hd (show j<n by omega)
    simp only [if_true,hy,Option.bind_some,swp_arr]
    exact ih _ (by rw [swp_sz,hd]) (by omega) (by omega)
  ·have h':¬ ((j + 1:Nat):Int) > (a:Int):=by omega
   rw [decide_eq_false h,decide_eq_false h']
   simp
theorem insOuter_eq {n a b:Nat} (hB:n≤sB) (hb:b≤n):∀ (k i m:Nat) (d:Array Int),d.size=n→b - i=k→k<m→i≤sB + 1→Z9 n (a:Int) (b:Int) m d.toList (i:Int)=some (Sort.insOuter Sort.ltInt a b i d).toList:=by
 unfold sB at hB
 intro k
 induction k with
 | zero=>
  intro i m d hd hk hm hi
  cases m with
  | zero=>omega
  | succ m=>
  rw [Z9,Sort.insOuter,if_neg (by simp; omega),if_neg (by omega)]
 | succ k ih=>
  intro i m d hd hk hm hi
  cases m with
  | zero=>omega
  | succ m=>
  rw [Z9,Sort.insOuter,if_pos (by simp; omega),if_pos (by omega)]
  rw [insInner_eq (a:=a) (show n≤sB by unfold sB; omega) i fuel d hd (by omega) (by unfold fuel; omega)]
  simp only [Option.bind_some]
  unfold sB at hi
  rw [wsuc (by omega)]
  refine ih (i + 1) m _ ?_ (by omega) (by omega) (by unfold sB; omega)
  exact insInner_sz _ _ hd
where
 insInner_sz {n a:Nat}:∀ (j:Nat) (d:Array Int),d.size=n→(Sort.insInner Sort.ltInt a j d).size=n
  | 0,d,hd=>hd
  | j + 1,d,hd=>by
   rw [Sort.insInner]
   split
   ·exact insInner_sz j _ (by rw [swp_sz,hd])
   ·exact hd
theorem insertionSort_eq {n a b:Nat} (hB:n≤sB) (hb:b≤n) (hab:a≤b) {d:Array Int} (hd:d.size=n):Zbn n d.toList (a:Int) (b:Int)=some (Sort.insertionSort Sort.ltInt d a b).toList:=by
 unfold Zbn Sort.insertionSort
 have h:(a:Int) + 1=((a + 1:Nat):Int):=by omega
 unfold sB at hB
 rw [wsuc (by omega),insOuter_eq (show n≤sB by unfold sB; omega) hb (b - (a + 1)) (a + 1) fuel d hd rfl (by unfold fuel; omega) (by unfold sB; omega)]
 rfl
def sTail (a0:Nat) (a3 a4:Int) (n95:Nat) (v46:List Int) (v47 v109:Int):Option (List Int ⊕ List Int):=
    (idxn a0 v46 (IntKind.wrap .i64 (a4 + v47))).bind fun (x124:Int)=>
    (idxn a0 v46 (IntKind.wrap .i64 (a4 + v109))).bind fun (x126:Int)=>
    (Z1 x124 x126).bind fun (r128:Bool)=>
    if (!r128)=true then
     some (.inr v46)
    else
     (idxn a0 v46 (IntKind.wrap .i64 (a4 + v109))).bind fun (x130:Int)=>
     (idxn a0 v46 (IntKind.wrap .i64 (a4 + v47))).bind fun (x132:Int)=>
     (idxn a0 v46 (IntKind.wrap .i64 (a4 + v47))).bind fun (_:Int)=>
     (idxn a0 (List.set v46 (Int.toNat (IntKind.wrap .i64 (a4 + v47))) x130) (IntKind.wrap .i64 (a4 + v109))).bind fun (_:Int)=>
     Z4 a0 a3 a4 n95 (List.set (List.set v46 (Int.toNat (IntKind.wrap .i64 (a4 + v47))) x130) (Int.toNat (IntKind.wrap .i64 (a4 + v109))) x132) v109
def outS (l:List Int) (o:List Int ⊕ List Int):Prop:=o=.inl l∨o=.inr l
theorem sTail_eq {n hi first root c m:Nat} (hB:n≤sB) (hf:first + hi≤n) (hr:root<hi) (hc:c<hi) {d:Array Int} (hd:d.size=n) {r:Array Int}
  (ih:Sort.ltInt d[first + root]! d[first + c]! = true→Ok (Z4 n (hi:Int) (first:Int) m (Sort.swp d (first + root) (first + c)).toList (c:Int)) (outS r.toList)) (hs:Sort.ltInt d[first + root]! d[first + c]! = false→r=d) :
  Ok (sTail n (hi:Int) (first:Int) m d.toList (root:Int) (c:Int)) (outS r.toList):=by
 unfold sB at hB
 unfold sTail
 rw [wadd (i:=first) (j:=root) (by omega),wadd (i:=first) (j:=c) (by omega)]
 simp only [idxn_arr hd (show first + root<n by omega),idxn_arr hd (show first + c<n by omega),Option.bind_some,Less_eq,Int.toNat_natCast]
 cases hl:Sort.ltInt d[first + root]! d[first + c]! with
 | false=>rw [hs hl]; exact ⟨_,rfl,Or.inr rfl⟩
 | true=>
  obtain ⟨y,hy⟩:=idxn_set (i:=first + root) (x:=d[first + c]!) hd (show first + c<n by omega)
  simp only [Bool.not_true,Bool.false_eq_true,if_false,hy,Option.bind_some,swp_arr]
  exact ih hl
theorem siftDown_eq {n hi first:Nat} (hB:n≤sB) (hf:first + hi≤n):∀ (k root m:Nat) (d:Array Int),d.size=n→hi - root≤k→k<m→root≤n →
  Ok (Z4 n (hi:Int) (first:Int) m d.toList (root:Int)) (outS (Sort.siftDown Sort.ltInt hi first root d).toList):=by
 intro k
 induction k with
 | zero=>
  intro root m d hd hk hm hr
  cases m with
  | zero=>omega
  | succ m=>
  unfold sB at hB
  rw [Z4,Sort.siftDown,dif_pos (by omega),if_pos]
  ·exact ⟨_,rfl,Or.inl rfl⟩
  ·rw [wi64 (x:=2 * (root:Int)) (by omega) (by omega),wi64 (by omega) (by omega)]; exact decide_eq_true (by omega)
 | succ k ih=>
  intro root m d hd hk hm hr
  cases m with
  | zero=>omega
  | succ m=>
  have hB':=hB
  unfold sB at hB
  have e1:IntKind.wrap .i64 (IntKind.wrap .i64 (2 * (root:Int)) + 1)=((2 * root + 1:Nat):Int):=by
   rw [wi64 (x:=2 * (root:Int)) (by omega) (by omega),wi64 (by omega) (by omega)]; omega
  rw [Z4,Sort.siftDown]
  rw [e1]
  by_cases h:2 * root + 1 ≥ hi
  ·rw [dif_pos h,if_pos (decide_eq_true (by omega))]
   exact ⟨_,rfl,Or.inl rfl⟩
  ·rw [dif_neg h,if_neg (by simp; omega)]
   have hst:∀ c:Nat,c<hi→root<c→Ok (sTail n (hi:Int) (first:Int) m d.toList (root:Int) (c:Int)) (outS (if (!Sort.ltInt d[first + root]! d[first + c]!)=true then d else Sort.siftDown Sort.ltInt hi first c (Sort.swp d (first + root) (first + c))).toList):=fun c hc hrc=>by
    refine sTail_eq hB' hf (by omega) hc hd (fun hl=>?_) (fun hl=>?_)
    ·rw [hl]
     simp only [Bool.not_true,Bool.false_eq_true,if_false]
     exact ih c m _ (by rw [swp_sz,hd]) (by omega) (by omega) (by omega)
    ·rw [hl]; rfl
   have e2:IntKind.wrap .i64 (((2 * root + 1:Nat):Int) + 1)=((2 * root + 2:Nat):Int):=wsuc (by omega)
   have e3:IntKind.wrap .i64 (IntKind.wrap .i64 ((first:Int) + ((2 * root + 1:Nat):Int)) + 1)=((first + (2 * root + 1) + 1:Nat):Int):=by
    rw [wadd (by omega)]; exact wsuc (by omega)
   have e4:IntKind.wrap .i64 ((first:Int) + ((2 * root + 1:Nat):Int))=((first + (2 * root + 1):Nat):Int):=wadd (by omega)
   rw [e2,e3,e4]
   by_cases h2:2 * root + 1 + 1<hi
   ·have h2':((2 * root + 2:Nat):Int)<(hi:Int):=by omega
    simp only [decide_eq_true h2,decide_eq_true h2',Option.bind_some,if_true,idxn_arr hd (show first + (2 * root + 1)<n by omega),idxn_arr hd (show first + (2 * root + 1) + 1<n by omega),Less_eq,Bool.true_and]
    cases hl:Sort.ltInt d[first + (2 * root + 1)]! d[first + (2 * root + 1) + 1]! with
    | false=>
     simp only [Bool.false_eq_true,if_false,Option.bind_some]
     have q:=hst (2 * root + 1) (by omega) (by omega)
     simp only [sTail,Less_eq,Option.bind_some] at q
     exact q
    | true=>
     simp only [if_true,Option.bind_some,dif_pos (show 2 * root + 2<hi from h2)]
     have q:=hst (2 * root + 2) (by omega) (by omega)
     simp only [sTail,Less_eq,Option.bind_some] at q
     exact q
   ·have h2':¬ ((2 * root + 2:Nat):Int)<(hi:Int):=by omega
    simp only [decide_eq_false h2,decide_eq_false h2',Option.bind_some,Bool.false_eq_true,if_false,Bool.false_and]
    exact hst (2 * root + 1) (by omega) (by omega)
theorem sift_sz {n hi first:Nat}:∀ (k root:Nat) (d:Array Int),d.size=n→hi - root≤k→(Sort.siftDown Sort.ltInt hi first root d).size=n:=by
 intro k
 induction k with
 | zero=>intro root d hd hk; rw [Sort.siftDown,dif_pos (by omega)]; exact hd
 | succ k ih=>
  intro root d hd hk
  rw [Sort.siftDown]
  split
  ·exact hd
  ·split
   ·split
    ·exact hd
    ·split
     ·exact ih _ _ (by rw [swp_sz,hd]) (by omega)
     ·exact hd
   ·split
    ·exact hd
    ·exact ih _ _ (by rw [swp_sz,hd]) (by omega)
theorem siftDown_F {n hi first root:Nat} (hB:n≤sB) (hf:first + hi≤n) (hr:root≤n) {d:Array Int} (hd:d.size=n):Zbm n d.toList (root:Int) (hi:Int) (first:Int)=some (Sort.siftDown Sort.ltInt hi first root d).toList:=by
 unfold Zbm
 obtain ⟨o,e,ho⟩:=siftDown_eq hB hf (hi - root) root fuel d hd (Nat.le_refl _) (by unfold fuel; unfold sB at hB; omega) hr
 rw [e]
 rcases ho with rfl | rfl <;> rfl
theorem heapBuild_eq {n a b:Nat} (hB:n≤sB) (hab:a≤b) (hb:b≤n):∀ (k m:Nat) (d:Array Int),d.size=n→k≤n + 1→k<m →
  Zam n (a:Int) (b:Int) m d.toList ((k:Int) - 1)=some (Sort.heapBuild Sort.ltInt (b - a) a k d).toList
 | 0,m + 1,d,hd,hk,hm=>by
  rw [Zam,if_neg (by simp)]; rfl
 | k + 1,m + 1,d,hd,hk,hm=>by
  have hB':=hB
  unfold sB at hB
  rw [Zam,if_pos (decide_eq_true (by omega)),show ((k + 1:Nat):Int) - 1=(k:Int) by omega,wsub (by omega) hab,siftDown_F hB' (by omega) (by omega) hd]
  simp only [Option.bind_some]
  rw [wi64 (by omega) (by omega),Sort.heapBuild]
  exact heapBuild_eq hB' hab hb k m _ (sift_sz _ _ _ hd (Nat.le_refl _)) (by omega) (by omega)
theorem heapPop_eq {n a b:Nat} (hB:n≤sB) (hb:b≤n):∀ (k m:Nat) (d:Array Int),d.size=n→a + k≤b→k<m →
  Zan n (a:Int) m d.toList ((k:Int) - 1)=some (Sort.heapPop Sort.ltInt a k d).toList
 | 0,m + 1,d,hd,hk,hm=>by
  rw [Zan,if_neg (by simp)]; rfl
 | k + 1,m + 1,d,hd,hk,hm=>by
  have hB':=hB
  unfold sB at hB
  rw [Zan,if_pos (decide_eq_true (by omega)),show ((k + 1:Nat):Int) - 1=(k:Int) by omega,wadd (by omega)]
  obtain ⟨y,hy⟩:=idxn_set (i:=a) (x:=d[a + k]!) hd (show a + k<n by omega)
  simp only [idxn_arr hd (show a + k<n by omega),idxn_arr hd (show a<n by omega),Option.bind_some,Int.toNat_natCast,hy,swp_arr]
  have e:=siftDown_F (root:=0) (hi:=k) (first:=a) hB' (by omega) (by omega) (show (Sort.swp d a (a + k)).size=n by rw [swp_sz,hd])
  rw [show ((0:Nat):Int)=0 from rfl] at e
  rw [e]
  simp only [Option.bind_some]
  rw [wi64 (by omega) (by omega),Sort.heapPop]
  exact heapPop_eq hB' hb k m _ (sift_sz _ _ _ (by rw [swp_sz,hd]) (Nat.le_refl _)) (by omega) (by omega)
theorem hBuild_sz {n hi first:Nat}:∀ (k:Nat) (d:Array Int),d.size=n→(Sort.heapBuild Sort.ltInt hi first k d).size=n
 | 0,_,hd=>hd
 | k + 1,d,hd=>by rw [Sort.heapBuild]; exact hBuild_sz k _ (sift_sz _ _ _ hd (Nat.le_refl _))
theorem heapSort_eq {n a b:Nat} (hB:n≤sB) (hab:a<b) (hb:b≤n) {d:Array Int} (hd:d.size=n):Zb3 n d.toList (a:Int) (b:Int)=some (Sort.heapSort Sort.ltInt d a b).toList:=by
 have hB':=hB
 unfold sB at hB
 unfold Zb3 Sort.heapSort
 have e:IntKind.wrap .i64 (Int.tdiv (IntKind.wrap .i64 (IntKind.wrap .i64 ((b:Int) - (a:Int)) - 1)) 2)=(((b - a - 1) / 2 + 1:Nat):Int) - 1:=by
  rw [wsub (by omega) (by omega),wi64 (x:=((b - a:Nat):Int) - 1) (by omega) (by omega)]
  rw [Int.tdiv_eq_ediv_of_nonneg (by omega),wi64 (by omega) (by omega)]
  omega
 rw [e,heapBuild_eq hB' (by omega) hb _ _ _ hd (by omega) (by unfold fuel; omega)]
 simp only [Option.bind_some]
 rw [wsub (by omega) (by omega),wi64 (x:=((b - a:Nat):Int) - 1) (by omega) (by omega),heapPop_eq hB' hb (b - a) fuel _ (hBuild_sz _ _ hd) (by omega) (by unfold fuel; omega)]
 rfl
end Go.AM

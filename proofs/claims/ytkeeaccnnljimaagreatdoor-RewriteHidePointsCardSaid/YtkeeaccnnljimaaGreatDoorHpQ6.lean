/- Parts of a proof, printed short. No condition. -/
import Derived.Test.YtkeeaccnnljimaaGreatDoorHpQ5
set_option maxRecDepth 100000
namespace Go.AM
open Go
def tb (h:Zi):List Int→List Int→Prop
 | [q0,q1,q2,q3,q4],[p0,p1,p2,p3,p4]=>p0=h.Addr∧p1=q1∧p2=q2∧(h.Ports.Lo≤p3∧p3≤h.Ports.Hi)∧p4=q4
 | _,_=>False
def hmt:List Zi→List Int→Option Zi
 | [],_=>none
 | h :: l,p=>if (vH h && mB (toL h.Match) p)=true then some h else hmt l p
theorem Zvx {l:List Zi} {p:List Int} {h:Zi} (hh:hmt l p=some h):h∈l∧vH h=true∧mB (toL h.Match) p=true:=by
 induction l with
 | nil=>cases hh
 | cons x l ih=>
  simp only [hmt] at hh
  split at hh
  ·rename_i hc
   simp only [Option.some.injEq] at hh
   subst hh
   simp only [Bool.and_eq_true] at hc
   exact⟨List.mem_cons_self ..,hc.1,hc.2⟩
  ·have:=ih hh
   exact⟨List.mem_cons_of_mem _ this.1,this.2⟩
theorem Zzx {h:Zi} {P:List Bx} (hP:VS P) {p:List Int} (hp:vP tops5 p):mem (hidG h P) p=true ↔ ∃ q,vP tops5 q∧mem P q=true∧tb h q p:=by
 have hC:=Zek oO (P.map (tgt h)) []
 show mem (can oO (P.map (tgt h)) []) p=true ↔ _
 rw [hC.mem p hp,Zkr,oO,Bool.or_false]
 obtain⟨p0,p1,p2,p3,p4,rfl⟩:=Zie hp
 constructor
 ·intro hm
  obtain⟨_,h1,h2⟩:=mS_iff.1 hm
  obtain⟨_,h3,rfl⟩:=List.mem_map.1 h1
  obtain⟨b,hb,rfl⟩:=List.mem_map.1 h3
  simp only [toL,tgt,mB,Bool.and_eq_true,Zbo,and_true] at h2
  have hbo:=hP.ok b hb
  have r0:=hbo.h0.h1
  have r3:=hbo.h3.h1
  refine⟨[b.x0.Lo,p1,p2,b.x3.Lo,p4],?_,mS_iff.2 ⟨toL b,List.mem_map_of_mem hb,?_⟩,?_⟩
  ·have:=hbo.h0.h0; have:=hbo.h0.h2; have:=hbo.h3.h0; have:=hbo.h3.h2
   simp only [tops5,vP,and_true] at hp ⊢
   omega
  ·simp only [toL,mB,Bool.and_eq_true,Zbo,and_true]
   omega
  ·have q0:h.Addr≤p0∧p0≤h.Addr:=h2.1
   have q3:=h2.2.2.2.1
   exact⟨by omega,rfl,rfl,by omega,rfl⟩
 ·rintro⟨q,hq,hm,ht⟩
  obtain⟨q0,q1,q2,q3,q4,rfl⟩:=Zie hq
  obtain⟨_,h1,h2⟩:=mS_iff.1 hm
  obtain⟨b,hb,rfl⟩:=List.mem_map.1 h1
  simp only [tb] at ht
  simp only [toL,mB,Bool.and_eq_true,Zbo,and_true] at h2
  refine mS_iff.2 ⟨toL (tgt h b),List.mem_map_of_mem (List.mem_map_of_mem hb),?_⟩
  simp only [toL,tgt,mB,Bool.and_eq_true,Zbo,and_true]
  omega
structure GOk (s:HSt):Prop where
 r:VS s.2.1
 o:VS s.2.2
theorem Zt1 {s:HSt} (h:GOk s) (m:Zi):GOk (hstep s m):=by
 unfold hstep
 split
 ·exact⟨(uS_vs _ _ _).1,(uU_vs _ _ _).1⟩
 ·exact h
theorem Zt2:∀(l:List Zi) (s:HSt),GOk s→GOk (l.foldl hstep s)
 | [],_,h=>h
 | m :: l,s,h=>by rw [List.foldl_cons]; exact Zt2 l _ (Zt1 h m)
theorem Zt3:∀(l:List Zi) (s:HSt),(∀ m∈l,HIn m)→GOk s→(l.foldl hstep s).1=false →
  (∀ p,vP tops5 p→(mem (l.foldl hstep s).2.1 p=true ↔ mem s.2.1 p=true∧hmt l p=none)) ∧
  ∀ p,vP tops5 p→(mem (l.foldl hstep s).2.2 p=true ↔ mem s.2.2 p=true∨∃ q,vP tops5 q∧mem s.2.1 q=true∧∃ h,hmt l q=some h∧tb h q p)
 | [],s,_,_,_=>⟨fun p _=>by simp [hmt],fun p _=>by simp [hmt]⟩
 | m :: l,s,hin,hs,h=>by
  have hm:=hin m (List.mem_cons_self ..)
  have hin':∀ m∈l,HIn m:=fun x hx=>hin x (List.mem_cons_of_mem _ hx)
  rw [List.foldl_cons] at h ⊢
  have hok:=Zt1 hs m
  obtain⟨i1,i2⟩:=Zt3 l _ hin' hok h
  have g0:=Zkn l _ h
  by_cases hv:vH m=true
  ·have hf:vB m.Match=true:=Zj1 hv
   have eq:hstep s m=((hU s m).2,(hQ s m).1,(hU s m).1):=by unfold hstep; rw [if_pos hv]
   rw [eq] at g0 i1 i2 hok ⊢
   obtain⟨g1,gU⟩:=kp_sem (show (kp (hH s m).2 (cmb oO s.2.2 (hH s m).1)).2=false from g0)
   obtain⟨g2,eH⟩:=Zjo (show (hidA (hQ s m).2 m (hP s m).1).2=false from g1)
   obtain⟨g3,gQ⟩:=kp_sem (show (kp (hP s m).2 (cmb oW s.2.1 [m.Match])).2=false from g2)
   obtain⟨g4,gP⟩:=kp_sem (show (kp s.1 (cmb oA s.2.1 [m.Match])).2=false from g3)
   have hPe:∀ p,vP tops5 p→mem (hP s m).1 p=(mem s.2.1 p && mB (toL m.Match) p):=fun p hp=>by
    have:=gP p hp; rw [Zeb hs.r,Zk9 hf] at this; exact this
   have hQe:∀ p,vP tops5 p→mem (hQ s m).1 p=(mem s.2.1 p && !mB (toL m.Match) p):=fun p hp=>by
    have:=gQ p hp; rw [Zeb hs.r,Zk9 hf] at this; exact this
   have hPv:VS (hP s m).1:=(uI_vs _ _ _).1
   have hHv:VS (hH s m).1:=(Zxb _ _ _).1
   have hHe:(hH s m).1=hidG m (hP s m).1:=by
    have:hH s m=(hidG m (hP s m).1,false):=eH
    rw [this]
   have hUe:∀ p,vP tops5 p→mem (hU s m).1 p=(mem s.2.2 p || mem (hidG m (hP s m).1) p):=fun p hp=>by
    have:=gU p hp; rw [Zeb hs.o,Zeb hHv,hHe] at this
    have e9:mem (hU s m).1 p=mem (kp (hH s m).2 (cmb oO s.2.2 (hidG m (hP s m).1))).1 p:=by unfold hU uU; rw [hHe]
    rw [e9]; exact this
   refine⟨fun p hp=>?_,fun p hp=>?_⟩
   ·rw [i1 p hp,hQe p hp]
    simp only [hmt,hv,Bool.true_and,Bool.and_eq_true,Bool.not_eq_true']
    by_cases hb:mB (toL m.Match) p=true
    ·simp [hb]
    ·rw [if_neg hb]
     rw [Bool.not_eq_true] at hb
     simp [hb]
   ·rw [i2 p hp,hUe p hp,Bool.or_eq_true,or_assoc,Zzx hPv hp]
    refine or_congr Iff.rfl ⟨fun h=>?_,fun⟨q,hq,h3,x,h4,h5⟩=>?_⟩
    ·rcases h with ⟨q,hq,h3,h4⟩ | ⟨q,hq,h3,x,h4,h5⟩
     ·rw [hPe q hq,Bool.and_eq_true] at h3
      exact⟨q,hq,h3.1,m,by simp only [hmt,hv,h3.2,Bool.and_self,if_true],h4⟩
     ·rw [hQe q hq] at h3
      simp only [Bool.and_eq_true,Bool.not_eq_true'] at h3
      exact⟨q,hq,h3.1,x,by simp only [hmt,hv,h3.2,Bool.and_false,Bool.false_eq_true,if_false]; exact h4,h5⟩
    ·simp only [hmt,hv,Bool.true_and] at h4
     by_cases hb:mB (toL m.Match) q=true
     ·rw [if_pos hb,Option.some.injEq] at h4
      subst h4
      exact Or.inl ⟨q,hq,by rw [hPe q hq,h3,hb]; rfl,h5⟩
     ·rw [if_neg hb] at h4
      rw [Bool.not_eq_true] at hb
      exact Or.inr ⟨q,hq,by rw [hQe q hq,h3,hb]; rfl,x,h4,h5⟩
  ·have hv':vH m=false:=by simpa using hv
   have eq:hstep s m=s:=by unfold hstep; rw [if_neg hv]
   rw [eq] at i1 i2 ⊢
   have em:∀ p,hmt (m :: l) p=hmt l p:=fun p=>by simp only [hmt,hv',Bool.false_and,Bool.false_eq_true,if_false]
   exact⟨fun p hp=>by rw [i1 p hp,em],fun p hp=>by rw [i2 p hp]; simp only [em]⟩
theorem Z0z (l:List Zi) (s:List Bx):SetOr (himgA l s):=Zxa ⟨(uU_vs _ _ _).1,(uU_vs _ _ _).2⟩
theorem Z00 (l:List Zi) (s:List Bx):SetOr (hpreA l s):=Zxa ⟨(uU_vs _ _ _).1,(uU_vs _ _ _).2⟩
theorem Zt4 {s:ISt} (h:(resA s).2=0):s.1=false∧(resA s).1=s.2:=by
 unfold resA at h ⊢
 cases hs:s.1 with
 | true=>rw [hs] at h; cases h
 | false=>exact⟨rfl,rfl⟩
theorem Zzy {l:List Zi} (hin:∀ m∈l,HIn m) {s:List Bx} (h0:(himgA l s).2=0):VS (himgA l s).1∧∀ p,vP tops5 p→(mem (himgA l s).1 p=true ↔ (mem (s.filter vB) p=true∧hmt l p=none)∨∃ q,vP tops5 q∧mem (s.filter vB) q=true∧∃ h,hmt l q=some h∧tb h q p):=by
 unfold himgA at h0 ⊢
 simp only at h0 ⊢
 have hv:VS (kp false (st s)).1:=(kp_vs (st_ok s).1).1
 generalize ho:l.foldl hstep ((kp false (st s)).2,(kp false (st s)).1,[])=o at h0 ⊢
 have hok:=Zt2 l ((kp false (st s)).2,(kp false (st s)).1,[]) ⟨hv,VS.nil⟩
 rw [ho] at hok
 obtain⟨hfin,hres⟩:=Zt4 h0
 rw [hres]
 simp only at hfin ⊢
 obtain⟨g1,gU⟩:=kp_sem hfin
 have g2:(l.foldl hstep ((kp false (st s)).2,(kp false (st s)).1,[])).1=false:=by rw [ho]; exact g1
 have g4:=Zkn _ _ g2
 obtain⟨i1,i2⟩:=Zt3 l _ hin ⟨hv,VS.nil⟩ g2
 rw [ho] at i1 i2
 have es:=st_kp g4
 refine⟨(uU_vs _ _ _).1,fun p hp=>?_⟩
 have e1:mem (uU o.1 o.2.2 o.2.1).1 p=(mem o.2.2 p || mem o.2.1 p):=by
  have:=gU p hp
  rw [Zeb hok.o,Zeb hok.r] at this
  exact this
 rw [e1,Bool.or_eq_true,i1 p hp,i2 p hp,Zkr]
 simp only at es ⊢
 rw [es p hp]
 constructor
 ·rintro((h | ⟨q,hq,h3,x⟩) | h)
  ·cases h
  ·exact Or.inr ⟨q,hq,by rw [← es q hq]; exact h3,x⟩
  ·exact Or.inl h
 ·rintro(h | ⟨q,hq,h3,x⟩)
  ·exact Or.inr h
  ·exact Or.inl (Or.inr ⟨q,hq,by rw [es q hq]; exact h3,x⟩)
theorem Zvy {f:Nat} (hf:f<5) {b:Bx} (hb:BOk b) {p:List Int} (hp:vP tops5 p):mB (toL (freeB f b)) p=true ↔ ∃ v,0≤v∧v≤topOf (f:Int)∧mB (toL b) (p.set f v)=true:=by
 obtain⟨p0,p1,p2,p3,p4,rfl⟩:=Zie hp
 have t0:topOf ((0:Nat):Int)=4294967295:=rfl
 have t1:topOf ((1:Nat):Int)=4294967295:=rfl
 have t2:topOf ((2:Nat):Int)=255:=rfl
 have t3:topOf ((3:Nat):Int)=65535:=rfl
 have t4:topOf ((4:Nat):Int)=65535:=rfl
 simp only [tops5,vP,and_true] at hp
 rcases fiveN hf with rfl | rfl | rfl | rfl | rfl
 ·have:=hb.h0.h0; have:=hb.h0.h1; have:=hb.h0.h2
  show mB [⟨0,4294967295⟩,b.x1,b.x2,b.x3,b.x4] [p0,p1,p2,p3,p4]=true ↔ ∃ v,0≤v∧v≤topOf ((0:Nat):Int)∧mB (toL b) [v,p1,p2,p3,p4]=true
  rw [t0]
  simp only [toL,mB,Bool.and_eq_true,Zbo,and_true]
  exact⟨fun h=>⟨b.x0.Lo,by omega⟩,fun⟨v,h⟩=>by omega⟩
 ·have:=hb.h1.h0; have:=hb.h1.h1; have:=hb.h1.h2
  show mB [b.x0,⟨0,4294967295⟩,b.x2,b.x3,b.x4] [p0,p1,p2,p3,p4]=true ↔ ∃ v,0≤v∧v≤topOf ((1:Nat):Int)∧mB (toL b) [p0,v,p2,p3,p4]=true
  rw [t1]
  simp only [toL,mB,Bool.and_eq_true,Zbo,and_true]
  exact⟨fun h=>⟨b.x1.Lo,by omega⟩,fun⟨v,h⟩=>by omega⟩
 ·have:=hb.h2.h0; have:=hb.h2.h1; have:=hb.h2.h2
  show mB [b.x0,b.x1,⟨0,255⟩,b.x3,b.x4] [p0,p1,p2,p3,p4]=true ↔ ∃ v,0≤v∧v≤topOf ((2:Nat):Int)∧mB (toL b) [p0,p1,v,p3,p4]=true
  rw [t2]
  simp only [toL,mB,Bool.and_eq_true,Zbo,and_true]
  exact⟨fun h=>⟨b.x2.Lo,by omega⟩,fun⟨v,h⟩=>by omega⟩
 ·have:=hb.h3.h0; have:=hb.h3.h1; have:=hb.h3.h2
  show mB [b.x0,b.x1,b.x2,⟨0,65535⟩,b.x4] [p0,p1,p2,p3,p4]=true ↔ ∃ v,0≤v∧v≤topOf ((3:Nat):Int)∧mB (toL b) [p0,p1,p2,v,p4]=true
  rw [t3]
  simp only [toL,mB,Bool.and_eq_true,Zbo,and_true]
  exact⟨fun h=>⟨b.x3.Lo,by omega⟩,fun⟨v,h⟩=>by omega⟩
 ·have:=hb.h4.h0; have:=hb.h4.h1; have:=hb.h4.h2
  show mB [b.x0,b.x1,b.x2,b.x3,⟨0,65535⟩] [p0,p1,p2,p3,p4]=true ↔ ∃ v,0≤v∧v≤topOf ((4:Nat):Int)∧mB (toL b) [p0,p1,p2,p3,v]=true
  rw [t4]
  simp only [toL,mB,Bool.and_eq_true,Zbo,and_true]
  exact⟨fun h=>⟨b.x4.Lo,by omega⟩,fun⟨v,h⟩=>by omega⟩
theorem uF_sem {e:Bool} {a:List Bx} (ha:VS a) {f:Nat} (hf:f<5) (h:(uF e a f).2=false):e=false∧∀ p,vP tops5 p→(mem (uF e a f).1 p=true ↔ ∃ v,0≤v∧v≤topOf (f:Int)∧mem a (p.set f v)=true):=by
 obtain⟨h1,h2,h3⟩:=Zla h
 refine⟨h1,fun p hp=>?_⟩
 have e0:(uF e a f).1=(freeA a f).1:=h3
 have e1:freeA a f=capB (can oO (a.map (freeB f)) []):=by unfold freeA; rw [Zs4 ha]; simp
 rw [e1] at h2
 have e2:(freeA a f).1=can oO (a.map (freeB f)) []:=by
  rw [e1]
  unfold capB at h2 ⊢
  split at h2
  ·rename_i hh; rw [if_pos hh]
  ·cases h2
 rw [e0,e2,(Zek oO (a.map (freeB f)) []).mem p hp,Zkr,oO,Bool.or_false]
 constructor
 ·intro hm
  obtain⟨_,k1,k2⟩:=mS_iff.1 hm
  obtain⟨_,k3,rfl⟩:=List.mem_map.1 k1
  obtain⟨b,hb,rfl⟩:=List.mem_map.1 k3
  obtain⟨v,v1,v2,v3⟩:=(Zvy hf (ha.ok b hb) hp).1 k2
  exact⟨v,v1,v2,mS_iff.2 ⟨toL b,List.mem_map_of_mem hb,v3⟩⟩
 ·rintro⟨v,v1,v2,hm⟩
  obtain⟨_,k1,k2⟩:=mS_iff.1 hm
  obtain⟨b,hb,rfl⟩:=List.mem_map.1 k1
  exact mS_iff.2 ⟨toL (freeB f b),List.mem_map_of_mem (List.mem_map_of_mem hb),(Zvy hf (ha.ok b hb) hp).2 ⟨v,v1,v2,k2⟩⟩
theorem Znf (to:List Bx):∀(l:List Zi) (s:HSt),(l.foldl (pstep to) s).1=false→s.1=false
 | [],_,h=>h
 | m :: l,s,h=>by
  rw [List.foldl_cons] at h
  have h1:=Znf to l _ h
  unfold pstep at h1
  split at h1
  ·exact Zne ((Zla ((Zla (Zne (Zne (Zlb (Zvv h1))))).1)).1)
  ·exact h1
theorem Zt5 (to:List Bx) (hto:VS to):∀(l:List Zi) (s:HSt),(∀ m∈l,HIn m)→POk s→(l.foldl (pstep to) s).1=false →
  (∀ p,vP tops5 p→(mem (l.foldl (pstep to) s).2.2 p=true ↔ mem s.2.2 p=true∧hmt l p=none)) ∧
  ∀ p,vP tops5 p→(mem (l.foldl (pstep to) s).2.1 p=true ↔ mem s.2.1 p=true∨(mem s.2.2 p=true∧∃ h,hmt l p=some h∧∃ q,vP tops5 q∧tb h p q∧mem to q=true))
 | [],s,_,_,_=>⟨fun p _=>by simp [hmt],fun p _=>by simp [hmt]⟩
 | m :: l,s,hin,hs,h=>by
  have hm:=hin m (List.mem_cons_self ..)
  have hin':∀ m∈l,HIn m:=fun x hx=>hin x (List.mem_cons_of_mem _ hx)
  rw [List.foldl_cons] at h ⊢
  have hok:=Zq9 (to:=to) hs m
  obtain⟨i1,i2⟩:=Zt5 to hto l _ hin' hok h
  have g0:=Znf to l _ h
  by_cases hv:vH m=true
  ·have hf:vB m.Match=true:=Zj1 hv
   have hT:BOk (tgt m full):=tgt_ok hm hv Zmr
   have eq:pstep to s m=((pR to s m).2,(pO to s m).1,(pR to s m).1):=by unfold pstep; rw [if_pos hv]
   rw [eq] at g0 i1 i2 hok ⊢
   obtain⟨g1,gR⟩:=kp_sem (show (kp (pO to s m).2 (cmb oW s.2.2 [m.Match])).2=false from g0)
   obtain⟨g2,gO⟩:=kp_sem (show (kp (pE to s m).2 (cmb oO s.2.1 (pE to s m).1)).2=false from g1)
   obtain⟨g3,gE⟩:=kp_sem (show (kp (pD to s m).2 (cmb oA (pD to s m).1 s.2.2)).2=false from g2)
   obtain⟨g4,gD⟩:=kp_sem (show (kp (pC to s m).2 (cmb oA (pC to s m).1 [m.Match])).2=false from g3)
   have vA:VS (pA to s m).1:=(uI_vs _ _ _).1
   have vB_:VS (pB to s m).1:=(uF_vs _ _ _).1
   have vC:VS (pC to s m).1:=(uF_vs _ _ _).1
   have vD:VS (pD to s m).1:=(uI_vs _ _ _).1
   have vE:VS (pE to s m).1:=(uI_vs _ _ _).1
   obtain⟨g5,gC⟩:=uF_sem vB_ (f:=3) (by omega) (show (uF (pB to s m).2 (pB to s m).1 3).2=false from g4)
   obtain⟨g6,gB⟩:=uF_sem vA (f:=0) (by omega) (show (uF (pA to s m).2 (pA to s m).1 0).2=false from g5)
   obtain⟨g7,gA⟩:=kp_sem (show (kp s.1 (cmb oA to [tgt m full])).2=false from g6)
   have hA:∀ p,vP tops5 p→mem (pA to s m).1 p=(mem to p && mB (toL (tgt m full)) p):=fun p hp=>by
    have:=gA p hp; rw [Zeb hto,Zk9 (ok_vB hT)] at this; exact this
   have hC:∀ p,vP tops5 p→(mem (pC to s m).1 p=true ↔ ∃ q,vP tops5 q∧tb m p q∧mem to q=true):=fun p hp=>by
    have hpr:=(vH_ok hm hv).2
    have k1:=hpr.h0
    have k2:=hpr.h1
    have k3:=hpr.h2
    have k4:=hm.a0
    have k5:=hm.a1
    show mem (uF (pB to s m).2 (pB to s m).1 3).1 p=true ↔ _
    rw [gC p hp]
    obtain⟨p0,p1,p2,p3,p4,rfl⟩:=Zie hp
    simp only [tops5,vP,and_true] at hp
    have t0:topOf ((0:Nat):Int)=4294967295:=rfl
    have t3:topOf ((3:Nat):Int)=65535:=rfl
    constructor
    ·rintro⟨v3,v31,v32,hmb⟩
     rw [t3] at v32
     have hp':vP tops5 [p0,p1,p2,v3,p4]:=by simp only [tops5,vP,and_true]; omega
     obtain⟨v0,v01,v02,hma⟩:=(gB [p0,p1,p2,v3,p4] hp').1 hmb
     rw [t0] at v02
     have hq':vP tops5 [v0,p1,p2,v3,p4]:=by simp only [tops5,vP,and_true]; omega
     have hma':mem (pA to s m).1 [v0,p1,p2,v3,p4]=true:=hma
     rw [hA _ hq',Bool.and_eq_true] at hma'
     obtain⟨j1,j2⟩:=hma'
     simp only [toL,tgt,full,mB,Bool.and_eq_true,Zbo,and_true] at j2
     have q0:m.Addr≤v0∧v0≤m.Addr:=j2.1
     exact⟨_,hq',⟨by omega,rfl,rfl,by omega,rfl⟩,j1⟩
    ·rintro⟨q,hq,htb,hmt_⟩
     obtain⟨q0,q1,q2,q3,q4,rfl⟩:=Zie hq
     simp only [tb] at htb
     obtain⟨a0,a1,a2,a3,a4⟩:=htb
     subst a1 a2 a4
     have hq2:=hq
     simp only [tops5,vP,and_true] at hq2
     refine⟨q3,by omega,by rw [t3]; omega,?_⟩
     have hp':vP tops5 [p0,q1,q2,q3,q4]:=by simp only [tops5,vP,and_true]; omega
     refine(gB [p0,q1,q2,q3,q4] hp').2 ⟨q0,by omega,by rw [t0]; omega,?_⟩
     show mem (pA to s m).1 [q0,q1,q2,q3,q4]=true
     rw [hA _ hq,Bool.and_eq_true]
     refine⟨hmt_,?_⟩
     simp only [toL,tgt,full,mB,Bool.and_eq_true,Zbo,and_true]
     omega
   have hD:∀ p,vP tops5 p→mem (pD to s m).1 p=(mem (pC to s m).1 p && mB (toL m.Match) p):=fun p hp=>by
    have:=gD p hp; rw [Zeb vC,Zk9 hf] at this; exact this
   have hE:∀ p,vP tops5 p→mem (pE to s m).1 p=(mem (pD to s m).1 p && mem s.2.2 p):=fun p hp=>by
    have:=gE p hp; rw [Zeb vD,Zeb hs.r] at this; exact this
   have hO:∀ p,vP tops5 p→mem (pO to s m).1 p=(mem s.2.1 p || mem (pE to s m).1 p):=fun p hp=>by
    have:=gO p hp; rw [Zeb hs.o,Zeb vE] at this; exact this
   have hR:∀ p,vP tops5 p→mem (pR to s m).1 p=(mem s.2.2 p && !mB (toL m.Match) p):=fun p hp=>by
    have:=gR p hp; rw [Zeb hs.r,Zk9 hf] at this; exact this
   refine⟨fun p hp=>?_,fun p hp=>?_⟩
   ·rw [i1 p hp,hR p hp]
    simp only [hmt,hv,Bool.true_and,Bool.and_eq_true,Bool.not_eq_true']
    by_cases hb:mB (toL m.Match) p=true
    ·simp [hb]
    ·rw [if_neg hb]
     rw [Bool.not_eq_true] at hb
     simp [hb]
   ·rw [i2 p hp,hO p hp,hE p hp,hD p hp,hR p hp,Bool.or_eq_true,or_assoc]
    refine or_congr Iff.rfl ?_
    simp only [hmt,hv,Bool.true_and,Bool.and_eq_true,Bool.not_eq_true',hC p hp]
    by_cases hb:mB (toL m.Match) p=true
    ·simp only [hb,if_true,Option.some.injEq]
     constructor
     ·rintro(⟨⟨h1,_⟩,h2⟩ | ⟨⟨_,h1⟩,_⟩)
      ·exact⟨h2,m,rfl,h1⟩
      ·cases h1
     ·rintro⟨h2,x,rfl,h1⟩
      exact Or.inl ⟨⟨h1,trivial⟩,h2⟩
    ·rw [if_neg hb]
     rw [Bool.not_eq_true] at hb
     simp [hb]
  ·have hv':vH m=false:=by simpa using hv
   have eq:pstep to s m=s:=by unfold pstep; rw [if_neg hv]
   rw [eq] at i1 i2 ⊢
   have em:∀ p,hmt (m :: l) p=hmt l p:=fun p=>by simp only [hmt,hv',Bool.false_and,Bool.false_eq_true,if_false]
   exact⟨fun p hp=>by rw [i1 p hp,em],fun p hp=>by rw [i2 p hp,em]⟩
theorem Zzz {l:List Zi} (hin:∀ m∈l,HIn m) {s:List Bx} (h0:(hpreA l s).2=0):VS (hpreA l s).1∧∀ p,vP tops5 p→(mem (hpreA l s).1 p=true ↔ (hmt l p=none∧mem (s.filter vB) p=true)∨∃ h,hmt l p=some h∧∃ q,vP tops5 q∧tb h p q∧mem (s.filter vB) q=true):=by
 unfold hpreA at h0 ⊢
 simp only at h0 ⊢
 have hv:VS (kp false (st s)).1:=(kp_vs (st_ok s).1).1
 have hsk:=@st_kp s
 generalize kp false (st s)=t at h0 hv hsk ⊢
 generalize ho:l.foldl (pstep t.1) (t.2,[],[full])=o at h0 ⊢
 have hok:=Zra t.1 l (t.2,[],[full]) ⟨VS.nil,VS.full⟩
 rw [ho] at hok
 generalize hw:uI o.1 o.2.2 t.1=w at h0 ⊢
 have hwv:VS w.1:=by rw [← hw]; exact(uI_vs _ _ _).1
 obtain⟨hfin,hres⟩:=Zt4 h0
 rw [hres]
 simp only at hfin ⊢
 obtain⟨g1,gU⟩:=kp_sem hfin
 obtain⟨g2,gI⟩:=kp_sem (show (kp o.1 (cmb oA o.2.2 t.1)).2=false by rw [← g1,← hw]; rfl)
 have g3:(l.foldl (pstep t.1) (t.2,[],[full])).1=false:=by rw [ho]; exact g2
 have g4:=Znf _ _ _ g3
 obtain⟨i1,i2⟩:=Zt5 t.1 hv l (t.2,[],[full]) hin ⟨VS.nil,VS.full⟩ g3
 rw [ho] at i1 i2
 have es:=hsk g4
 refine⟨(uU_vs _ _ _).1,fun p hp=>?_⟩
 have e1:mem (uU w.2 o.2.1 w.1).1 p=(mem o.2.1 p || mem w.1 p):=by
  have:=gU p hp; rw [Zeb hok.o,Zeb hwv] at this; exact this
 have e2:mem w.1 p=(mem o.2.2 p && mem t.1 p):=by
  have:=gI p hp; rw [Zeb hok.r,Zeb hv] at this; rw [← hw]; exact this
 rw [e1,e2,Bool.or_eq_true,Bool.and_eq_true,i1 p hp,i2 p hp,Zkr,Zzr hp,es p hp]
 constructor
 ·rintro((h | ⟨_,x,h1,q,hq,h2,h3⟩) | ⟨⟨_,h1⟩,h2⟩)
  ·cases h
  ·exact Or.inr ⟨x,h1,q,hq,h2,by rw [← es q hq]; exact h3⟩
  ·exact Or.inl ⟨h1,h2⟩
 ·rintro(⟨h1,h2⟩ | ⟨x,h1,q,hq,h2,h3⟩)
  ·exact Or.inr ⟨⟨rfl,h1⟩,h2⟩
  ·exact Or.inl (Or.inr ⟨rfl,x,h1,q,hq,h2,by rw [es q hq]; exact h3⟩)
end Go.AM
set_option maxRecDepth 100000
namespace Go.AM
open Go
theorem Zmx {a b:Zb} {top:Int} (ha:ROk top a) (hb:ROk top b):sideBad top (ixr a b)=false ↔ a.Lo≤b.Hi∧b.Lo≤a.Hi:=by
 rw [Zuf]
 have:=ha.h1
 have:=ha.h2
 have:=hb.h1
 have:=hb.h2
 unfold ixr iMax iMin
 simp only
 split <;> split <;> omega
theorem Zz0 {b:Bx}:vB b=true ↔ sideBad 4294967295 b.x0=false∧sideBad 4294967295 b.x1=false∧sideBad 255 b.x2=false∧sideBad 65535 b.x3=false∧sideBad 65535 b.x4=false:=by
 unfold vB
 cases sideBad 4294967295 b.x0 <;> cases sideBad 4294967295 b.x1 <;> cases sideBad 255 b.x2 <;> cases sideBad 65535 b.x3 <;> cases sideBad 65535 b.x4 <;> simp
theorem xB_iff {x y:Bx} (hx:BOk x) (hy:BOk y):(xB x y).2=true ↔ ∃ p,vP tops5 p∧mB (toL x) p=true∧mB (toL y) p=true:=by
 have e:(xB x y).2=vB (isect x y):=by
  unfold xB
  rw [ok_vB hx,ok_vB hy]
  cases vB (isect x y) <;> rfl
 have e2:vB (isect x y)=true ↔ (x.x0.Lo≤y.x0.Hi∧y.x0.Lo≤x.x0.Hi)∧(x.x1.Lo≤y.x1.Hi∧y.x1.Lo≤x.x1.Hi)∧(x.x2.Lo≤y.x2.Hi∧y.x2.Lo≤x.x2.Hi)∧(x.x3.Lo≤y.x3.Hi∧y.x3.Lo≤x.x3.Hi)∧(x.x4.Lo≤y.x4.Hi∧y.x4.Lo≤x.x4.Hi):=by
  rw [Zz0]
  show sideBad 4294967295 (ixr x.x0 y.x0)=false∧sideBad 4294967295 (ixr x.x1 y.x1)=false∧sideBad 255 (ixr x.x2 y.x2)=false∧sideBad 65535 (ixr x.x3 y.x3)=false∧sideBad 65535 (ixr x.x4 y.x4)=false ↔ _
  rw [Zmx hx.h0 hy.h0,Zmx hx.h1 hy.h1,Zmx hx.h2 hy.h2,Zmx hx.h3 hy.h3,Zmx hx.h4 hy.h4]
 rw [e,e2]
 constructor
 ·rintro⟨h0,h1,h2,h3,h4⟩
  have bx:=ok_vR hx
  refine⟨[max x.x0.Lo y.x0.Lo,max x.x1.Lo y.x1.Lo,max x.x2.Lo y.x2.Lo,max x.x3.Lo y.x3.Lo,max x.x4.Lo y.x4.Lo],?_,?_,?_⟩
  ·have:=hx.h0.h0; have:=hx.h0.h1; have:=hx.h0.h2; have:=hy.h0.h0; have:=hy.h0.h1
   have:=hx.h1.h0; have:=hx.h1.h1; have:=hx.h1.h2; have:=hy.h1.h0; have:=hy.h1.h1
   have:=hx.h2.h0; have:=hx.h2.h1; have:=hx.h2.h2; have:=hy.h2.h0; have:=hy.h2.h1
   have:=hx.h3.h0; have:=hx.h3.h1; have:=hx.h3.h2; have:=hy.h3.h0; have:=hy.h3.h1
   have:=hx.h4.h0; have:=hx.h4.h1; have:=hx.h4.h2; have:=hy.h4.h0; have:=hy.h4.h1
   simp only [tops5,vP,and_true]
   omega
  ·have:=hx.h0.h1; have:=hx.h1.h1; have:=hx.h2.h1; have:=hx.h3.h1; have:=hx.h4.h1
   simp only [toL,mB,Bool.and_eq_true,Zbo,and_true]
   omega
  ·have:=hy.h0.h1; have:=hy.h1.h1; have:=hy.h2.h1; have:=hy.h3.h1; have:=hy.h4.h1
   simp only [toL,mB,Bool.and_eq_true,Zbo,and_true]
   omega
 ·rintro⟨p,hp,h1,h2⟩
  obtain⟨a,b,c,d,e,rfl⟩:=Zie hp
  simp only [toL,mB,Bool.and_eq_true,Zbo,and_true] at h1 h2
  omega
theorem Zsi {α:Type} (p:α→Bool):∀(l:List α) (i:Nat),findI (fun _ x=>if p x=true then some true else none) i l=if l.any p=true then some true else none
 | [],_=>rfl
 | x :: l,i=>by
  by_cases h:p x=true
  ·simp only [findI,if_pos h,List.any_cons,h,Bool.true_or,if_true]
  ·rw [Bool.not_eq_true] at h
   simp only [findI,List.any_cons,h,Bool.false_eq_true,if_false,Bool.false_or]
   exact Zsi p l (i + 1)
end Go.AM
set_option maxRecDepth 100000
namespace Go.AM
open Go
end Go.AM
set_option maxRecDepth 100000
namespace Go.AM
open Go
end Go.AM
set_option maxRecDepth 100000
namespace Go.AM
open Go
theorem Z01 {x:Int} (h0:0≤x) (h1:x≤4294967295):RIn ⟨x,x⟩:=⟨h0,by show x<_; omega,h0,by show x<_; omega⟩
theorem Z02 {t:Ze} (ht:TOk t):Ok (Zfp t) fun r=>HIn r.1∧TOk r.2:=by
 unfold Zfp
 rw [Zws]
 refine Ok.lift ?_
 refine Ok.bind (Zcx ht 2 (by omega) (by omega)) fun r3 ⟨⟨a0,a1⟩,h3⟩=>?_
 refine Ok.bind (Ok.idx (p:=fun x=>0≤x∧x≤4294967295) a0 (by simpa using a1) fun x hx=>?_) fun x5 hx5=>?_
 ·simp only [List.mem_cons,List.not_mem_nil,or_false] at hx
  omega
 refine Ok.bind (Zqw h3 (top:=65535) (by omega) (by omega)) fun r7 ⟨q1,q2⟩=>Ok.bind (Zk8 q2) fun r9 ⟨q3,q4⟩=>?_
 have fb:=Zmr.bin
 refine Ok.bind (p:=fun o=>TOk o.1∧HIn o.2) ?_ fun o ⟨o1,o2⟩=>?_
 ·refine Ok.bind (Zcx q4 2 (by omega) (by omega)) fun r22 ⟨_,h22⟩=>Ok.ite (fun _=>?_) fun _=>?_
  ·refine Ok.bind (Zcx h22 3 (by omega) (by omega)) fun r24 ⟨⟨c0,c1⟩,h24⟩=>Ok.bind (Ok.idx (p:=fun x=>0≤x∧x≤4294967295) c0 (by simpa using c1) fun x hx=>?_) fun x26 hx=>Ok.ret ⟨h24,⟨q3.rin (by omega),fb.h1,Z01 hx.1 hx.2,fb.h3,fb.h4⟩,hx5.1,hx5.2,q1.rin (by omega)⟩
   simp only [List.mem_cons,List.not_mem_nil,or_false] at hx
   omega
  ·exact Ok.ret ⟨h22,⟨q3.rin (by omega),fb.h1,fb.h2,fb.h3,fb.h4⟩,hx5.1,hx5.2,q1.rin (by omega)⟩
 ·obtain⟨p1,p2⟩:=o
  exact Ok.ret ⟨o2,o1⟩
theorem Zp7 (wild:Bool):∀(n:Nat) (t:Ze) (l:List Zi) (i:Int),TOk t→(∀ x∈l,HIn x)→i≤n→0≤i→i<100→(l.length:Int) + i<1000 →
  Ok (Zcb wild (n + 1) t l i) fun r=>TOk r.1∧(∀ x∈r.2,HIn x)∧(r.2.length:Int)=l.length + i
 | 0,t,l,i,ht,hl,hi,h0,h9,hlen=>by
  rw [Zcb]
  exact Ok.ite (fun hc=>absurd (of_decide_eq_true hc) (by omega)) fun _=>Ok.ret ⟨ht,hl,by show (l.length:Int)=_; omega⟩
 | n + 1,t,l,i,ht,hl,hi,h0,h9,hlen=>by
  rw [Zcb]
  refine Ok.ite (fun hc=>?_) fun hc=>Ok.ret ⟨ht,hl,by simp at hc; show (l.length:Int)=_; omega⟩
  have hc:=of_decide_eq_true hc
  refine Ok.bind (p:=fun r=>TOk r.1∧(∀ x∈r.2,HIn x)∧r.2.length=l.length + 1) ?_ fun r ⟨h1,h2,h3⟩=>?_
  ·refine Ok.bind (Z02 ht) fun q ⟨g1,g2⟩=>?_
   refine Ok.bind (p:=fun o=>TOk o.1∧HIn o.2) ?_ fun o ⟨k1,k2⟩=>?_
   ·refine Ok.lift ?_
    refine Ok.bind (p:=fun v=>TOk v.2) ?_ fun v k1=>?_
    ·refine Ok.ite (fun hw=>?_) fun _=>Ok.ret g2
     exact Ok.bind (Zcx g2 6 (by omega) (by omega)) fun r190 ⟨_,h6⟩=>Ok.ret h6
    ·refine Ok.ite (fun hv=>?_) fun _=>Ok.ret ⟨k1,g1⟩
     exact Ok.bind (Zpx k1 g1.m) fun r196 ⟨m1,m2⟩=>Ok.ret ⟨m2,m1,g1.a0,g1.a1,g1.p⟩
   ·obtain⟨o1,o2⟩:=o
    refine Ok.bind (p:=fun o=>TOk o.1∧HIn o.2) ?_ fun o ⟨k1,k2⟩=>?_
    ·refine Ok.lift ?_
     refine Ok.bind (p:=fun v=>TOk v.2) ?_ fun v k3=>?_
     ·refine Ok.ite (fun hw=>?_) fun _=>Ok.ret k1
      exact Ok.bind (Zcx k1 6 (by omega) (by omega)) fun r190 ⟨_,h6⟩=>Ok.ret h6
     ·have w:=Zgb (o2.Ports.Hi + 65536)
      exact Ok.ite (fun hv=>Ok.ret ⟨k3,k2.m,k2.a0,k2.a1,⟨k2.p.h0,k2.p.h1,w.1,w.2⟩⟩) fun _=>Ok.ret ⟨k3,k2⟩
    ·obtain⟨o1,o2⟩:=o
     refine Ok.chk (by simp only [List.length_singleton]; unfold lim; omega) (Ok.ret ⟨k1,fun x hx=>?_,by simp⟩)
     rcases List.mem_append.1 hx with hx | hx
     ·exact hl x hx
     ·simp only [List.mem_singleton] at hx; subst hx; exact k2
  ·obtain⟨r1,r2⟩:=r
   simp only at h1 h2 h3
   show Ok (Zcb wild (n + 1) r1 r2 (IntKind.wrap .i64 (i - 1))) _
   rw [wi64 (by omega) (by omega)]
   refine(Zp7 wild n r1 r2 (i - 1) h1 h2 (by omega) (by omega) (by omega) (by omega)).mono fun v ⟨e1,e2,e3⟩=>⟨e1,e2,?_⟩
   omega
theorem Zz1 (wild:Bool) {t:Ze} (ht:TOk t) {n:Int} (h0:0≤n) (h1:n<90):Ok (Zfd t n wild) fun r=>(∀ x∈r.1,HIn x)∧(r.1.length:Int)≤n∧TOk r.2:=by
 unfold Zfd
 rw [wi64 (x:=n + 1) (by omega) (by omega)]
 refine Ok.bind (Zcx ht (n + 1) (by omega) (by omega)) fun r ⟨⟨h2,h3⟩,h4⟩=>?_
 refine Ok.bind (Zp7 wild 1180591620717411303423 r.2 [] r.1 h4 (by simp) (by omega) h2 (by omega) (by simp; omega)) fun q ⟨g1,g2,g3⟩=>?_
 obtain⟨q1,q2⟩:=q
 refine Ok.ret ⟨g2,?_,g1⟩
 simp at g3
 show (q2.length:Int)≤n
 omega
def gH (h:Zo) (i:Nat) (m:Zi):Option Int:=if (vH m && cB m.Match h)=true then some (i:Int) else none
def mH (l:List Zi) (h:Zo):Int:=orN (findI (gH h) 0 l)
theorem Zvz {h:Zo} (hh:Zaq h) {l:List Zi} (hl:l.length≤1000000000000):Zea l h=some (mH l h):=by
 have h1:∀ m:Zi,Zeo m h=some (vH m && cB m.Match h):=fun m=>by
  unfold Zeo
  rw [Zh5,Zp0 hh]
  cases vH m <;> rfl
 unfold Zea Za7 mH
 rw [Zh3 (L:=Z0 l h) l (gH h) hl (fun n i hi=>by
  rw [Z0]
  simp only [show ((i:Int)<(l.length:Int)) from by omega,decide_true,if_true,Zaf hi,Option.bind_some,h1,wsucc (by omega:i<1000000000001)]
  unfold gH
  cases (vH l[i] && cB l[i].Match h) <;> rfl) (fun n=>by rw [Z0]; simp)]
 cases findI (gH h) 0 l <;> rfl
theorem Of_box {h:Zo} (hh:Zaq h):Zk0 h=some (ofB (hv h)):=by
 unfold Zk0
 rw [Ztn hh]
 simp only [Option.bind_some]
 rw [Zor (L:=Zg2 (hv h)) (f:=fun s k=>Arr5.set s k ⟨(hv h).get k,(hv h).get k⟩) (fin:=id) (fun n s k h0 h1=>by
  rw [Zg2]
  simp only [show k<5 from h1,decide_true,if_true,show 0≤k∧k<5 from ⟨h0,h1⟩,and_self,wnext h0 (by omega:k<1000000)]) (fun n s=>by rw [Zg2]; rfl)]
 rfl
def hdB (m:Zi) (h:Zo):Bx:=if (vH m && cB m.Match h)=true then tgt m (ofB (hv h)) else ofB (hv h)
theorem Zyt {h:Zo} (hh:Zaq h) (m:Zi):Zfj m h=some (hdB m h):=by
 unfold Zfj hdB
 rw [Of_box hh,Zh5,Zp0 hh]
 cases vH m <;> cases cB m.Match h <;> rfl
end Go.AM
set_option maxRecDepth 100000
namespace Go.AM
open Go
theorem GB.bin {w:Bool} {l:List Bx} (h:∀ x∈l,GB w x):∀ x∈l,BIn x:=fun x hx=>(h x hx).1
theorem three {r:List Bx × Int} (h:SetOr r) (h0:r.2 ≠ 0):r.2=3:=by rw [h.three h0]
end Go.AM
set_option maxRecDepth 100000
namespace Go.AM
open Go
def toA (l:List Zi) (h:Zo):Bx:=match hmt l (pt h) with
 | some d=>tgt d (ofB (hv h))
 | none=>ofB (hv h)
theorem Zv0 (h:Zo):∀(l:List Zi) (i:Nat),(findI (gH h) i l=none∧hmt l (pt h)=none)∨∃(j:Nat) (hj:j<l.length),findI (gH h) i l=some ((i + j:Nat):Int)∧hmt l (pt h)=some l[j]
 | [],i=>Or.inl ⟨rfl,rfl⟩
 | m :: l,i=>by
  have e:(vH m && cB m.Match h)=(vH m && mB (toL m.Match) (pt h)):=by
   rw [cB_eq]
   by_cases hv:vH m=true
   ·rw [Zj1 hv,Bool.true_and]
   ·rw [Bool.not_eq_true] at hv; rw [hv]; rfl
  by_cases hc:(vH m && mB (toL m.Match) (pt h))=true
  ·refine Or.inr ⟨0,by simp,?_,?_⟩
   ·simp only [findI,gH,e,hc,if_true]; rfl
   ·simp only [hmt,hc,if_true]; rfl
  ·have e1:findI (gH h) i (m :: l)=findI (gH h) (i + 1) l:=by simp only [findI,gH,e,if_neg hc]
   have e2:hmt (m :: l) (pt h)=hmt l (pt h):=by simp only [hmt,if_neg hc]
   rw [e1,e2]
   rcases Zv0 h l (i + 1) with h1 | ⟨j,hj,h1,h2⟩
   ·exact Or.inl h1
   ·exact Or.inr ⟨j + 1,by simp; omega,by rw [h1]; congr 2; omega,by rw [h2]; rfl⟩
theorem ofH_ok {h:Zo} (hh:Zaq h):BOk (ofB (hv h)):=by
 have v:=hv_ok hh
 exact⟨⟨v.h0.1,Int.le_refl _,v.h0.2⟩,⟨v.h1.1,Int.le_refl _,v.h1.2⟩,⟨v.h2.1,Int.le_refl _,v.h2.2⟩,⟨v.h3.1,Int.le_refl _,v.h3.2⟩,⟨v.h4.1,Int.le_refl _,v.h4.2⟩⟩
theorem Zs5 {h:Zo} {p:List Int} (hp:vP tops5 p):mB (toL (ofB (hv h))) p=true ↔ p=pt h:=by
 obtain⟨p0,p1,p2,p3,p4,rfl⟩:=Zie hp
 simp only [toL,ofB,hv,mB,Bool.and_eq_true,Zbo,and_true,pt,List.cons.injEq]
 omega
theorem Zs6 {h:Zo} {d:Zi} {p:List Int} (hp:vP tops5 p):mB (toL (tgt d (ofB (hv h)))) p=true ↔ tb d (pt h) p:=by
 obtain⟨p0,p1,p2,p3,p4,rfl⟩:=Zie hp
 simp only [toL,tgt,ofB,hv,mB,Bool.and_eq_true,Zbo,and_true,pt,tb]
 omega
theorem toA_ok {l:List Zi} (hin:∀ m∈l,HIn m) {h:Zo} (hh:Zaq h):BOk (toA l h):=by
 unfold toA
 split
 ·rename_i d hd
  obtain⟨h1,h2,_⟩:=Zvx hd
  exact tgt_ok (hin _ h1) h2 (ofH_ok hh)
 ·exact ofH_ok hh
theorem Z03 {l:List Zi} (hl:l.length≤100000) {x:Zo} (hx:Zaq x) {hs:List Zo} {i:Int} (hi:idx hs i=some x) :
  ((idx hs i).bind fun(x231:Zo)=>
   (Zea l x231).bind fun(r233:Int)=>
   if (decide (r233 ≥ (0:Int)))=true then
    if (decide (r233 ≥ (List.length l:Int)))=true then
     some (.inr false)
    else
     (idx l r233).bind fun(x235:Zi)=>
     (idx hs i).bind fun(x237:Zo)=>
     (Zfj x235 x237).bind fun(r239:(Arr5 Zb))=>
     some (.inl r239)
   else
    some (.inl (ofB (hv x))))=some (.inl (toA l x):Bx ⊕ Bool):=by
 rw [bindS hi,bindS (Zvz hx (by omega))]
 rcases Zv0 x l 0 with ⟨h1,h2⟩ | ⟨j,hj,h1,h2⟩
 ·have e:mH l x=-1:=by unfold mH; rw [h1]; rfl
  rw [e,if_neg (by decide)]
  unfold toA
  rw [h2]
 ·have e:mH l x=(j:Int):=by unfold mH; rw [h1,Nat.zero_add]; rfl
  obtain⟨_,v1,v2⟩:=Zvx h2
  have c:(vH l[j] && cB l[j].Match x)=true:=by rw [cB_eq,v1,v2,Zj1 v1]; rfl
  rw [e,if_pos (decide_eq_true (by omega)),if_neg (by simp; omega),bindS (Zaf hj),bindS hi,bindS (Zyt hx _)]
  unfold toA hdB
  rw [h2,if_pos c]
theorem Zz2 {a:List Bx} (ha:a.length≤1000000) (b:Bx):Zgw a b=some (a.any fun x=>(xB x b).2):=by
 unfold Zgw
 rw [Zh3 (L:=Zdz a b) a (fun _ y=>if (xB y b).2=true then some true else none) (by omega) (fun n j hj=>by
  rw [Zdz]
  simp only [show ((j:Int)<(a.length:Int)) from by omega,decide_true,if_true,Zaf hj,Option.bind_some,Zub,wsucc (by omega:j<1000000000001)]
  cases (xB a[j] b).2 <;> rfl) (fun n=>by rw [Zdz]; simp),Zsi]
 cases (a.any fun y=>(xB y b).2) <;> rfl
theorem Zyu {a:List Bx} (ha:InL a) {b:Bx} (hb:BOk b):(a.any fun x=>(xB x b).2)=true ↔ ∃ p,vP tops5 p∧mem (a.filter vB) p=true∧mB (toL b) p=true:=by
 rw [List.any_eq_true]
 constructor
 ·rintro⟨x,hx,h⟩
  have hv:vB x=true:=by
   unfold xB at h
   cases hv:vB x with
   | true=>rfl
   | false=>rw [hv] at h; cases h
  obtain⟨p,hp,h1,h2⟩:=(xB_iff (vB_ok (ha.bin x hx) hv) hb).1 h
  exact⟨p,hp,mS_iff.2 ⟨_,List.mem_map_of_mem (List.mem_filter.2 ⟨hx,hv⟩),h1⟩,h2⟩
 ·rintro⟨p,hp,h1,h2⟩
  obtain⟨_,g,h3⟩:=mS_iff.1 h1
  obtain⟨x,hx,rfl⟩:=List.mem_map.1 g
  obtain⟨hx,hv⟩:=List.mem_filter.1 hx
  exact⟨x,hx,(xB_iff (vB_ok (ha.bin x hx) hv) hb).2 ⟨p,hp,h3,h2⟩⟩
theorem Zwe {l:List Zi} (hin:∀ m∈l,HIn m) {s:List Bx} (hs:InL s) (ea:(himgA l s).2=0) (eb:(hpreA l s).2=0) {h:Zo} (hh:Zaq h) :
  (mem (s.filter vB) (pt h)=true→∀ p,vP tops5 p→mem [toA l h] p=true→mem (himgA l s).1 p=true)∧mem ((hpreA l s).1.filter vB) (pt h)=(s.any fun x=>(xB x (toA l h)).2):=by
 obtain⟨va,ma⟩:=Zzy hin ea
 obtain⟨vb,mb⟩:=Zzz hin eb
 have hp:=pt_ok hh
 refine⟨fun hm p hq ht=>?_,?_⟩
 ·rw [Zpb] at ht
  rw [ma p hq]
  unfold toA at ht
  cases hx:hmt l (pt h) with
  | none=>
   rw [hx] at ht
   rw [Zs5 hq] at ht
   subst ht
   exact Or.inl ⟨hm,hx⟩
  | some d=>
   rw [hx] at ht
   exact Or.inr ⟨_,hp,hm,d,hx,(Zs6 hq).1 ht⟩
 ·rw [Zeb vb,Bool.eq_iff_iff,Zyu hs (toA_ok hin hh),mb _ hp]
  unfold toA
  cases hx:hmt l (pt h) with
  | none=>
   simp only [true_and,reduceCtorEq,false_and,exists_false,or_false]
   constructor
   ·exact fun hm=>⟨_,hp,hm,(Zs5 hp).2 rfl⟩
   ·rintro⟨p,hq,hm,ht⟩
    rw [Zs5 hq] at ht
    subst ht
    exact hm
  | some d=>
   simp only [reduceCtorEq,false_and,false_or,Option.some.injEq,exists_eq_left']
   constructor
   ·rintro⟨q,hq,ht,hm⟩
    exact⟨q,hq,hm,(Zs6 hq).2 ht⟩
   ·rintro⟨q,hq,hm,ht⟩
    exact⟨q,hq,(Zs6 hq).1 ht,hm⟩
theorem Zmb {t:List Int} {h:Zo} (ht:Zqg t) (hh:Zaq h):Zd6 t h=some true:=by
 have hsane:Zh8=some true:=rfl
 refine Ok.eq ?_
 unfold Zd6
 refine Ok.bind (New_ok (Z0d ht)) fun r1 h1=>Ok.bind (Zz1 true h1 (by omega) (by omega)) fun r3 ⟨m1,m2,m3⟩=>Ok.bind (Zy6 true m3 (by omega) (by omega)) fun r5 ⟨b1,b2,b3⟩=>?_
 have hl:r3.1.length≤100000:=by omega
 have hs:InL r5.1:=⟨by omega,GB.bin b1⟩
 rw [Zvw hl m1 hs,Zsh hl m1 hs]
 have ia:=Z0z r3.1 r5.1
 have ib:=Z00 r3.1 r5.1
 refine Ok.lift (Ok.lift (Ok.lift (Ok.ite (fun hc=>?_) fun hc=>?_)))
 ·have:((himgA r3.1 r5.1).2 == 3 || (hpreA r3.1 r5.1).2 == 3)=true:=by
   simp only [Bool.or_eq_true,bne_iff_ne,ne_eq,beq_iff_eq] at hc ⊢
   rcases hc with h | h
   ·exact Or.inl (three ia h)
   ·exact Or.inr (three ib h)
  simp only [Option.bind_some,this,if_true,hsane]
  exact Ok.ret rfl
 ·simp only [Bool.or_eq_true,bne_iff_ne,ne_eq,not_or,Classical.not_not] at hc
  obtain⟨ea,eb⟩:=hc
  refine Ok.bind (Z0v b3 (GB.bin b1) (by omega)) fun r24 ⟨n1,n2⟩=>Ok.bind (Ztw n2) fun r26 ⟨d1,d2⟩=>?_
  have hheads:∀ x∈[h,r24.1,r26.1],Zaq x:=by
   intro x hx
   simp only [List.mem_cons,List.not_mem_nil,or_false] at hx
   rcases hx with rfl | rfl | rfl <;> assumption
  have hL:Zaz h r3 r5 (himgA r3.1 r5.1) (hpreA r3.1 r5.1) r24 r26 fuel 0=some (.inl ()):=by
   have:=Zh3 (L:=Zaz h r3 r5 (himgA r3.1 r5.1) (hpreA r3.1 r5.1) r24 r26) [h,r24.1,r26.1] (fun _ _=>(none:Option Bool)) (by simp) (fun n i hi=>by
    have hx:=hheads _ (List.getElem_mem hi)
    have hi4:i<3:=hi
    obtain⟨k1,k2⟩:=Zwe m1 hs ea eb hx
    obtain⟨r,e1,e2⟩:=Zxv (VS.of (CFb.single (toA_ok m1 hx)) (by simp)) ia.vs
    have vb:=ib.vs.len
    rw [Zaz,if_pos (decide_eq_true (by omega)),bindS (Zaf hi),bindS (rOf_eq hx),bindS (Z03 hl hx (Zaf hi))]
    simp only [Zaf hi,Option.bind_some,Zp6 hx (show r5.1.length≤1000000000000 by omega),e1,Zp6 hx (show (hpreA r3.1 r5.1).1.length≤1000000000000 by omega),Zz2 (show r5.1.length≤1000000 by omega),k2,beq_self_eq_true,Bool.not_true]
    rw [wsucc (by omega)]
    cases hm:mem (r5.1.filter vB) (pt ([h,r24.1,r26.1][i])) with
    | false=>rfl
    | true=>rw [e2.2 (k1 hm)]; rfl) (fun n=>by rw [Zaz,if_neg (by simp)])
   rw [this,Ztx]
   rfl
  rw [hL]
  simp only [Option.bind_some,hsane]
  exact Ok.ret rfl
end Go.AM

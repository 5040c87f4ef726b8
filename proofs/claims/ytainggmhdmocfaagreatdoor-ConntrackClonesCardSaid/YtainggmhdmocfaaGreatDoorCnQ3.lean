/- Parts of a proof, printed short. No condition. -/
import Derived.Laws.OwnMore
import Derived.Laws.Cover3
import Derived.Laws.Pointers
import Derived.Laws.BytesString
import Derived.MapKept
import Derived.Laws.Externs
import Derived.Laws.Concat
import Derived.Laws.IdiomStrings
import Derived.Laws.IdiomRangeMap
import Derived.Shelf.SlSortCmp.NoneTotal
import Derived.Test.YtainggmhdmocfaaGreatDoorProg
import Derived.Shelf.SlGeneric
import Derived.Ground.SlsfProg
import Derived.Test.YtainggmhdmocfaaGreatDoorCnQ2
namespace Go.AM
section
variable {P:Program} {G:Glob} {n0 nt:Nat} {o:Oper} {st:St} {H:List Blk} {ops:Array Oper} {Q:Exit→St→List Blk→Prop} {E:Eval}
theorem key_lt {α:Type}:∀(rs:List (Nat × α)) (j:Nat) (p:α),rs.lookup j=some p→j<rs.foldr (fun x n=>max (x.1 + 1) n) 0
 | [],_,_,h=>by simp at h
 | (i,q) :: rs,j,p,h=>by
  simp only [List.lookup] at h
  simp only [List.foldr_cons]
  split at h
  ·rename_i hj
   have:j=i:=by simpa using hj
   omega
  ·have:=key_lt rs j p h
   omega
mutual
def PV.top:PV→Nat
 | .ptr i _=>i + 1
 | .own i _=>i + 1
 | .ept i _ _ _=>i + 1
 | .mp i=>i + 1
 | .vw i _ _=>i + 1
 | .ow i _ _ _=>i + 1
 | .oc i _ _=>i + 1
 | .op i _ _=>i + 1
 | .agg cs=>PV.tops cs
 | .tup cs=>PV.tops cs
 | .fn _ cs=>PV.tops cs
 | _=>0
def PV.tops:List PV→Nat
 | []=>0
 | p :: ps=>max p.top (PV.tops ps)
end
theorem Zqk {α:Type} {x y:α} {t:Nat} (h:[x][t]? = some y):y=x:=by
 cases t with
 | zero=>simpa using h.symm
 | succ t=>simp at h
theorem Zoa {k:Nat} {cand give:List Nat} {t0:Tr} {rs:List (Nat × PV)} {Hs:List (List Blk)} {Hf:List Blk} {ch late:List Nat} :
  ∀(l:List Nat) (rs0:List (Nat × PV)) (Hs0:List (List Blk)) (H0:List Blk) (ch0 late0:List Nat),gox P G E ops k cand give t0 l rs0 Hs0 H0 ch0 late0=some (rs,Hs,Hf,ch,late) →
  (∀ j∈l,∃ p,rs.lookup j=some p)∧(∀ j p,rs0.lookup j=some p→∃ q,rs.lookup j=some q)
 | [],rs0,Hs0,H0,ch0,late0,h=>by
  simp only [gox,Option.some.injEq,Prod.mk.injEq] at h
  obtain⟨rfl,_⟩:=h
  exact⟨fun j hj=>by (cases hj),fun j p hp=>⟨p,hp⟩⟩
 | i :: l,rs0,Hs0,H0,ch0,late0,h=>by
  have key:∀ {p:PV} {Hs1:List (List Blk)} {H1:List Blk} {ch1 late1:List Nat},gox P G E ops k cand give t0 l ((i,p) :: rs0) Hs1 H1 ch1 late1=some (rs,Hs,Hf,ch,late) →
    (∀ j∈i :: l,∃ p,rs.lookup j=some p)∧(∀ j p,rs0.lookup j=some p→∃ q,rs.lookup j=some q):=fun {p _ _ _ _} h=>by
   obtain⟨h1,h2⟩:=Zoa l _ _ _ _ _ h
   refine⟨fun j hj=>?_,fun j q hq=>?_⟩
   ·rcases List.mem_cons.1 hj with rfl | hj
    ·exact h2 j p (by simp)
    ·exact h1 j hj
   ·by_cases hji:j=i
    ·subst hji; exact h2 j p (by simp)
    ·exact h2 j q (by rw [Zf7 hji]; exact hq)
  simp only [gox] at h
  split at h
  ·cases h
  ·split at h
   ·cases h
   ·exact key h
   ·split at h
    ·split at h
     ·exact key h
     ·cases h
    ·split at h
     ·exact key h
     ·split at h
      ·exact key h
      ·cases h
theorem Zsj {k:Nat} {cand give:List Nat} {t0:Tr} {rs:List (Nat × PV)} {Hs:List (List Blk)} {Hf:List Blk} {ch late:List Nat} (l:List Nat) (rs0:List (Nat × PV)) (Hs0:List (List Blk)) (H0:List Blk) (ch0 late0:List Nat)
  (h:gox P G E ops k cand give t0 l rs0 Hs0 H0 ch0 late0=some (rs,Hs,Hf,ch,late)):∀ j∈l,∃ p,rs.lookup j=some p:=(Zoa l _ _ _ _ _ h).1
theorem Zkl {rs:List (Nat × PV)}:∀(l:List Nat) (t:Tr),(∀ j∈l,match dstJ ops j with | some d=>Nat.blt d 512=true | none=>True)→∀ x∈(putsX ops rs l t).st,(∃ j∈l,dstJ ops j=some x.1∧rs.lookup j=some x.2)∨(x∈t.st∧∀ j∈l,∀ p,rs.lookup j=some p→dstJ ops j ≠ some x.1)
 | [],t,_,x,hx=>.inr ⟨hx,fun j hj=>by cases hj⟩
 | j :: l,t,hd,x,hx=>by
  unfold putsX at hx
  have hd':∀ j∈l,match dstJ ops j with | some d=>Nat.blt d 512=true | none=>True:=fun j hj=>hd j (List.mem_cons_of_mem _ hj)
  split at hx
  ·rename_i d p h1 h2
   have hlt:d<512:=by have:=hd j (by simp); rw [h1] at this; exact Nat.blt_eq ▸ this
   rcases Zkl l _ hd' x hx with ⟨i,hi,h3⟩ | ⟨h3,h4⟩
   ·exact .inl ⟨i,List.mem_cons_of_mem _ hi,h3⟩
   ·rcases List.mem_cons.1 (Zg5 hlt x h3) with h5 | h5
    ·exact .inl ⟨j,by simp,by rw [h5]; exact h1,by rw [h5]; exact h2⟩
    ·obtain⟨h6,h7⟩:=List.mem_filter.1 h5
     refine .inr ⟨h6,fun i hi q hq=>?_⟩
     rcases List.mem_cons.1 hi with rfl | hi
     ·rw [h1]; intro e; simp at e; rw [e] at h7; simp at h7
     ·exact h4 i hi q hq
  ·rename_i hno
   rcases Zkl l t hd' x hx with ⟨i,hi,h3⟩ | ⟨h3,h4⟩
   ·exact .inl ⟨i,List.mem_cons_of_mem _ hi,h3⟩
   ·refine .inr ⟨h3,fun i hi q hq=>?_⟩
    rcases List.mem_cons.1 hi with rfl | hi
    ·intro e; exact hno _ _ e hq
    ·exact h4 i hi q hq
theorem ADraw.le {st':St} {H':List Blk} (h:Le G n0 nt st H st' H') (k:ADraw P G n0 nt ops Q st' H'):ADraw P G n0 nt ops Q st H:=fun c a w β l h0 h1 hr hl=>
 let ⟨β',hr'⟩:=h c a w β h0 h1 hr
 k c a w β' l h0 h1 hr' hl
theorem ADraw.draw {st0:St} {res:List PV} {ch:List Nat} {Hs:List (List Blk)} {k:Nat} {Hf:List Blk} {rk:List Nat} (hs:∀ x∈st0,x∈st) (hok:drawOk nt ops ch k rk=true) (hfree:∀ i,i<k→FreeOk P G n0 nt ops st0 res ch Hs k i)
  (hfirst:Hs[0]? = some H) (hlast:Hs[ch.length]? = some Hf) (htail:AOps P G n0 nt ops (List.range' k (ops.size - k)) Q (stL ops st0 res (List.range k)) Hf):ADraw P G n0 nt ops Q st H:=by
 intro c a w β lo h0 h1 hr hlin
 have hl':∀ j,(Array.replicate ops.size false).getD j false=false:=fun j=>by simp [Array.getD]
 have hfil:(List.range k).filter ((Array.replicate ops.size false).getD · false)=[]:=List.filter_eq_nil_iff.2 fun x _=>by simp only [hl']; simp
 refine Zkg _ _ _ _ _ (Zlt hok hfree hlast htail ops.size (Array.replicate ops.size false) 0 H c a w β h0 h1 (by simp) (by rw [hfil]; simp) (fun i _=>hl' i)
  (fun j _ hj=>by rw [hl'] at hj; cases hj) (fun s x hx=>?_) (Nat.zero_le _) hfirst ?_) hlin
 ·rw [hl']; simp
 ·rw [hfil]
  have h9:stL ops st0 res []=st0:=by simp [stL]
  rw [h9]; exact hr.sub hs
theorem ADraw.drx (hE:E.ok P G) {t t':Tr} {H':List Blk} (h:drx P G E nt ops t H=some (t',H')) (hq:Q .normal t'.st H'):ADraw P G n0 nt ops Q t.st H:=by
 unfold AM.drx at h
 split at h
 ·rename_i hp
  unfold planS at hp
  simp only [Bool.and_eq_true] at hp
  obtain⟨hd,hnd,hall,hds⟩:=hp
  generalize hk:(planOf ops).k=k at *
  generalize ho:(planOf ops).ord=ord at *
  generalize hr:(planOf ops).rk=rk at *
  generalize (planOf ops).cand=cand at *
  generalize (planOf ops).give=give at *
  generalize hs:shareX (planOf ops).keep t H=r at *
  obtain⟨t0,H0⟩:=r
  simp only [] at h
  split at h
  ·cases h
  ·rename_i rs Hs Hf ch late hg
   split at h
   ·rename_i hc
    simp only [Bool.and_eq_true,Bool.or_eq_true,List.isEmpty_iff] at hc
    refine ADraw.le (st':=t0.st) (H':=H0) (fun c a w β _ _ hr=>by
     have:=Zdu (G:=G) (planOf ops).keep t H c a w β hr
     rw [hs] at this
     exact this) ?_
    let N:=rs.foldr (fun x n=>max (x.1 + 1) n) 0
    let res:List PV:=(List.range N).map fun i=>(rs.lookup i).getD (.sc undef)
    have hres:∀ j p,rs.lookup j=some p→res[j]? = some p:=fun j p hp=>by
     have:j<N:=key_lt rs j p hp
     simp [res,this,hp]
    have hchk:chOk ops ch.reverse k=true:=by
     rcases hc.1 with rfl | h1
     ·simp [chOk]
     ·exact h1
    obtain⟨_,⟨t,g2⟩,⟨c,g3,g3'⟩,_,g5,g6⟩:=gox_ok (n0:=n0) hE hres rfl rfl ord [] [] H0 [] [] hg (of_decide_eq_true hnd) (fun _ _=>rfl) (fun _ h=>by cases h) rfl
    have hdone:=Zsj ord [] [] H0 [] [] hg
    have hfree:∀ i,i<k→FreeOk P G n0 nt ops t0.st res ch.reverse (Hf :: Hs).reverse k i:=fun i hi=>by
     have hio:i∈ord:=by
      have:=List.all_eq_true.1 hall i (List.mem_range.2 hi)
      simpa using this
     rcases g6 i hio with h1 | ⟨hl,o,p,t,H1,ho,hni,hw,hp,ht,hop⟩
     ·exact h1
     ·refine .quiet o p ho hni hw hp fun t' H' ht' hpos=>?_
      rcases hc.2 with rfl | h2
      ·have hs0:Hs=[]:=List.eq_nil_of_length_eq_zero (by rw [← g5]; rfl)
       subst hs0
       simp only [List.reverse_cons,List.reverse_nil,List.nil_append] at ht ht'
       have e1:H1=Hf:=Zqk ht
       have e2:H'=Hf:=Zqk ht'
       subst e1 e2
       exact hop
      ·have:=List.all_eq_true.1 h2 i hl
       unfold lateOne at this
       rw [ho] at this
       split at this
       ·rename_i o' p' ho' hp'
        simp only [Option.some.injEq] at ho'; subst ho'
        have h3:=hres _ _ hp'
        rw [hp] at h3
        simp only [Option.some.injEq] at h3; subst h3
        exact Zmt hres _ 0 this t' H' ht' (by rw [Nat.zero_add]; exact hpos)
       ·cases this
    refine ADraw.draw (st0:=t0.st) (res:=res) (ch:=ch.reverse) (Hs:=(Hf :: Hs).reverse) (k:=k) (Hf:=Hf) (rk:=rk) (fun _ h=>h) (Zrk hd hchk) hfree ?_ ?_ ?_
    ·rw [g2]; simp
    ·simp [g5]
    ·refine AOps.sub ?_ (AOps.sqx hE _ _ _ _ _ h hq)
     intro x hx
     have hall':∀ j∈List.range k,match dstJ ops j with | some d=>Nat.blt d 512=true | none=>True:=fun j hj=>by
      have h3:=List.all_eq_true.1 hds j hj
      cases hdj:dstJ ops j with
      | none=>trivial
      | some d=>rw [hdj] at h3; exact h3
     rcases Zkl _ _ hall' x hx with ⟨j,hj,h1,h2⟩ | ⟨h1,h2⟩
     ·refine List.mem_append_left _ (List.mem_filterMap.2 ⟨j,hj,?_⟩)
      have h1':(ops[j]?).bind (·.dst)=some x.1:=h1
      rw [h1',hres _ _ h2]
     ·refine List.mem_append_right _ (List.mem_filter.2 ⟨h1,List.all_eq_true.2 fun j hj=>?_⟩)
      have hjk:j<k:=List.mem_range.1 hj
      obtain⟨p,hp⟩:=hdone j (by have:=List.all_eq_true.1 hall j hj; simpa using this)
      have h9:¬ ((ops[j]?).bind (·.dst)=some x.1):=h2 j hj p hp
      simpa using h9
   ·cases h
 ·cases h
def oeq:Option PV→Option PV→Bool
 | none,none=>true
 | some p,some q=>peq p q
 | _,_=>false
theorem oeq_eq {a b:Option PV} (h:oeq a b=true):a=b:=by
 unfold oeq at h
 split at h
 ·rfl
 ·rw [peq_eq _ _ h]
 ·cases h
def N8.eqs {α:Type} (f:α→α→Bool) (s t:N8 α):Bool:=match s,t with
 | .mk a b c d e g h i,.mk a' b' c' d' e' g' h' i'=>f a a' && f b b' && f c c' && f d d' && f e e' && f g g' && f h h' && f i i'
theorem N8.eqs_eq {α:Type} {f:α→α→Bool} (hf:∀ a b,f a b=true→a=b) {s t:N8 α} (h:N8.eqs f s t=true):s=t:=by
 cases s; cases t
 simp only [N8.eqs,Bool.and_eq_true] at h
 obtain⟨⟨⟨⟨⟨⟨⟨h1,h2⟩,h3⟩,h4⟩,h5⟩,h6⟩,h7⟩,h8⟩:=h
 rw [hf _ _ h1,hf _ _ h2,hf _ _ h3,hf _ _ h4,hf _ _ h5,hf _ _ h6,hf _ _ h7,hf _ _ h8]
def teq (s t:Tr):Bool:=N8.eqs (N8.eqs (N8.eqs oeq)) s t
theorem teq_eq {s t:Tr} (h:teq s t=true):s=t:=N8.eqs_eq (fun _ _ h=>N8.eqs_eq (fun _ _ h=>N8.eqs_eq (fun _ _ h=>oeq_eq h) h) h) h
def eeqs:List Ent→List Ent→Bool
 | [],[]=>true
 | x :: xs,y :: ys=>Nat.beq x.1 y.1 && veq x.2.1 y.2.1 && peq x.2.2 y.2.2 && eeqs xs ys
 | _,_=>false
theorem Zql:∀(xs ys:List Ent),eeqs xs ys=true→xs=ys
 | [],[],_=>rfl
 | [],_ :: _,h=>by simp [eeqs] at h
 | _ :: _,[],h=>by simp [eeqs] at h
 | (a,b,c) :: xs,(a',b',c') :: ys,h=>by
  simp only [eeqs,Bool.and_eq_true] at h
  rw [Nat.eq_of_beq_eq_true h.1.1.1,veq_eq _ _ h.1.1.2,peq_eq _ _ h.1.2,Zql xs ys h.2]
def neqs:List Nat→List Nat→Bool
 | [],[]=>true
 | x :: xs,y :: ys=>Nat.beq x y && neqs xs ys
 | _,_=>false
theorem Zqm:∀(xs ys:List Nat),neqs xs ys=true→xs=ys
 | [],[],_=>rfl
 | [],_ :: _,h=>by simp [neqs] at h
 | _ :: _,[],h=>by simp [neqs] at h
 | x :: xs,y :: ys,h=>by
  simp only [neqs,Bool.and_eq_true] at h
  rw [Nat.eq_of_beq_eq_true h.1,Zqm xs ys h.2]
def beqB:Blk→Blk→Bool
 | .cells cs,.cells ds=>peqs cs ds
 | .far cs,.far ds=>peqs cs ds
 | .buf s t xs sh,.buf s' t' ys sh'=>Nat.beq s s' && Nat.beq t t' && peqss xs ys && (sh == sh')
 | .map es c,.map es' c'=>eeqs es es' && Nat.beq c c'
 | .iter (some m) a s l,.iter (some m') a' s' l'=>Nat.beq m m' && Nat.beq a a' && neqs s s' && Nat.beq l l'
 | _,_=>false
theorem Ztb {a b:Blk} (h:beqB a b=true):a=b:=by
 unfold beqB at h
 split at h
 ·rw [peqs_eq _ _ h]
 ·rw [peqs_eq _ _ h]
 ·simp only [Bool.and_eq_true,beq_iff_eq] at h
  rw [Nat.eq_of_beq_eq_true h.1.1.1,Nat.eq_of_beq_eq_true h.1.1.2,peqss_eq _ _ h.1.2,h.2]
 ·simp only [Bool.and_eq_true] at h
  rw [Zql _ _ h.1,Nat.eq_of_beq_eq_true h.2]
 ·simp only [Bool.and_eq_true] at h
  rw [Nat.eq_of_beq_eq_true h.1.1.1,Nat.eq_of_beq_eq_true h.1.1.2,Zqm _ _ h.1.2,Nat.eq_of_beq_eq_true h.2]
 ·cases h
def heqs:List Blk→List Blk→Bool
 | [],[]=>true
 | x :: xs,y :: ys=>beqB x y && heqs xs ys
 | _,_=>false
theorem Zqn:∀(xs ys:List Blk),heqs xs ys=true→xs=ys
 | [],[],_=>rfl
 | [],_ :: _,h=>by simp [heqs] at h
 | _ :: _,[],h=>by simp [heqs] at h
 | x :: xs,y :: ys,h=>by
  simp only [heqs,Bool.and_eq_true] at h
  rw [Ztb h.1,Zqn xs ys h.2]
def memsOf (ops:Array Oper):List Nat:=(List.range (kOf ops)).filter fun i=>match ops[i]? with | some o=>isMem o && !isLook o | none=>false
def freePair (ops:Array Oper):List Nat→Option (Nat × Nat)
 | x :: y :: l=>match ops[x]?,ops[y]? with
  | some a,some b=>if (bindsOn b).contains x || (bindsOn a).contains y then freePair ops (y :: l) else some (x,y)
  | _,_=>none
 | _=>none
def memsU (ops:Array Oper):List Nat:=(memsOf ops).filter fun i=>match ops[i]? with | some o=>!isUser o | none=>false
def pairOf (ops:Array Oper):Option (Nat × Nat):=match freePair ops (memsU ops) with
 | some r=>some r
 | none=>freePair ops (memsOf ops)
def drE (P:Program) (G:Glob) (E:Eval) (nt:Nat):Nat→Array Oper→Tr→List Blk→Option (Tr × List Blk)
 | 0,ops,t,H=>drx P G E nt ops t H
 | f + 1,ops,t,H=>match drx P G E nt ops t H with
  | some r=>some r
  | none=>match pairOf ops with
   | some (x,y)=>match Nat.beq x y with
    | true=>none
    | false=>match drE P G E nt f (addEdge ops x y) t H with
     | some (t1,H1)=>match drE P G E nt f (addEdge ops y x) t H with
      | some (t2,H2)=>match teq t1 t2 && heqs H1 H2 with
       | true=>some (t1,H1)
       | false=>none
      | none=>none
     | none=>none
   | none=>none
theorem ADraw.drE (hE:E.ok P G) {Q:Exit→St→List Blk→Prop}:∀(f:Nat) (ops:Array Oper) (t t':Tr) (H H':List Blk),drE P G E nt f ops t H=some (t',H')→Q .normal t'.st H'→ADraw P G n0 nt ops Q t.st H
 | 0,_,_,_,_,_,h,hq=>ADraw.drx hE h hq
 | f + 1,ops,t,t',H,H',h,hq=>by
  unfold AM.drE at h
  split at h
  ·rename_i r hr
   simp only [Option.some.injEq] at h
   subst h
   exact ADraw.drx hE hr hq
  ·split at h
   ·rename_i x y _
    split at h
    ·cases h
    ·rename_i hxy
     split at h
     ·rename_i t1 H1 h1
      split at h
      ·rename_i t2 H2 h2
       split at h
       ·rename_i hc
        simp only [Bool.and_eq_true] at hc
        simp only [Option.some.injEq,Prod.mk.injEq] at h
        obtain⟨rfl,rfl⟩:=h
        have e1:=teq_eq hc.1
        have e2:=Zqn _ _ hc.2
        subst e1 e2
        exact ADraw.either x y hxy (ADraw.drE hE f _ _ _ _ _ h1 hq) (ADraw.drE hE f _ _ _ _ _ h2 hq)
       ·cases h
      ·cases h
     ·cases h
   ·cases h
theorem AWP.drE {id:Nat} (hE:E.ok P G) (hm:P.follows .mixedOrders=true) {f:Nat} {t t':Tr} {H':List Blk} (h:drE P G E nt f ops t H=some (t',H')) (hq:Q .normal t'.st H'):AWP P G n0 nt (.region id ops true) Q t.st H:=AWP.of_draw hm (ADraw.drE hE f ops t t' H H' h hq)
def slotsOf (rs:Array ResultVar):List Nat:=rs.toList.map fun r=>match r with
 | .tmp t=>t
 | .cell t _=>t
def Blk.top:Blk→Nat
 | .far cs=>PV.tops cs
 | .map es _=>PV.tops (es.map (·.2.2))
 | _=>0
def cloK (K:List Blk):Nat→Nat→Nat
 | 0,m=>max m K.length
 | f + 1,m=>match ((K.take m).map Blk.top).foldl max m with
  | m'=>if Nat.beq m' m then m else cloK K f m'
def finM (m0:Nat) (p:PV) (K:List Blk) (m:Nat):Option (PV × List Blk):=if p.ids (fun j=>Nat.blt j m) && Nat.ble m0 m && ((K.take m).all (Blk.farOk m) || Nat.ble K.length m) then some (p,K.take m) else none
def finx (P:Program) (rs:Array ResultVar) (m0:Nat) (t:Tr) (K:List Blk):Option (PV × List Blk):=match ares P (t.pick (slotsOf rs)) K rs with
 | some p=>finM m0 p K (cloK K 20 (max m0 p.top))
 | none=>none
def ofArgs:Nat→List PV→Tr
 | _,[]=>Tr.e
 | i,p :: ps=>Tr.put (ofArgs (i + 1) ps) p (path i)
theorem Zmu:∀(ps:List PV) (i:Nat),i + ps.length≤512→∀ x∈(ofArgs i ps).st,x∈numb i ps
 | [],i,_,x,hx=>by
  obtain⟨_,h⟩:=mem_st.1 hx
  simp [ofArgs,Tr.get_e] at h
 | p :: ps,i,hl,x,hx=>by
  simp only [List.length_cons] at hl
  rcases List.mem_cons.1 (Zg5 (by omega) x hx) with h | h
  ·rw [h]; simp [numb]
  ·have:=Zmu ps (i + 1) (by omega) x (List.mem_filter.1 h).1
   simp [numb,this]
def callx (P:Program) (X:Ev):Eval:=fun f args H=>match P.funcs[f]? with
 | none=>none
 | some fn=>match fn.body with
  | none=>none
  | some code=>match !(fn.name == "runtime.NumGoroutine") && Nat.ble args.length fn.ntmps && Nat.ble args.length 512 with
   | true=>match X H.length fn.ntmps code (ofArgs 0 args) H with
    | some (.ret,st,K)=>finx P fn.results H.length st K
    | some (.normal,st,K)=>finx P fn.results H.length st K
    | _=>none
   | false=>none
abbrev Tab:=List (Nat × List PV × PV)
def Tab.ok (P:Program) (G:Glob) (T:Tab):Prop:=∀ x∈T,ACall P G x.1 x.2.1 [] (fun q K=>q=x.2.2∧K=[])∧x.2.2.ids (fun _=>false)=true
def shareA:List PV→List Blk→Option (List PV × List Blk)
 | [],H=>some ([],H)
 | p :: ps,H=>match p with
  | .own i n=>match H[i]? with
   | some (.buf s t xs _)=>match Nat.beq n xs.length with
    | true=>match shareA ps (H.set i (.buf s t xs true)) with
     | some (qs,H')=>some (.sl s xs :: qs,H')
     | none=>none
    | false=>none
   | _=>none
  | p=>match p.ids (fun _=>false) with
   | true=>match shareA ps H with
    | some (qs,H')=>some (p :: qs,H')
    | none=>none
   | false=>none
theorem Zkm:∀(ps:List PV) (H:List Blk) (qs:List PV) (H':List Blk),shareA ps H=some (qs,H')→(∀ st c a w β,RelB G c β st H a w→∃ β',RelB G c β' st H' a w)∧(∀(i:Nat) s t xs,H[i]? = some (.buf s t xs true)→H'[i]? = some (.buf s t xs true))∧Wks H' false ps qs∧PV.idss (fun _=>false) qs=true
 | [],H,qs,H',h=>by
  simp only [shareA,Option.some.injEq,Prod.mk.injEq] at h
  obtain⟨rfl,rfl⟩:=h
  exact⟨fun _ _ _ _ β hr=>⟨β,hr⟩,fun _ _ _ _ h=>h,.nil,rfl⟩
 | p :: ps,H,qs,H',h=>by
  unfold shareA at h
  split at h
  ·rename_i i n
   split at h
   ·rename_i s t xs sh hb
    have hil:=(List.getElem?_eq_some_iff.1 hb).1
    split at h
    ·rename_i hn
     have hn:=Nat.eq_of_beq_eq_true hn
     subst hn
     split at h
     ·rename_i qs' K hq
      simp only [Option.some.injEq,Prod.mk.injEq] at h
      obtain⟨rfl,rfl⟩:=h
      obtain⟨g1,g2,g3,g4⟩:=Zkm ps _ _ _ hq
      refine⟨fun st c a w β hr=>g1 st c a w β (hr.share hb),fun j s' t' xs' hj=>g2 j s' t' xs' ?_,.cons _ _ _ _ (.own i s t xs true (g2 i s t xs (by rw [List.getElem?_set_self hil])) (.inr rfl)) g3,by simp only [PV.idss,PV.ids,g4,Bool.and_self]⟩
      by_cases hji:j=i
      ·subst hji; rw [List.getElem?_set_self hil]; rw [hb] at hj; simp at hj ⊢; obtain⟨rfl,rfl,rfl,_⟩:=hj; exact⟨rfl,rfl,rfl⟩
      ·rw [List.getElem?_set_ne (Ne.symm hji)]; exact hj
     ·cases h
    ·cases h
   ·cases h
  ·split at h
   ·rename_i hc
    split at h
    ·rename_i qs' K hq
     simp only [Option.some.injEq,Prod.mk.injEq] at h
     obtain⟨rfl,rfl⟩:=h
     obtain⟨g1,g2,g3,g4⟩:=Zkm ps _ _ _ hq
     exact⟨g1,g2,.cons _ _ _ _ (.refl _) g3,by simp only [PV.idss,hc,g4,Bool.and_self]⟩
    ·cases h
   ·cases h
def findT (f:Nat) (args:List PV):Tab→Option PV
 | []=>none
 | x :: T=>match Nat.beq x.1 f with
  | true=>match peqs x.2.1 args with
   | true=>some x.2.2
   | false=>findT f args T
  | false=>findT f args T
theorem Zkn {f:Nat} {args:List PV} {q:PV}:∀(T:Tab),findT f args T=some q→(f,args,q)∈T
 | [],h=>by simp [findT] at h
 | (g,bs,r) :: T,h=>by
  unfold findT at h
  split at h
  ·rename_i hf
   split at h
   ·rename_i ha
    simp only [Option.some.injEq] at h
    have h1:=Nat.eq_of_beq_eq_true hf
    have h2:=peqs_eq _ _ ha
    simp only at h1 h2
    rw [← h,h1,h2]; simp
   ·exact List.mem_cons_of_mem _ (Zkn T h)
  ·exact List.mem_cons_of_mem _ (Zkn T h)
def hasT (f:Nat):Tab→Bool
 | []=>false
 | x :: T=>match Nat.beq x.1 f with
  | true=>true
  | false=>hasT f T
def plainFn (P:Program) (f:Nat):Bool:=match P.funcs[f]? with
 | some fn=>!fn.body.isNone && !(fn.name == "runtime.NumGoroutine")
 | none=>false
def tabx (P:Program) (T:Tab) (E:Eval):Eval:=fun f args H=>match clonex P f args H with
 | some r=>some r
 | none=>match hasT f T with
 | true=>match shareA args H with
  | some (qs,H')=>match findT f qs T with
   | some q=>match plainFn P f with
    | true=>some (q,H')
    | false=>E f args H
   | none=>E f args H
  | none=>E f args H
 | false=>E f args H
theorem Ztc {T:Tab} (hT:T.ok P G) {E:Eval} (hE:E.ok P G):(tabx P T E).ok P G:=by
 intro f args H p H' h
 unfold tabx at h
 split at h
 ·rename_i r hr
  simp only [Option.some.injEq] at h
  subst h
  exact Zrl hr
 split at h
 ·split at h
  ·rename_i qs K hs
   split at h
   ·rename_i q hq
    split at h
    ·rename_i hp
     simp only [Option.some.injEq,Prod.mk.injEq] at h
     obtain⟨rfl,rfl⟩:=h
     obtain⟨g1,_,g3,g4⟩:=Zkm (G:=G) _ _ _ _ hs
     obtain⟨k1,k2⟩:=hT _ (Zkn T hq)
     unfold plainFn at hp
     split at hp
     ·rename_i fn hfn
      simp only [Bool.and_eq_true,Bool.not_eq_true'] at hp
      exact .known fn qs hfn hp.1 hp.2 g1 g3 g4 k2 k1
     ·cases hp
    ·exact hE _ _ _ _ _ h
   ·exact hE _ _ _ _ _ h
  ·exact hE _ _ _ _ _ h
 ·exact hE _ _ _ _ _ h
def condSt (t:Tr):Operand→St
 | .tmp k=>t.pick [k]
 | _=>[]
theorem Zmv {t:Tr} {c:Operand} {p:PV} (h:opd G (condSt t c) c=some p):opd G t.st c=some p:=by
 cases c with
 | tmp k=>exact Zlx h
 | _=>exact h
def execS (P:Program) (G:Glob) (T:Tab) (X:Ev):Ev:=fun n0 nt code st H=>match code with
 | .skip=>some (.normal,st,H)
 | .region _ ops draw=>match draw with
  | false=>match sqx P G (tabx P T (callx P X)) nt ops (List.range ops.size) st H with
   | some (st',H')=>some (.normal,st',H')
   | none=>none
  | true=>if P.follows .mixedOrders then match drE P G (tabx P T (callx P X)) nt 6 ops st H with
    | some (st',H')=>some (.normal,st',H')
    | none=>none
   else none
 | .seq x y=>match X n0 nt x st H with
  | some (.normal,st',H')=>X n0 nt y st' H'
  | r=>r
 | .cond c t e=>match opd G (condSt st c) c with
  | some (.sc (.bool true))=>X n0 nt t st H
  | some (.sc (.bool false))=>X n0 nt e st H
  | _=>none
 | .block id x=>match X n0 nt x st H with
  | some (.exit j,st',H')=>match Nat.beq j id with
   | true=>some (.normal,st',H')
   | false=>some (.exit j,st',H')
  | r=>r
 | .loop x=>match X n0 nt x st H with
  | some (.normal,st',H')=>X n0 nt (.loop x) st' H'
  | r=>r
 | .exit id=>some (.exit id,st,H)
 | .ret=>some (.ret,st,H)
 | _=>none
def exec (P:Program) (G:Glob) (T:Tab):Nat→Ev
 | 0=>fun _ _ _ _ _=>none
 | n + 1=>execS P G T (exec P G T n)
def Ev.ok (P:Program) (G:Glob) (X:Ev):Prop:=∀ n0 nt code st H e st' H',X n0 nt code st H=some (e,st',H')→AWP P G n0 nt code (fun e1 s1 h1=>e1=e∧s1=st'.st∧h1=H') st.st H
theorem Zqo {rs:Array ResultVar} {m0:Nat} {t:Tr} {K:List Blk} {p:PV} {H':List Blk} {e:Exit} (he:e=.normal∨e=.ret) (h:finx P rs m0 t K=some (p,H')):LeQ G n0 nt (InQ P rs m0 p H') e t.st K:=by
 refine⟨t.pick (slotsOf rs),K,fun c a w β _ _ hr=>⟨β,hr.sub pick_sub⟩,?_⟩
 unfold finx at h
 split at h
 ·rename_i q hq
  generalize cloK K 20 (max m0 q.top)=mm at h
  unfold finM at h
  split at h
  ·rename_i hc
   simp only [Option.some.injEq,Prod.mk.injEq] at h
   obtain⟨rfl,rfl⟩:=h
   simp only [Bool.and_eq_true,Bool.or_eq_true] at hc
   refine⟨he,hq,_,Nat.le_of_ble_eq_true hc.1.2,?_,hc.2.imp id Nat.le_of_ble_eq_true,rfl⟩
   exact PV.ids_mono (fun j hj=>(by have hj':Nat.ble (j + 1) mm=true:=hj; have:=Nat.le_of_ble_eq_true hj'; simp only [decide_eq_true_eq]; omega)) _ hc.1.1
  ·cases h
 ·cases h
theorem Zob {X:Ev} (hX:X.ok P G) {f:FuncId} {args:List PV} {H:List Blk} {p:PV} {H':List Blk} (h:callx P X f args H=some (p,H')):∃ fn code,P.funcs[f]? = some fn∧fn.body=some code∧(fn.name == "runtime.NumGoroutine")=false∧args.length≤fn.ntmps∧AWP P G H.length fn.ntmps code (InQ P fn.results H.length p H') (numb 0 args) H:=by
 unfold callx at h
 split at h
 ·cases h
 ·rename_i fn hfn
  split at h
  ·cases h
  ·rename_i code hb
   split at h
   ·rename_i hc
    simp only [Bool.and_eq_true,Bool.not_eq_true'] at hc
    refine⟨fn,code,hfn,hb,hc.1.1,Nat.le_of_ble_eq_true hc.1.2,AWP.sub (Zmu args 0 (by have:=Nat.le_of_ble_eq_true hc.2; omega)) (AWP.mid _ ?_ fun _ _ _ h=>h)⟩
    split at h
    ·rename_i st K hx
     exact(hX _ _ _ _ _ _ _ _ hx).mono fun e s k ⟨h1,h2,h3⟩=>by subst h1 h2 h3; exact Zqo (.inr rfl) h
    ·rename_i st K hx
     exact(hX _ _ _ _ _ _ _ _ hx).mono fun e s k ⟨h1,h2,h3⟩=>by subst h1 h2 h3; exact Zqo (.inl rfl) h
    ·cases h
   ·cases h
theorem Zsk {X:Ev} (hX:X.ok P G):(callx P X).ok P G:=fun f args H p H' h=>by
 obtain⟨fn,code,h1,h2,h3,h4,h5⟩:=Zob hX h
 exact .run fn code h1 h2 h3 h4 h5
theorem Zqp {T:Tab} (hT:T.ok P G):∀(N m:Nat),m≤N→(exec P G T m).ok P G
 | N,0,_=>fun _ _ _ _ _ _ _ _ h=>by simp [exec] at h
 | 0,m + 1,hm=>absurd hm (by omega)
 | N + 1,m + 1,hm=>by
  have ih:∀ m',m'≤m→(exec P G T m').ok P G:=fun m' h'=>Zqp hT N m' (by omega)
  have hX:=ih m (Nat.le_refl _)
  have hE:=Ztc hT (Zsk hX)
  intro n0 nt code st H e st' H' h
  simp only [exec] at h
  unfold execS at h
  split at h
  ·simp only [Option.some.injEq,Prod.mk.injEq] at h
   obtain⟨rfl,rfl,rfl⟩:=h
   exact AWP.skip ⟨rfl,rfl,rfl⟩
  ·split at h
   ·split at h
    ·rename_i s1 h1 hs
     simp only [Option.some.injEq,Prod.mk.injEq] at h
     obtain⟨rfl,rfl,rfl⟩:=h
     exact AWP.region rfl (AOps.sqx hE _ _ _ _ _ hs ⟨rfl,rfl,rfl⟩)
    ·cases h
   ·split at h
    ·rename_i hm
     split at h
     ·rename_i s1 h1 hs
      simp only [Option.some.injEq,Prod.mk.injEq] at h
      obtain⟨rfl,rfl,rfl⟩:=h
      exact AWP.drE hE hm hs ⟨rfl,rfl,rfl⟩
     ·cases h
    ·cases h
  ·rename_i x y
   refine AWP.seq ?_
   split at h
   ·rename_i s1 h1 hx
    refine(hX _ _ _ _ _ _ _ _ hx).mono fun e1 s k ⟨g1,g2,g3⟩=>?_
    subst g1 g2 g3
    exact hX _ _ _ _ _ _ _ _ h
   ·rename_i r hne
    refine(hX _ _ _ _ _ _ _ _ h).mono fun e1 s k ⟨g1,g2,g3⟩=>?_
    subst g1 g2 g3
    cases e1 with
    | normal=>exact absurd h (hne _ _)
    | _=>exact⟨rfl,rfl,rfl⟩
  ·rename_i c t e'
   split at h
   ·rename_i hc; exact AWP.cT (hX _ _ _ _ _ _ _ _ h) (Zmv hc)
   ·rename_i hc; exact AWP.cF (hX _ _ _ _ _ _ _ _ h) (Zmv hc)
   ·cases h
  ·rename_i id x
   refine AWP.block ?_
   split at h
   ·rename_i j s1 h1 hx
    refine(hX _ _ _ _ _ _ _ _ hx).mono fun e1 s k ⟨g1,g2,g3⟩=>?_
    subst g1 g2 g3
    simp only [blockQ]
    split at h
    ·rename_i hb
     simp only [Option.some.injEq,Prod.mk.injEq] at h
     obtain⟨rfl,rfl,rfl⟩:=h
     rw [hb]; exact⟨rfl,rfl,rfl⟩
    ·rename_i hb
     simp only [Option.some.injEq,Prod.mk.injEq] at h
     obtain⟨rfl,rfl,rfl⟩:=h
     rw [hb]; exact⟨rfl,rfl,rfl⟩
   ·rename_i r hne
    refine(hX _ _ _ _ _ _ _ _ h).mono fun e1 s k ⟨g1,g2,g3⟩=>?_
    subst g1 g2 g3
    cases e1 with
    | exit j=>exact absurd h (hne _ _ _)
    | _=>exact⟨rfl,rfl,rfl⟩
  ·rename_i x
   refine AWP.loop (fun n s k=>n≤m + 1∧∃ t:Tr,s=t.st∧exec P G T n n0 nt (.loop x) t k=some (e,st',H')) (m + 1) ⟨Nat.le_refl _,st,rfl,by simp only [exec]; unfold execS; exact h⟩ ?_
   intro n s k ⟨hn,t,hs,hx⟩
   subst hs
   cases n with
   | zero=>simp [exec] at hx
   | succ n=>
    simp only [exec] at hx
    unfold execS at hx
    simp only [] at hx
    split at hx
    ·rename_i s1 h1 hb
     refine(ih n (by omega) _ _ _ _ _ _ _ _ hb).mono fun e1 s k ⟨g1,g2,g3⟩=>?_
     subst g1 g2 g3
     exact⟨n,by omega,by omega,_,rfl,hx⟩
    ·rename_i r hne
     refine(ih n (by omega) _ _ _ _ _ _ _ _ hx).mono fun e1 s k ⟨g1,g2,g3⟩=>?_
     subst g1 g2 g3
     cases e1 with
     | normal=>exact absurd hx (hne _ _)
     | _=>exact⟨rfl,rfl,rfl⟩
  ·simp only [Option.some.injEq,Prod.mk.injEq] at h
   obtain⟨rfl,rfl,rfl⟩:=h
   exact AWP.exit ⟨rfl,rfl,rfl⟩
  ·simp only [Option.some.injEq,Prod.mk.injEq] at h
   obtain⟨rfl,rfl,rfl⟩:=h
   exact AWP.ret ⟨rfl,rfl,rfl⟩
  ·cases h
def known (P:Program) (G:Glob) (T:Tab) (N:Nat) (f:FuncId) (args:List PV):Option PV:=match callx P (exec P G T N) f args [] with
 | some (p,K)=>pureOf K p
 | none=>none
theorem ACall.exec {f:FuncId} {args:List PV} {p:PV} {T:Tab} (hT:T.ok P G) (N:Nat) (h:known P G T N f args=some p):ACall P G f args [] (fun q K=>q=p∧K=[])∧p.ids (fun _=>false)=true:=by
 unfold known at h
 split at h
 ·rename_i q K hc
  refine⟨?_,(Zgg (Sub.refl K) h).2⟩
  obtain⟨fn,code,h1,h2,h3,h4,h5⟩:=Zob (Zqp hT N N (Nat.le_refl _)) hc
  refine ACall.of_AWP h1 h2 h4 (h5.mono fun e s k ⟨g1,g2,m,g3,g4,_,g5⟩=>?_)
  subst g5
  obtain⟨k1,k2⟩:=Zgg (Zo4 k m) h
  exact⟨g1,q,p,0,g2,k1,Nat.le_refl _,Nat.zero_le _,PV.ids_mono (fun j hj=>by cases hj) _ k2,by simp,rfl,by simp⟩
 ·cases h
theorem Tab.nil:Tab.ok P G []:=fun _ h=>by cases h
theorem Tab.cons {f:FuncId} {args:List PV} {p:PV} {T:Tab} (hT:T.ok P G) (N:Nat) (h:known P G T N f args=some p):Tab.ok P G ((f,args,p) :: T):=fun x hx=>by
 rcases List.mem_cons.1 hx with rfl | hx
 ·exact ACall.exec hT N h
 ·exact hT x hx
end
end Go.AM
namespace Go.AM
section
variable {P:Program} {G:Glob} {n0 nt:Nat} {ops:Array Oper} {st:St} {H:List Blk} {E:Eval}
abbrev LP:=List (Exit × Tr × List Blk) × List (PV × PV)
abbrev EvL:=Nat→Nat→Code→Tr→List Blk→Option LP
def EvL.ok (P:Program) (G:Glob) (X:EvL):Prop:=∀ n0 nt code st H l,X n0 nt code st H=some l→(∀ x∈l.2,x.1=x.2)→AWP P G n0 nt code (fun e1 s1 h1=>∃ r∈l.1,e1=r.1∧s1=r.2.1.st∧h1=r.2.2) st.st H
end
end Go.AM
namespace Go.AM
section
variable {P:Program} {G:Glob} {n0 nt:Nat} {o:Oper} {st:St} {H:List Blk}
end
end Go.AM
namespace Go.AM
section
variable {P:Program} {G:Glob} {n0 nt:Nat} {o:Oper} {st:St} {H:List Blk}
theorem OpT.exn {cl:Call} {f:FuncId} {fn:Func} {e:Array Value→Sem Value} {cs:List Value} {p:PV} (ho:o.op=.call cl) (hc:cl.callee=.value (.func f)) (hfn:P.funcs[f]? = some fn) (hname:(fn.name == "runtime.NumGoroutine")=false)
  (hb:fn.body.isNone=true) (hn:Extern.findNext fn=none) (he:Extern.find fn=some e) (hargs:cl.args.toList.map (opd G st)=(cs.map PV.sc).map some)
  (hrun:∀ w,∃ v,(e cs.toArray).run P w=.ok v w∧∀ S β,VR S β w p v):OpT P G n0 o st H p H:=
 OpT.value fun c a w β h0 hr=>by
  have h1:=VRs.scs_iff _ _ (VRs.of_opds hr cl.args.toList _ hargs)
  have h2:cl.args.map a.eval=cs.toArray:=by
   apply Array.toList_inj.1
   simpa using h1
  obtain⟨v,h3,h4⟩:=hrun w
  refine⟨v,?_,h4 _ _⟩
  have h5:=run_callFunc_extern hfn hname hb hn he cs.toArray w
  rw [h3] at h5
  have hfe:a.eval (.func f)=.func (.func f) #[] #[]:=rfl
  simp [execOp,ho,resolve,hc,hfe,Deferred.ofValue,invoke,h2,h5]
def Hnd.ext {f:FuncId} {fn:Func} {e:Array Value→Sem Value} {cs:List Value} {p:PV} (hrun:∀(P:Program) w,∃ v,(e cs.toArray).run P w=.ok v w∧∀ S β,VR S β w p v)
  (hfn:P.funcs[f]? = some fn) (hname:(fn.name == "runtime.NumGoroutine")=false) (hb:fn.body.isNone=true) (hn:Extern.findNext fn=none) (he:Extern.find fn=some e):Hnd P G where
 run o st H:=match o.op with
  | .call cl=>match cl.callee with
   | .value (.func g)=>match opdL G st cl.args.toList with
    | some ps=>if Nat.beq g f then some ⟨p,H,[.ps ps],[.ps (cs.map PV.sc)]⟩ else none
    | none=>none
   | _=>none
  | _=>none
 sound:=by
  intro n0 o st H x h he'
  suffices hT:OpT P G n0 o st H x.p x.H from hT.weak
  split at h
  ·rename_i cl ho
   split at h
   ·rename_i g hc
    split at h
    ·rename_i ps hps
     split at h
     ·rename_i hg
      have hg:=Nat.eq_of_beq_eq_true hg
      subst hg
      simp only [Option.some.injEq] at h
      subst h
      simp only [List.cons.injEq,T.ps.injEq,and_true] at he'
      subst he'
      exact OpT.exn ho hc hfn hname hb hn he (Zcx _ _ hps) (hrun P)
     ·cases h
    ·cases h
   ·cases h
  ·cases h
end
end Go.AM
namespace Go.AM
section
variable {P:Program} {G:Glob} {c:Ctx} {β:List Bnd} {st:St} {H:List Blk} {a:Act} {w:World} {n0 nt:Nat} {o:Oper}
theorem VR.closed {S S':Nat→Nat→Prop} {w':World} {β':List Bnd} (hx:Ext S w S' w') {p:PV} {u:Value} (hp:p.ids (fun _=>false)=true) (h:VR S β w p u):VR S' β' w' p u:=
 VR.ext hx (q:=fun _=>false) (fun i e hq _=>by cases hq) p u hp h
theorem VRs.closed {S S':Nat→Nat→Prop} {w':World} {β':List Bnd} (hx:Ext S w S' w') {ps:List PV} {us:List Value} (hp:PV.idss (fun _=>false) ps=true) (h:VRs S β w ps us):VRs S' β' w' ps us:=
 VRs.ext hx (q:=fun _=>false) (fun i e hq _=>by cases hq) ps us hp h
theorem RelB.callB (h:RelB G c β st H a w) {i s t:Nat} {xs ys:List (List PV)} {e:Bnd} (he:β[i]? = some e) (hb:H[i]? = some (.buf s t xs false)) (hne:xs ≠ []) (hlen:ys.length=xs.length) (hys:∀ y∈ys,y.length=s) :
  ∃(g cap:Nat) (sp:List Value),xs.length≤cap∧e.v=.slice (some ⟨g,0,none⟩) xs.length cap∧InOk G (stab c β H w) [⟨g,undef,0,0⟩] [.cells (xs.flatten++sp.map .sc)] w ∧
   ∀ γ w',OutOk (stab c β H w) [⟨g,undef,0,0⟩] γ [.cells (ys.flatten++sp.map .sc)] w w' →
    γ=[]∧RelB G c (β.set i ⟨e.b,e.v,ys.length,s⟩) st (H.set i (.buf s t ys false)) a w' ∧
    Ext (stab c β H w) w (stab c (β.set i ⟨e.b,e.v,ys.length,s⟩) (H.set i (.buf s t ys false)) w') w'∧BExt (fun _=>true) β (β.set i ⟨e.b,e.v,ys.length,s⟩) ∧
    Ext (stab1 (stab c β H w) γ w w') w' (stab c (β.set i ⟨e.b,e.v,ys.length,s⟩) (H.set i (.buf s t ys false)) w') w':=by
 obtain⟨q1,q2,q3,vals0,⟨q4,q4'⟩,q5⟩:=h.blk i e _ he hb
 rcases q4' with ⟨_,q6⟩ | ⟨g,cap,cur,e1,e2,e3,e4,e5,e6,e7⟩
 ·exact absurd (List.eq_nil_of_length_eq_zero q6) hne
 have hg:e.v.ownBlock=some g:=by rw [e1]; rfl
 have hn0:c.β0.length≤i:=by
  rcases Nat.lt_or_ge i c.β0.length with hlt | hge
  ·obtain⟨cs,hc,hcf⟩:=h.cel i hlt
   rw [hb] at hc; cases hc; cases hcf
  ·exact hge
 obtain⟨hg0,hgl⟩:=h.loc i e _ g hn0 he hb hg
 have hgs:∀ b hi,stab c β H w b hi→g ≠ b:=fun b hi hs=>by
  rcases hs with hs | ⟨_,_,h3⟩
  ·have:=(h.ok.old b hi hs).1; omega
  ·intro hgb
   have:=(h3 i e _ he hb (by rw [hg,hgb])).1
   cases this
 have hfl:xs.flatten.length=xs.length * s:=Zd7 xs q3
 have hfy:ys.flatten.length=ys.length * s:=Zd7 ys hys
 let sp:=cur.toList.drop (xs.length * s)
 have hcur:cur.toList=vals0++sp:=by rw [← e7]; exact(List.take_append_drop _ _).symm
 have hidx:PV.idss (fun _=>false) xs.flatten=true:=by
  have:=VRs.idsLt _ _ q5
  refine PV.idss_mono (fun j hj=>?_) _ this
  simp at hj
 refine⟨g,cap,sp,e4,e1,⟨⟨fun b hi hs=>⟨Zf5 h hs,fun f hf=>?_⟩,fun gl cs hgl'=>?_,fun f hf=>?_,fun b hi hi' h1 h2=>h.ok.stab h1 h2⟩,rfl,fun j f k hj hk=>?_,fun j k f f' hjk hf hf'=>?_⟩,fun γ w' ho=>?_⟩
 ·simp only [List.mem_singleton] at hf; subst hf; exact hgs b hi hs
 ·obtain⟨h1,h2⟩:=h.ok.glob gl cs hgl'
  exact⟨h.ext0.stab _ _ h1,VRow.ext h.ext0 (BExt.refl _ _) gl cs.length h1 cs 0 (by omega) (PV.idss_true cs) h2⟩
 ·simp only [List.mem_singleton] at hf; subst hf; exact hgl
 ·cases j with
  | succ j=>simp at hj
  | zero=>
   simp at hj hk; subst hj hk
   refine⟨rfl,?_,cur,t,e3,?_⟩
   ·rw [PV.idss_append,Zi8,Bool.and_true]
    exact PV.idss_mono (fun _ hf=>by cases hf) _ hidx
   ·rw [hcur]
    exact VRs.append _ _ _ _ (VRs.closed (Ext.refl _ _) hidx q5) (VRs.scs sp)
 ·cases j with
  | succ j=>simp at hf
  | zero=>cases k with
   | zero=>exact absurd rfl hjk
   | succ k=>simp at hf'
 ·have hγ:γ=[]:=by
   have:=ho.len
   simp at this
   exact this
  subst hγ
  obtain⟨_,hid,vs,t',k2,k3⟩:=ho.blk 0 ⟨g,undef,0,0⟩ _ rfl rfl
  obtain⟨vs1,k4⟩:=ho.frm.typ g cur t e3
  obtain⟨_,rfl⟩:=Zi6 k2 k4
  have hvl:=VRs.length _ _ k3
  have k5:=VRs.take ys.flatten.length _ _ k3
  have k6:=VRs.drop ys.flatten.length _ _ k3
  rw [List.take_left] at k5
  rw [List.drop_left] at k6
  have hspl:sp.length=cap * s - xs.length * s:=by simp only [sp,List.length_drop,Array.length_toList,e6]
  have hmul:xs.length * s≤cap * s:=Nat.mul_le_mul_right s e4
  have hvsz:vs.size=cap * s:=by
   simp only [List.length_append,List.length_map,Array.length_toList] at hvl
   rw [hvl,hfy,hspl,hlen]; omega
  have hidy:PV.idss (fun _=>false) ys.flatten=true:=by
   rw [PV.idss_append,Bool.and_eq_true] at hid
   refine PV.idss_mono (fun j hj=>?_) _ hid.1
   simp at hj
  have hst:∀(β':List Bnd) (H':List Blk),(∀(j:Nat) f k,β'[j]? = some f→H'[j]? = some k→(j ≠ i∧β[j]? = some f∧H[j]? = some k)∨(j=i∧f.v=e.v∧∃ s' t' xs' ,k=.buf s' t' xs' false)) →
    Ext (stab c β H w) w (stab c β' H' w') w'→Ext (stab1 (stab c β H w) [] w w') w' (stab c β' H' w') w':=fun β' H' hk hx=>by
   refine⟨fun b hi hs=>?_,fun _ _ _ _ _ _ h=>h⟩
   rcases hs with hs | ⟨h1,h2,_⟩
   ·exact hx.stab b hi hs
   ·refine .inr ⟨Nat.le_trans h.frm.size h1,h2,fun j f k hj hj'=>?_⟩
    rcases hk j f k hj hj' with ⟨_,g1,g2⟩ | ⟨rfl,g1,s',t',xs',rfl⟩
    ·cases k with
     | cells cs=>exact fun hb'=>by have:=at_lt (h.blk j f _ g1 g2) (b:=b) (by simp [Blk.at,hb']); omega
     | map es cl=>exact fun hb'=>by have:=at_lt (h.blk j f _ g1 g2) (b:=b) (by simp [Blk.at,hb']); omega
     | far cs=>exact fun hb'=>by have:=at_lt (h.blk j f _ g1 g2) (b:=b) (by simp [Blk.at,hb']); omega
     | dead=>trivial
     | fm l=>exact fun hb'=>by have:=at_lt (h.blk j f _ g1 g2) (b:=b) (by simp [Blk.at,hb']); omega
     | iter m since seen last=>exact fun hb'=>by have:=at_lt (h.blk j f _ g1 g2) (b:=b) (by simp [Blk.at,hb']); omega
     | buf s' t' xs' sh=>exact fun hb'=>by have:=at_lt (h.blk j f _ g1 g2) (b:=b) hb'; omega
    ·intro hb'
     rw [g1,hg] at hb'
     cases hb'; omega
  have hkey:∀(j:Nat) f k,(β.set i ⟨e.b,e.v,ys.length,s⟩)[j]? = some f→(H.set i (.buf s t ys false))[j]? = some k→(j ≠ i∧β[j]? = some f∧H[j]? = some k)∨(j=i∧f.v=e.v∧∃ s' t' xs' ,k=.buf s' t' xs' false):=fun j f k hf hk=>by
   rcases get_set hf with ⟨hji,hf⟩ | ⟨rfl,rfl⟩
   ·rcases get_set hk with ⟨_,hk⟩ | ⟨e,_⟩
    ·exact .inl ⟨hji,hf,hk⟩
    ·exact absurd e hji
   ·rcases get_set hk with ⟨e,_⟩ | ⟨_,rfl⟩
    ·exact absurd rfl e
    ·exact .inr ⟨rfl,rfl,s,t,ys,rfl⟩
  have hre:=h.rebuf' he hb (w':=w') (v':=e.v) (xs':=ys) (vals:=vs.toList.take ys.flatten.length) ho.frm.os ho.frm.tape ho.frm.output ho.frm.drawn ho.frm.size
   (fun b hlt hne'=>ho.frm.block b hlt fun f hf=>by simp only [List.mem_singleton] at hf; subst hf; exact fun hgb=>hne' (by rw [hg]; exact congrArg some hgb))
   (by omega) (fun _=>rfl) (fun h=>by cases h)
   ⟨by rw [List.length_take,hfy,show vs.toList.length=cap * s by simpa using hvsz,hlen]; omega,.inr ⟨g,cap,vs,by rw [hlen]; exact e1,e2,k2,by omega,e5,hvsz,by rw [hfy]⟩⟩
   (fun g' hg'=>.inl hg') hys
   (fun hx=>VRs.closed (hst _ _ hkey hx) hidy k5)
  exact⟨rfl,hre.1,hre.2.1,hre.2.2,hst _ _ hkey hre.2.1⟩
theorem OpT.callB {cl:Call} {x:Operand} {f:FuncId} {fn:Func} {i s t:Nat} {xs ys:List (List PV)} {rest:List PV} {p:PV}
  (ho:o.op=.call cl) (hc:cl.callee=.value x) (hx:opd G st x=some (.sc (.func (.func f) #[] #[])))
  (hfn:P.funcs[f]? = some fn) (hbody:fn.body.isNone=false) (hname:(fn.name == "runtime.NumGoroutine")=false)
  (hargs:cl.args.toList.map (opd G st)=(.own i xs.length :: rest).map some) (hrest:PV.idss (fun _=>false) rest=true) (hb:H[i]? = some (.buf s t xs false)) (hne:xs ≠ [])
  (hlen:ys.length=xs.length) (hys:∀ y∈ys,y.length=s)
  (hcall:∀ sp:List Value,ACall P G f (.vw 0 0 xs.length :: rest) [.cells (xs.flatten++sp.map .sc)] (fun q K=>q=p∧K=[.cells (ys.flatten++sp.map .sc)])) (hp:p.ids (fun _=>false)=true) :
  OpT P G n0 o st H p (H.set i (.buf s t ys false)):=by
 intro c a w β h0 hr
 have hv:=VRs.of_opds hr cl.args.toList _ hargs
 have hlv:=VRs.length _ _ hv
 obtain⟨u,us,hus⟩:∃ u us,cl.args.toList.map a.eval=u :: us:=by
  cases hq:cl.args.toList.map a.eval with
  | nil=>rw [hq] at hlv; simp at hlv
  | cons u us=>exact⟨u,us,rfl⟩
 rw [hus] at hv
 simp only [VRs] at hv
 obtain⟨hv1,hv2⟩:=hv
 simp only [VR] at hv1
 obtain⟨_,e,he,_,hve⟩:=hv1
 obtain⟨q1,_⟩:=hr.blk i e _ he hb
 have hve:=hve q1.symm
 obtain⟨g,cap,sp,k1,k2,k3,k4⟩:=hr.callB he hb hne hlen hys
 have hxe:=hr.opd hx
 simp only [VR] at hxe
 have hex:(execOp a.eval o).run P w=.ok (.enter f (cl.args.map a.eval)) w:=by
  have hn:¬ fn.name= "runtime.NumGoroutine":=by simpa using hname
  have hb:¬ fn.body=none:=by cases hq:fn.body <;> simp [hq] at hbody ⊢
  simp [execOp,ho,resolve,hc,hxe,Deferred.ofValue,invoke,callFunc,hfn,hn,hb]
 simp only [wpv,hex]
 refine(hcall sp _ _ w (cl.args.map a.eval) k3 ?_).mono ?_
 ·have:(cl.args.map a.eval).toList=u :: us:=by simpa using hus
  rw [this]
  simp only [VRs]
  refine⟨?_,VRs.closed (Ext.refl _ _) hrest hv2⟩
  simp only [VR]
  exact⟨_,rfl,cap,_,k1,by rw [hve,k2],fun _=>rfl⟩
 ·rintro ex w' ⟨v,q,K,γ,rfl,⟨rfl,rfl⟩,hout,hvr⟩
  obtain⟨rfl,g1,g2,g3,g4⟩:=k4 γ w' hout
  exact⟨v,rfl,_,g1,VR.closed g4 hp hvr,g3,g2⟩
variable {α:Type}
def cel (row:α→List PV) (l:List α) (sp:List Value):List PV:=(l.map row).flatten++sp.map .sc
def Hnd.callB {f:FuncId} {fn:Func} (row:α→List PV) {s:Nat} {l l':List α} {rest:List PV} {p1:PV} (hfn:P.funcs[f]? = some fn) (hrow:∀ z,(row z).length=s) (hne:l ≠ []) (hlen:l'.length=l.length)
  (hc:∀ sp,ACall P G f (.vw 0 0 l.length :: rest) [.cells (cel row l sp)] (fun q K=>q=p1∧K=[.cells (cel row l' sp)])):Hnd P G where
 run o st H:=match o.op with
  | .call cl=>match cl.callee with
   | .value x=>match opd G st x,opdL G st cl.args.toList with
    | some px,some (.own i n :: rest')=>match H[i]? with
     | some (.buf s' t xs false)=>
      if fn.body.isNone=false∧(fn.name == "runtime.NumGoroutine")=false∧PV.idss (fun _=>false) rest=true∧p1.ids (fun _=>false)=true∧Nat.beq s s'=true then
       some ⟨p1,H.set i (.buf s' t (l'.map row) false),[.p px,.n n,.ps rest',.rs xs],[.p (.sc (.func (.func f) #[] #[])),.n l.length,.ps rest,.rs (l.map row)]⟩
      else none
     | _=>none
    | _,_=>none
   | _=>none
  | _=>none
 sound:=by
  intro n0 o st H x h he
  suffices hT:OpT P G n0 o st H x.p x.H from hT.weak
  split at h
  ·rename_i cl ho
   split at h
   ·rename_i x hcl
    split at h
    ·rename_i px i n rest' hx hps
     split at h
     ·rename_i s' t xs hb
      split at h
      ·rename_i hcond
       obtain⟨c1,c2,c3,c4,c5⟩:=hcond
       simp only [Option.some.injEq] at h
       subst h
       simp only [List.cons.injEq,T.p.injEq,T.ps.injEq,T.n.injEq,T.rs.injEq,and_true] at he
       obtain⟨rfl,rfl,rfl,rfl⟩:=he
       have c5:=Nat.eq_of_beq_eq_true c5
       subst c5
       have hl1:(l.map row).length=l.length:=List.length_map ..
       refine OpT.callB (xs:=l.map row) (ys:=l'.map row) ho hcl hx hfn c1 c2 (by rw [hl1]; exact Zcx _ _ hps) c3 hb (by simpa using hne) (by simpa using hlen) ?_ (fun sp=>?_) c4
       ·intro y hy
        obtain⟨z,_,rfl⟩:=List.mem_map.1 hy
        exact hrow z
       ·rw [hl1]; exact hc sp
      ·cases h
     ·cases h
    ·cases h
   ·cases h
  ·cases h
end
end Go.AM
namespace Go.AM
section
variable {P:Program} {G:Glob} {n0 nt:Nat} {o:Oper} {st:St} {H:List Blk}
def Hnd.q:Hnd P G where
 run o st H:=(quietx P G true st H o).map fun p=>⟨p,H,[],[]⟩
 sound:=by
  intro n0 o st H x h he
  simp only [Option.map_eq_some_iff] at h
  obtain⟨p,h1,rfl⟩:=h
  exact(OpT.of_quiet (Sub.refl H) h1).weak
variable {α:Type}
end
end Go.AM
namespace Go.AM
section
variable {P:Program} {G:Glob} {n0 nt:Nat} {o:Oper} {st:St} {H:List Blk}
def Hnd.m:Hnd P G where
 run o st H:=(memx P G #[] st H o).map fun r=>⟨r.1,r.2,[],[]⟩
 sound:=by
  intro n0 o st H x h he
  simp only [Option.map_eq_some_iff] at h
  obtain⟨p,h1,rfl⟩:=h
  exact(OpT.of_memx h1).weak
variable {α:Type}
end
end Go.AM
namespace Go.AM
section
variable {P:Program} {G:Glob} {n0 nt:Nat} {o:Oper} {st:St} {H:List Blk}
variable {α:Type}
end
end Go.AM
namespace Go.AM
section
variable {P:Program} {G:Glob} {n0 nt:Nat} {o:Oper} {st:St} {H:List Blk}
def Hnd.callF {f:FuncId} {fn:Func} {args0:List PV} {H0 H1:List Blk} {p1:PV} (hfn:P.funcs[f]? = some fn) (ws:List Ow) (hc:ACall P G f args0 H0 (fun q K=>q=p1∧K=H1)):Hnd P G where
 run o st H:=match o.op with
  | .call cl=>match cl.callee with
   | .value x=>match opd G st x,opdL G st cl.args.toList with
    | some (.fn f' caps),some ps=>match wkArgs P H false fn.params.toList ps ws with
     | some (qs,l,r)=>
      let σ:=ptrsOf (ps++caps)
      if fn.body.isNone=false∧(fn.name == "runtime.NumGoroutine")=false∧σ.Pairwise (·<·)∧H0.all Blk.isCells=true then
       some ⟨p1.ren (renId σ H.length),setAll σ (H1.map (Blk.ren (renId σ H.length))) H,.n f' :: .ps (qs++caps) :: .bs (H0.map (fun k=>some (k.ren (renId σ H.length)))) :: l,
        .n f :: .ps (PV.rens (renId σ H.length) args0) :: .bs (σ.map (H[·]?)) :: r⟩
      else none
     | _=>none
    | _,_=>none
   | _=>none
  | _=>none
 sound:=by
  intro n0 o st H x h he
  suffices hT:OpT P G n0 o st H x.p x.H from hT.weak
  split at h
  ·rename_i cl ho
   split at h
   ·rename_i x hcl
    split at h
    ·rename_i f' caps ps hx hps
     split at h
     ·rename_i qs l r hw
      simp only [] at h
      split at h
      ·rename_i hcond
       obtain⟨c1,c2,c3,c4⟩:=hcond
       simp only [Option.some.injEq] at h
       subst h
       simp only [List.cons.injEq,T.n.injEq,T.ps.injEq,T.bs.injEq] at he
       obtain⟨h1,h2,h3,h4⟩:=he
       subst h1
       exact OpT.call (caps:=caps) ho hcl (.inr hx) hfn c1 c2 (Zcx _ _ hps) (Wks.append (Ze5 _ _ _ _ hw h4) (Wks.refl _ _ _)) h2 c3 c4 h3 hc rfl rfl
      ·cases h
     ·cases h
    ·cases h
   ·cases h
  ·cases h
variable {α β:Type}
end
end Go.AM
namespace Go.AM
section
variable {P:Program} {G:Glob} {n0 nt:Nat} {o:Oper} {st:St} {H:List Blk}
theorem VRow.wks {S:Nat→Nat→Prop} {w:World} {b:Nat} {ps qs:List PV} (h:Wks [] false ps qs):∀ o,VRow S [] w b o ps→VRow S [] w b o qs:=by
 induction h with
 | nil=>exact fun _ h=>h
 | cons p q ps qs h1 h2 ih=>
  intro o hr
  simp only [VRow] at hr ⊢
  obtain⟨⟨u,g1,g2⟩,g3⟩:=hr
  refine⟨⟨u,g1,?_⟩,ih _ g3⟩
  cases h1 with
  | refl=>exact g2
  | nil s=>simp only [VR] at g2 ⊢; subst g2; exact⟨none,0,rfl,Nat.le_refl _,.inl trivial⟩
  | own i s t xs sh hb hs=>simp at hb
theorem Wks.length {H:List Blk} {any:Bool} {ps qs:List PV} (h:Wks H any ps qs):qs.length=ps.length:=by
 induction h with
 | nil=>rfl
 | cons p q ps qs h1 h2 ih=>simp [ih]
end
end Go.AM
namespace Go.AM
section
variable {P:Program} {G:Glob} {n0 nt:Nat} {o:Oper} {st:St} {H:List Blk}
end
end Go.AM
namespace Go.AM
section
variable {P:Program} {G:Glob} {n0 nt:Nat} {o:Oper} {st:St} {H:List Blk}
def closedH:List Blk→Prop
 | []=>True
 | .cells cs :: ks=>PV.idss (fun _=>false) cs=true∧closedH ks
 | .buf .. :: ks=>closedH ks
 | .map .. :: _=>False
 | .far _ :: _=>False
 | .dead :: ks=>closedH ks
 | .fm _ :: ks=>closedH ks
 | .iter .. :: _=>False
theorem closedH.n:closedH []:=trivial
theorem closedH.c {cs:List PV} {ks:List Blk} (h:PV.idss (fun _=>false) cs=true) (hk:closedH ks):closedH (.cells cs :: ks):=⟨h,hk⟩
end
end Go.AM
namespace Go.AM
section
variable {P:Program} {G:Glob} {n0 nt:Nat} {o:Oper} {st:St} {H:List Blk}
variable {α:Type}
end
end Go.AM
namespace Go.AM
section
variable {P:Program} {G:Glob} {n0 nt:Nat} {o:Oper} {st:St} {H:List Blk}
end
end Go.AM
namespace Go.AM
section
variable {P:Program} {G:Glob} {n0 nt:Nat} {o:Oper} {st:St} {H:List Blk} {c:Ctx} {β:List Bnd} {a:Act} {w:World}
theorem OpT.slice_cut {t e s ty i n:Nat} {x:Operand} {lo hi:Option Operand} {h:Int} {xs:List (List PV)} {sh:Bool} (ho:o.op=.slice t x lo hi none) (hu:P.underlying t=some (.slice e)) (hz:P.cellsOf e=s) (hs0:s ≠ 0)
  (hx:opd G st x=some (.own i n)) (hb:H[i]? = some (.buf s ty xs sh)) (hn:n=xs.length) (hlo:loOf G st lo=some 0) (hhi:hiOf G st n hi=some h) (h0:0≤h) (h2:h≤n):OpT P G n0 o st H (.oc i n h.toNat) H:=
 OpT.value fun c a w β hn0 hr=>by
  have g1:=hr.opd hx
  simp only [VR] at g1
  obtain⟨_,ed,he,k1,k2⟩:=g1
  obtain⟨q1,q2,q3,vals,⟨q4,q5⟩,q6⟩:=hr.blk i ed _ he hb
  have hv:=k2 (by omega)
  rcases q5 with ⟨q5,q7⟩ | ⟨g,cap,cur,e1,e2,e3,e4,e5,e6,e7⟩
  ·have hsb:=Zed (P:=P) hr hlo hhi (Int.le_refl 0) h0 h2 (show n≤0 by omega)
   have hh:h=0:=by omega
   subst hh
   rw [q5] at hv
   have hn':n=0:=by omega
   rw [hn'] at hsb
   refine⟨.slice none 0 0,?_,?_⟩
   ·simp [execOp,ho,Instr.sliceAt,run_underlying hu,Instr.slice,hv,hsb,Za9 hz hs0]
   ·simp only [VR]
    exact⟨by rfl,ed,he,k1,fun _=>.inl ⟨rfl,trivial,q5⟩⟩
  ·have hsb:=Zed (P:=P) hr hlo hhi (Int.le_refl 0) h0 h2 (show n≤cap by omega)
   rw [e1,← hn] at hv
   refine⟨.slice (some ⟨g,0,none⟩) h.toNat cap,?_,?_⟩
   ·by_cases hc:cap=0
    ·rw [hc] at hsb
     simp [execOp,ho,Instr.sliceAt,run_underlying hu,Instr.slice,hv,hsb,Za9 hz hs0,hc]
    ·simp [execOp,ho,Instr.sliceAt,run_underlying hu,Instr.slice,hv,hsb,Za9 hz hs0,hc,Zbe]
   ·simp only [VR]
    exact⟨by rfl,ed,he,k1,fun _=>.inr ⟨g,xs.length,cap,by rw [e1],rfl⟩⟩
end
end Go.AM
namespace Go.AM
section
variable {P:Program} {G:Glob} {α:Type}
def Hnd.cut (row:α→List PV) {l:List α} {h:Int} (hh:0≤h∧h≤(l.length:Int)):Hnd P G where
 run o st H:=match o.op with
  | .slice t x lo hi none=>match P.underlying t,opd G st x,loOf G st lo with
   | some (.slice e),some (.own i n),some l0=>match H[i]?,hiOf G st n hi with
    | some (.buf s _ xs _),some h'=>if Nat.beq (P.cellsOf e) s && !(Nat.beq s 0) then some ⟨.oc i n h.toNat,H,[.n n,.rs xs,.p (.sc (.int .i64 l0)),.p (.sc (.int .i64 h'))],[.n l.length,.rs (l.map row),.p (.sc (.int .i64 0)),.p (.sc (.int .i64 h))]⟩ else none
    | _,_=>none
   | _,_,_=>none
  | _=>none
 sound:=by
  intro n0 o st H x hr he
  suffices hT:OpT P G n0 o st H x.p x.H from hT.weak
  split at hr
  ·rename_i t x lo hi ho
   split at hr
   ·rename_i e i n l0 hu hx hlo
    split at hr
    ·rename_i s ty xs sh h' hb hhi
     split at hr
     ·rename_i hc
      simp only [Bool.and_eq_true,Bool.not_eq_true'] at hc
      simp only [Option.some.injEq] at hr
      subst hr
      simp only [List.cons.injEq,T.n.injEq,T.rs.injEq,T.p.injEq,PV.sc.injEq,Value.int.injEq,true_and,and_true] at he
      obtain⟨h1,h2,h3,h4⟩:=he
      subst h1 h2 h3 h4
      exact OpT.slice_cut ho hu (Nat.eq_of_beq_eq_true hc.1) (fun e0=>by rw [e0] at hc; simp at hc) hx hb (List.length_map ..).symm hlo hhi hh.1 hh.2
     ·cases hr
    ·cases hr
   ·cases hr
  ·cases hr
inductive SrcK (α:Type) where
 | val (m:List α)
 | own (m:List α)
 | op (m:List α) (lo:Nat)
 | oc (m:List α) (k:Nat)
def SrcK.list:SrcK α→List α
 | .val m=>m
 | .own m=>m
 | .op m lo=>m.drop lo
 | .oc m k=>m.take k
def SrcK.ok:SrcK α→Prop
 | .val _=>True
 | .own _=>True
 | .op m lo=>lo≤m.length
 | .oc m k=>k≤m.length
end
end Go.AM
namespace Go.AM
section
variable {P:Program} {G:Glob} {n0 nt:Nat} {o:Oper} {st:St} {H:List Blk} {Q:Exit→St→List Blk→Prop}
theorem Zlz {c:Ctx} {β:List Bnd} {w:World} {i:Nat} {k k':Blk} (hk:H[i]? = some k) (hf:∀ e b hi,k'.free e b hi ↔ k.free e b hi):stab c β (H.set i k') w=stab c β H w:=by
 have hil:=(List.getElem?_eq_some_iff.1 hk).1
 funext b hi
 simp only [stab,eq_iff_iff]
 refine or_congr Iff.rfl (and_congr Iff.rfl (and_congr Iff.rfl ⟨fun h j e l h1 h2=>?_,fun h j e l h1 h2=>?_⟩))
 ·by_cases hji:j=i
  ·subst hji; rw [hk] at h2; cases h2
   exact(hf e b hi).1 (h j e k' h1 (List.getElem?_set_self hil))
  ·exact h j e l h1 (by rw [List.getElem?_set_ne (Ne.symm hji)]; exact h2)
 ·by_cases hji:j=i
  ·subst hji; rw [List.getElem?_set_self hil] at h2; cases h2
   exact(hf e b hi).2 (h j e k h1 hk)
  ·exact h j e l h1 (by rw [List.getElem?_set_ne (Ne.symm hji)] at h2; exact h2)
theorem RelB.re {c:Ctx} {β:List Bnd} {a:Act} {w:World} (h:RelB G c β st H a w) {i:Nat} {k k':Blk} (hk:H[i]? = some k) (hf:∀ e b hi,k'.free e b hi ↔ k.free e b hi) (hat:∀ e,k'.at e=k.at e) (hin:k.isIn=true→k'.isIn=true)
  (hblk:∀ e,β[i]? = some e→BlkR (stab c β H w) β w c.w0.heap.size i e k→BlkR (stab c β H w) β w c.w0.heap.size i e k'):RelB G c β st (H.set i k') a w:=by
 have hil:=(List.getElem?_eq_some_iff.1 hk).1
 have hs:=Zlz (c:=c) (β:=β) (w:=w) hk hf
 have hx:Ext (stab c β H w) w (stab c β (H.set i k') w) w:=by rw [hs]; exact Ext.refl _ _
 have key:∀(j:Nat) l,(H.set i k')[j]? = some l→∃ l',H[j]? = some l'∧∀ e,l'.at e=l.at e:=fun j l hj=>by
  by_cases hji:j=i
  ·subst hji; rw [List.getElem?_set_self hil] at hj; cases hj
   exact⟨k,hk,fun e=>(hat e).symm⟩
  ·rw [List.getElem?_set_ne (Ne.symm hji)] at hj; exact⟨l,hj,fun _=>rfl⟩
 refine h.move hx (BExt.refl _ _) (by simp [h.len]) h.pre (fun j e l h1 h2=>?_) (fun j j' f f' l l' b hij h1 h2 h3 h4 h5 h6=>?_) (fun j f l b h0 h1 h2 h3=>?_) (fun j hj=>?_) h.frm
 ·rw [hs]
  by_cases hji:j=i
  ·subst hji; rw [List.getElem?_set_self hil] at h2; cases h2
   exact hblk e h1 (h.blk j e k h1 hk)
  ·rw [List.getElem?_set_ne (Ne.symm hji)] at h2; exact h.blk j e l h1 h2
 ·obtain⟨l1,g1,g2⟩:=key j l h2
  obtain⟨l2,g3,g4⟩:=key j' l' h4
  exact h.inj j j' f f' l1 l2 b hij h1 g1 h3 g3 (by rw [g2]; exact h5) (by rw [g4]; exact h6)
 ·obtain⟨l1,g1,g2⟩:=key j l h2
  exact h.loc j f l1 b h0 h1 g1 (by rw [g2]; exact h3)
 ·obtain⟨l,hc,hcf⟩:=h.cel j hj
  by_cases hji:j=i
  ·subst hji; rw [hk] at hc; cases hc
   exact⟨k',List.getElem?_set_self hil,hin hcf⟩
  ·exact⟨l,by rw [List.getElem?_set_ne (Ne.symm hji)]; exact hc,hcf⟩
section typed
variable {K V:Type} {kv:K→Value} {vv:V→Value} {eqk:K→K→Bool} {kt:TypeId}
def entT (kv:K→Value) (vv:V→Value) (x:Nat × K × V):Nat × Value × PV:=(x.1,kv x.2.1,.sc (vv x.2.2))
def entF (kv:K→Value) (vv:V→Value) (x:K × V):Value × Value:=(kv x.1,vv x.2)
structure FmOk (kv:K→Value) (E:List (Nat × K × V)) (cl:Nat) (L:List (K × V)):Prop where
 lt:∀ x∈E,x.1<cl
 nd:(E.map (·.1)).Nodup
 perm:(E.map (·.2)).Perm L
 keys:(L.map fun x=>kv x.1).Nodup
theorem Zo7 {α γ:Type} (f:α→γ) {l m:List γ} (h:l.Perm m):∀ L:List α,m=L.map f→∃ L':List α,L'.Perm L∧l=L'.map f:=by
 induction h with
 | nil=>intro L hL; exact⟨[],by rw [List.map_eq_nil_iff.1 hL.symm],rfl⟩
 | cons x h ih=>
  intro L hL
  cases L with
  | nil=>simp at hL
  | cons y L=>
   simp only [List.map_cons,List.cons.injEq] at hL
   obtain⟨L',h1,h2⟩:=ih L hL.2
   exact⟨y :: L',h1.cons y,by rw [List.map_cons,h2,hL.1]⟩
 | swap x y l=>
  intro L hL
  match L,hL with
  | a :: b :: L,hL=>
   simp only [List.map_cons,List.cons.injEq] at hL
   exact⟨b :: a :: L,.swap a b L,by simp only [List.map_cons,hL.1,hL.2.1,hL.2.2]⟩
 | trans _ _ ih1 ih2=>
  intro L hL
  obtain⟨L1,h1,h2⟩:=ih2 L hL
  obtain⟨L2,h3,h4⟩:=ih1 L1 h2
  exact⟨L2,h3.trans h1,h4⟩
theorem Zqq:∀(ms:List MapEntry) (L:List (K × V)),ms.map (fun x=>(x.key,x.val))=L.map (entF kv vv)→∃ E:List (Nat × K × V),E.map (·.1)=ms.map (·.born)∧E.map (·.2)=L ∧
  ms.map (fun x=>(x.born,x.key))=(E.map (entT kv vv)).map (fun x=>(x.1,x.2.1))∧∀ S β w,VRs S β w ((E.map (entT kv vv)).map (·.2.2)) (ms.map (·.val))
 | [],[],_=>⟨[],rfl,rfl,rfl,fun _ _ _=>by simp only [List.map_nil,VRs]⟩
 | [],_ :: _,h=>by simp at h
 | _ :: _,[],h=>by simp at h
 | a :: ms,x :: L,h=>by
  simp only [List.map_cons,List.cons.injEq] at h
  obtain⟨E,h1,h2,h3,h4⟩:=Zqq ms L h.2
  have h5:=h.1
  simp only [entF,Prod.mk.injEq] at h5
  refine⟨(a.born,x) :: E,by simp [h1],by simp [h2],?_,fun S β w=>?_⟩
  ·rw [List.map_cons,List.map_cons,List.map_cons,h3,h5.1]; rfl
  ·simp only [List.map_cons,VRs]
   exact⟨by simp only [entT,VR]; exact h5.2,h4 S β w⟩
theorem Zoc:∀(ms:List MapEntry) (E:List (Nat × K × V)) (S:Nat→Nat→Prop) (β:List Bnd) (w:World),ms.map (fun x=>(x.born,x.key))=(E.map (entT kv vv)).map (fun x=>(x.1,x.2.1))→VRs S β w ((E.map (entT kv vv)).map (·.2.2)) (ms.map (·.val)) →
  ms.map (·.born)=E.map (·.1)∧ms.map (fun x=>(x.key,x.val))=(E.map (·.2)).map (entF kv vv)
 | [],[],_,_,_,_,_=>⟨rfl,rfl⟩
 | [],_ :: _,_,_,_,h,_=>by simp at h
 | _ :: _,[],_,_,_,h,_=>by simp at h
 | a :: ms,x :: E,S,β,w,h,hv=>by
  simp only [List.map_cons,List.cons.injEq,Prod.mk.injEq] at h
  simp only [List.map_cons,VRs] at hv
  obtain⟨h1,h2⟩:=Zoc ms E S β w h.2 hv.2
  have h3:=hv.1
  simp only [entT,VR] at h3
  exact⟨by rw [List.map_cons,List.map_cons,h1,h.1.1]; rfl,by rw [List.map_cons,List.map_cons,List.map_cons,h2,h.1.2,h3]; rfl⟩
theorem RelB.openM {c:Ctx} {β:List Bnd} {a:Act} {w:World} (h:RelB G c β st H a w) {i:Nat} {L:List (K × V)} (hb:H[i]? = some (.fm (L.map (entF kv vv)))) :
  ∃ E cl,FmOk kv E cl L∧RelB G c β st (H.set i (.map (E.map (entT kv vv)) cl)) a w:=by
 have hil:=(List.getElem?_eq_some_iff.1 hb).1
 have hbl:i<β.length:=by rw [h.len]; exact hil
 obtain⟨arr,cl,h1,h2,h3,h4,h5⟩:=h.blk i β[i] _ (by simp [hbl]) hb
 obtain⟨L',h6,h7⟩:=Zo7 _ h4 L rfl
 obtain⟨E,g1,g2,g3,g4⟩:=Zqq _ _ h7
 refine⟨E,cl,⟨fun x hx=>?_,by rw [g1]; exact h3,by rw [g2]; exact h6,?_⟩,h.re hb (fun _ _ _=>Iff.rfl) (fun _=>rfl) (fun _=>rfl) fun e he _=>?_⟩
 ·have:x.1∈arr.toList.map (·.born):=by rw [← g1]; exact List.mem_map_of_mem hx
  obtain⟨m,hm,hmb⟩:=List.mem_map.1 this
  rw [← hmb]; exact h2 m hm
 ·rw [List.map_map] at h5
  exact h5
 ·have:e=β[i]:=by rw [List.getElem?_eq_getElem hbl] at he; simpa using he.symm
  subst this
  exact⟨arr,h1,g3,g4 _ _ _⟩
theorem RelB.closeM {c:Ctx} {β:List Bnd} {a:Act} {w:World} (h:RelB G c β st H a w) {i:Nat} {E:List (Nat × K × V)} {cl:Nat} {L:List (K × V)} (hb:H[i]? = some (.map (E.map (entT kv vv)) cl)) (hE:FmOk kv E cl L) :
  RelB G c β st (H.set i (.fm (L.map (entF kv vv)))) a w:=
 h.re hb (fun _ _ _=>Iff.rfl) (fun _=>rfl) (fun _=>rfl) fun e _ hbk=>by
  obtain⟨arr,h1,h2,h3⟩:=hbk
  obtain⟨g1,g2⟩:=Zoc _ _ _ _ _ h2 h3
  refine⟨arr,cl,h1,fun x hx=>?_,by rw [g1]; exact hE.nd,by rw [g2]; exact hE.perm.map _,by rw [List.map_map]; exact hE.keys⟩
  have:x.born∈E.map (·.1):=by rw [← g1]; exact List.mem_map_of_mem hx
  obtain⟨y,hy,hyb⟩:=List.mem_map.1 this
  rw [← hyb]; exact hE.lt y hy
theorem RelB.permM {c:Ctx} {β:List Bnd} {a:Act} {w:World} (h:RelB G c β st H a w) {i:Nat} {l l':List (Value × Value)} (hb:H[i]? = some (.fm l)) (hp:l.Perm l'):RelB G c β st (H.set i (.fm l')) a w:=
 h.re hb (fun _ _ _=>Iff.rfl) (fun _=>rfl) (fun _=>rfl) fun e _ hbk=>by
  obtain⟨arr,cl,h1,h2,h3,h4,h5⟩:=hbk
  exact⟨arr,cl,h1,h2,h3,h4.trans hp,(hp.map _).nodup_iff.1 h5⟩
theorem OpW.fm {i:Nat} {L L':List (K × V)} {p:PV} (hb:H[i]? = some (.fm (L.map (entF kv vv))))
  (h:∀ E cl,FmOk kv E cl L→∃ E' cl',FmOk kv E' cl' L'∧OpW P G n0 o st (H.set i (.map (E.map (entT kv vv)) cl)) p (H.set i (.map (E'.map (entT kv vv)) cl'))):OpW P G n0 o st H p (H.set i (.fm (L'.map (entF kv vv)))):=by
 intro c a w β h0 hr
 have hil:=(List.getElem?_eq_some_iff.1 hb).1
 obtain⟨E,cl,hE,hr1⟩:=hr.openM hb
 obtain⟨E',cl',hE',hop⟩:=h E cl hE
 refine Zdl (hop c a w β h0 hr1) fun v w' ⟨β',h1,h2⟩=>⟨β',?_,?_⟩
 ·have:=h1.closeM (i:=i) (List.getElem?_set_self hil) hE'
  rwa [List.set_set] at this
 ·have hs:=Zlz (c:=c) (β:=β') (w:=w') (i:=i) (k':=.fm (L'.map (entF kv vv))) (List.getElem?_set_self hil:(H.set i (.map (E'.map (entT kv vv)) cl'))[i]? = _) (fun _ _ _=>Iff.rfl)
  rw [List.set_set] at hs
  rw [hs]; exact h2
structure KeyOk (P:Program) (kt:TypeId) (kv:K→Value) (eqk:K→K→Bool):Prop where
 chk:∀ a,chkK P 20 kt (kv a)=true
 cmp:∀ a b,flatEq P 50 kt (kv a) (kv b)=some (eqk a b)
 now:∃ kind,P.underlying kt=some kind∧((∀ a b,Instr.sameNow kind (kv a) (kv b)=none)∨∀ a b,Instr.sameNow kind (kv a) (kv b)=some (eqk a b))
 bits:∀ a,Instr.sameBits 10000 (kv a) (kv a)=true
 eq:∀ a b,eqk a b=true ↔ a=b
theorem KeyOk.inj (h:KeyOk P kt kv eqk) {a b:K} (hab:kv a=kv b):a=b:=by
 have h1:=h.cmp a a
 rw [(h.eq a a).2 rfl] at h1
 have h2:=h.cmp a b
 rw [← hab,h1,Option.some.injEq] at h2
 exact(h.eq a b).1 h2.symm
theorem Zli {kind:TypeDesc} (hn:∀ a b,Instr.sameNow kind (kv a) (kv b)=some (eqk a b)) (a:K):∀(ks:List K) (i:Nat),findN kind (kv a) (ks.map kv) i=some ((ks.findIdx? (eqk a)).map (· + i))
 | [],i=>rfl
 | k :: ks,i=>by
  rw [List.map_cons,findN,hn,List.findIdx?_cons]
  cases eqk a k with
  | true=>simp
  | false=>
   simp only [Zli hn a ks (i + 1),Bool.false_eq_true,if_false,Option.map_map]
   congr 2
   funext j
   simp only [Function.comp]; omega
theorem Zlj (hc:∀ a b,flatEq P 50 kt (kv a) (kv b)=some (eqk a b)) (a:K):∀(ks:List K) (i:Nat),findA P kt (kv a) (ks.map kv) i=some ((ks.findIdx? (eqk a)).map (· + i))
 | [],i=>rfl
 | k :: ks,i=>by
  rw [List.map_cons,findA,hc,List.findIdx?_cons]
  cases eqk a k with
  | true=>simp
  | false=>
   simp only [Zlj hc a ks (i + 1),Bool.false_eq_true,if_false,Option.map_map]
   congr 2
   funext j
   simp only [Function.comp]; omega
theorem Zie (h:KeyOk P kt kv eqk) (a:K) (ks:List K):findx P kt (kv a) (ks.map kv)=some (ks.findIdx? (eqk a)):=by
 obtain⟨kind,h1,h2⟩:=h.now
 unfold findx
 rw [h1]
 simp only
 rcases h2 with h2 | h2
 ·cases ks with
  | nil=>rfl
  | cons k ks=>
   have:findN kind (kv a) ((k :: ks).map kv) 0=none:=by rw [List.map_cons,findN,h2]
   rw [this]
   have h3:=Zlj h.cmp a (k :: ks) 0
   simp only [Nat.add_zero,Option.map_id',List.map_cons] at h3
   simp only [List.map_cons]
   rw [h3]
 ·simp [Zli h2 a ks 0]
def mget (eqk:K→K→Bool) (L:List (K × V)) (a:K):Option V:=(L.find? fun x=>eqk a x.1).map (·.2)
def mput (eqk:K→K→Bool) (L:List (K × V)) (a:K) (v:V):List (K × V):=if L.any (fun x=>eqk a x.1) then L.map (fun x=>if eqk a x.1 then (a,v) else x) else L++[(a,v)]
def mdel (eqk:K→K→Bool) (L:List (K × V)) (a:K):List (K × V):=L.filter fun x=>!eqk a x.1
theorem Zod {p:K × V→Bool} {L L':List (K × V)} (hp:L.Perm L') (hu:∀ x∈L,∀ y∈L,p x=true→p y=true→x=y):L.find? p=L'.find? p:=by
 cases h:L.find? p with
 | none=>
  rw [List.find?_eq_none] at h
  exact(List.find?_eq_none.2 fun x hx=>h x (hp.mem_iff.2 hx)).symm
 | some x=>
  have hx:=List.mem_of_find?_eq_some h
  have hpx:=List.find?_some h
  cases h':L'.find? p with
  | none=>
   rw [List.find?_eq_none] at h'
   exact absurd hpx (h' x (hp.mem_iff.1 hx))
  | some y=>rw [hu x hx y (hp.mem_iff.2 (List.mem_of_find?_eq_some h')) hpx (List.find?_some h')]
theorem Zrm (h:KeyOk P kt kv eqk) {L:List (K × V)} (hk:(L.map fun x=>kv x.1).Nodup) (a:K):∀ x∈L,∀ y∈L,eqk a x.1=true→eqk a y.1=true→x=y:=by
 intro x hx y hy h1 h2
 have e1:=(h.eq _ _).1 h1
 have e2:=(h.eq _ _).1 h2
 obtain⟨i,hi⟩:=List.mem_iff_getElem?.1 hx
 obtain⟨j,hj⟩:=List.mem_iff_getElem?.1 hy
 have hij:i=j:=by
  refine(List.getElem?_inj (by rw [List.length_map]; exact(List.getElem?_eq_some_iff.1 hi).1) hk).1 ?_
  rw [List.getElem?_map,List.getElem?_map,hi,hj]
  simp [← e1,← e2]
 subst hij
 rw [hi] at hj
 simpa using hj
theorem Zrn (h:KeyOk P kt kv eqk) {L L':List (K × V)} (hp:L.Perm L') (hk:(L.map fun x=>kv x.1).Nodup) (a:K):mget eqk L a=mget eqk L' a:=by
 unfold mget
 rw [Zod hp (Zrm h hk a)]
theorem FmOk.keysE {E:List (Nat × K × V)} {cl:Nat} {L:List (K × V)} (h:FmOk kv E cl L):((E.map (·.2)).map fun x=>kv x.1).Nodup:=(h.perm.map _).nodup_iff.2 h.keys
theorem Zh5 (a:K):∀(E:List (Nat × K × V)),match (E.map (·.2.1)).findIdx? (eqk a) with
  | some j=>∃ x,E[j]? = some x∧eqk a x.2.1=true∧mget eqk (E.map (·.2)) a=some x.2.2
  | none=>mget eqk (E.map (·.2)) a=none∧∀ x∈E,eqk a x.2.1=false
 | []=>⟨rfl,by simp⟩
 | x :: E=>by
  have ih:=Zh5 a E
  rw [List.map_cons,List.findIdx?_cons]
  cases hx:eqk a x.2.1 with
  | true=>exact⟨x,rfl,hx,by simp [mget,hx]⟩
  | false=>
   simp only [Bool.false_eq_true,if_false]
   cases hj:(E.map (·.2.1)).findIdx? (eqk a) with
   | none=>
    rw [hj] at ih
    refine⟨?_,fun y hy=>?_⟩
    ·have:=ih.1
     simpa [mget,hx] using this
    ·rcases List.mem_cons.1 hy with rfl | hy
     ·exact hx
     ·exact ih.2 y hy
   | some j=>
    rw [hj] at ih
    obtain⟨y,h1,h2,h3⟩:=ih
    refine⟨y,by simpa using h1,h2,?_⟩
    simpa [mget,hx] using h3
theorem Zoe (h:KeyOk P kt kv eqk) (a:K) (v:V):∀(E:List (Nat × K × V)) (j:Nat) (x:Nat × K × V),((E.map (·.2)).map fun x=>kv x.1).Nodup→E[j]? = some x→eqk a x.2.1=true→E.set j (x.1,a,v)=E.map (fun y=>if eqk a y.2.1 then (y.1,a,v) else y)
 | [],j,x,_,hj,_=>by simp at hj
 | y :: E,0,x,hn,hj,hx=>by
  simp only [List.getElem?_cons_zero,Option.some.injEq] at hj
  subst hj
  simp only [List.map_cons,List.nodup_cons] at hn
  rw [List.set_cons_zero,List.map_cons,if_pos hx]
  congr 1
  have hid:E=E.map (fun z=>z):=(List.map_id' E).symm
  conv=>lhs; rw [hid]
  refine List.map_congr_left fun z hz=>?_
  rw [if_neg]
  intro hz'
  have e1:=(h.eq _ _).1 hz'
  have e2:=(h.eq _ _).1 hx
  exact hn.1 (List.mem_map.2 ⟨z.2,List.mem_map_of_mem hz,by rw [← e1,← e2]⟩)
 | y :: E,j + 1,x,hn,hj,hx=>by
  simp only [List.map_cons,List.nodup_cons] at hn
  rw [List.getElem?_cons_succ] at hj
  rw [List.set_cons_succ,List.map_cons,Zoe h a v E j x hn.2 hj hx,if_neg]
  intro hy
  have e1:=(h.eq _ _).1 hy
  have e2:=(h.eq _ _).1 hx
  exact hn.1 (List.mem_map.2 ⟨x.2,List.mem_map_of_mem (List.mem_of_getElem? hj),by rw [← e1,← e2]⟩)
theorem Zlk (h:KeyOk P kt kv eqk) (a:K):∀(E:List (Nat × K × V)) (j:Nat) (x:Nat × K × V),((E.map (·.2)).map fun x=>kv x.1).Nodup→E[j]? = some x→eqk a x.2.1=true→E.eraseIdx j=E.filter (fun y=>!eqk a y.2.1)
 | [],j,x,_,hj,_=>by simp at hj
 | y :: E,0,x,hn,hj,hx=>by
  simp only [List.getElem?_cons_zero,Option.some.injEq] at hj
  subst hj
  simp only [List.map_cons,List.nodup_cons] at hn
  rw [List.eraseIdx_cons_zero,List.filter_cons,hx]
  simp only [Bool.not_true,Bool.false_eq_true,if_false]
  refine(List.filter_eq_self.2 fun z hz=>?_).symm
  cases hz':eqk a z.2.1 with
  | false=>rfl
  | true=>
   have e1:=(h.eq _ _).1 hz'
   have e2:=(h.eq _ _).1 hx
   exact absurd (List.mem_map.2 ⟨z.2,List.mem_map_of_mem hz,by rw [← e1,← e2]⟩) hn.1
 | y :: E,j + 1,x,hn,hj,hx=>by
  simp only [List.map_cons,List.nodup_cons] at hn
  rw [List.getElem?_cons_succ] at hj
  have hy:eqk a y.2.1=false:=by
   cases hy:eqk a y.2.1 with
   | false=>rfl
   | true=>
    have e1:=(h.eq _ _).1 hy
    have e2:=(h.eq _ _).1 hx
    exact absurd (List.mem_map.2 ⟨x.2,List.mem_map_of_mem (List.mem_of_getElem? hj),by rw [← e1,← e2]⟩) hn.1
  rw [List.eraseIdx_cons_succ,Zlk h a E j x hn.2 hj hx,List.filter_cons,hy]
  rfl
theorem Zjf (E:List (Nat × K × V)):(E.map (entT kv vv)).map (·.2.1)=(E.map (·.2.1)).map kv:=by
 rw [List.map_map,List.map_map]; rfl
theorem Zp4 (h:KeyOk P kt kv eqk) {e:TypeId} {E:List (Nat × K × V)} {cl:Nat} {L:List (K × V)} (hE:FmOk kv E cl L) (ok:Bool) (a:K) {zv:V} (hz:zeroP P e=some (.sc (vv zv))) :
  lookx P kt e ok (kv a) (E.map (entT kv vv))=some (lres ok (.sc (vv ((mget eqk L a).getD zv))) (mget eqk L a).isSome):=by
 unfold lookx
 rw [h.chk,Zjf,Zie h]
 have hi:=Zh5 (eqk:=eqk) a E
 have hm:=Zrn h hE.perm hE.keysE a
 simp only [if_true]
 cases hj:(E.map (·.2.1)).findIdx? (eqk a) with
 | none=>
  rw [hj] at hi
  rw [← hm,hi.1,hz]
  rfl
 | some j=>
  rw [hj] at hi
  obtain⟨x,h1,_,h3⟩:=hi
  simp only
  rw [List.getElem?_map,h1,← hm,h3]
  rfl
theorem Zqx (h:KeyOk P kt kv eqk) {L:List (K × V)} (hk:(L.map fun x=>kv x.1).Nodup) (a:K) (v:V):((mput eqk L a v).map fun x=>kv x.1).Nodup:=by
 unfold mput
 split
 ·have:(L.map (fun x=>if eqk a x.1 then (a,v) else x)).map (fun x=>kv x.1)=L.map fun x=>kv x.1:=by
   rw [List.map_map]
   refine List.map_congr_left fun x _=>?_
   simp only [Function.comp]
   split
   ·rename_i hx; rw [(h.eq _ _).1 hx]
   ·rfl
  rw [this]; exact hk
 ·rename_i hn
  rw [List.map_append,List.nodup_append]
  refine⟨hk,by simp,fun x hx y hy=>?_⟩
  simp only [List.map_cons,List.map_nil,List.mem_singleton] at hy
  subst hy
  obtain⟨z,hz,rfl⟩:=List.mem_map.1 hx
  intro e
  exact hn (List.any_eq_true.2 ⟨z,hz,(h.eq _ _).2 (h.inj e).symm⟩)
theorem Zro {L L':List (K × V)} (hp:L.Perm L') (a:K) (v:V):(mput eqk L a v).Perm (mput eqk L' a v):=by
 unfold mput
 have:L.any (fun x=>eqk a x.1)=L'.any (fun x=>eqk a x.1):=by
  rw [Bool.eq_iff_iff,List.any_eq_true,List.any_eq_true]
  exact⟨fun⟨x,h1,h2⟩=>⟨x,hp.mem_iff.1 h1,h2⟩,fun⟨x,h1,h2⟩=>⟨x,hp.mem_iff.2 h1,h2⟩⟩
 rw [this]
 split
 ·exact hp.map _
 ·exact hp.append_right _
theorem Zqy (h:KeyOk P kt kv eqk) {E:List (Nat × K × V)} {cl:Nat} {L:List (K × V)} (hE:FmOk kv E cl L) (a:K) (v:V) :
  ∃ E' cl',putx P kt (kv a) (.sc (vv v)) (E.map (entT kv vv)) cl=some (E'.map (entT kv vv),cl')∧FmOk kv E' cl' (mput eqk L a v):=by
 unfold putx
 rw [h.chk,Zjf,Zie h]
 have hi:=Zh5 (eqk:=eqk) a E
 have hnd:=Zqx h hE.keys a v
 have hpp:=Zro (eqk:=eqk) hE.perm a v
 simp only [if_true]
 cases hj:(E.map (·.2.1)).findIdx? (eqk a) with
 | none=>
  rw [hj] at hi
  refine⟨E++[(cl,a,v)],cl + 1,by simp only [List.map_append]; rfl,⟨fun x hx=>?_,?_,?_,hnd⟩⟩
  ·rcases List.mem_append.1 hx with hx | hx
   ·have:=hE.lt x hx; omega
   ·rw [List.mem_singleton.1 hx]; simp
  ·rw [List.map_append,List.nodup_append]
   refine⟨hE.nd,by simp,fun x hx y hy=>?_⟩
   simp only [List.map_cons,List.map_nil,List.mem_singleton] at hy
   subst hy
   obtain⟨z,hz,rfl⟩:=List.mem_map.1 hx
   have:=hE.lt z hz
   omega
  ·refine List.Perm.trans ?_ hpp
   rw [List.map_append]
   unfold mput
   rw [if_neg]
   ·exact List.Perm.refl _
   ·intro hany
    obtain⟨z,hz,hz'⟩:=List.any_eq_true.1 hany
    obtain⟨y,hy,rfl⟩:=List.mem_map.1 hz
    rw [hi.2 y hy] at hz'; cases hz'
 | some j=>
  rw [hj] at hi
  obtain⟨x,h1,h2,_⟩:=hi
  have e2:=(h.eq _ _).1 h2
  refine⟨E.set j (x.1,a,v),cl,?_,?_⟩
  ·simp only
   rw [List.getElem?_map,h1]
   simp only [Option.map_some]
   rw [show (entT kv vv x).2.1=kv a by rw [e2]; rfl,h.bits,if_pos rfl,List.map_set]
   rfl
  ·rw [Zoe h a v E j x hE.keysE h1 h2]
   refine⟨fun y hy=>?_,?_,?_,hnd⟩
   ·obtain⟨z,hz,rfl⟩:=List.mem_map.1 hy
    have:=hE.lt z hz
    split <;> exact this
   ·have:(E.map (fun y=>if eqk a y.2.1 then (y.1,a,v) else y)).map (·.1)=E.map (·.1):=by
     rw [List.map_map]
     refine List.map_congr_left fun y _=>?_
     simp only [Function.comp]
     split <;> rfl
    rw [this]; exact hE.nd
   ·refine List.Perm.trans ?_ hpp
    unfold mput
    rw [if_pos (List.any_eq_true.2 ⟨x.2,List.mem_map_of_mem (List.mem_of_getElem? h1),h2⟩),List.map_map,List.map_map]
    refine List.Perm.of_eq (List.map_congr_left fun y _=>?_)
    simp only [Function.comp]
    split <;> rfl
theorem Zjg (h:KeyOk P kt kv eqk) {E:List (Nat × K × V)} {cl:Nat} {L:List (K × V)} (hE:FmOk kv E cl L) (a:K) :
  delx P kt (kv a) (E.map (entT kv vv))=some ((E.filter fun y=>!eqk a y.2.1).map (entT kv vv))∧FmOk kv (E.filter fun y=>!eqk a y.2.1) cl (mdel eqk L a):=by
 constructor
 ·unfold delx
  rw [h.chk,Zjf,Zie h]
  have hi:=Zh5 (eqk:=eqk) a E
  simp only [if_true]
  cases hj:(E.map (·.2.1)).findIdx? (eqk a) with
  | none=>
   rw [hj] at hi
   simp only
   rw [List.filter_eq_self.2 fun y hy=>by rw [hi.2 y hy]; rfl]
  | some j=>
   rw [hj] at hi
   obtain⟨x,h1,h2,_⟩:=hi
   simp only
   rw [← Zlk h a E j x hE.keysE h1 h2,Zee]
 ·refine⟨fun x hx=>hE.lt x (List.mem_filter.1 hx).1,(List.filter_sublist.map _).nodup hE.nd,?_,(List.filter_sublist.map _).nodup hE.keys⟩
  unfold mdel
  have:(E.filter fun y=>!eqk a y.2.1).map (·.2)=(E.map (·.2)).filter fun x=>!eqk a x.1:=by
   rw [List.filter_map]; rfl
  rw [this]
  exact hE.perm.filter _
end typed
end
end Go.AM
namespace Go.AM
section
variable {P:Program} {G:Glob} {n0 nt:Nat} {o:Oper} {st:St} {H:List Blk} {Q:Exit→St→List Blk→Prop}
variable {K V:Type} {kv:K→Value} {vv:V→Value} {eqk:K→K→Bool} {kt:TypeId}
theorem OpW.re {p:PV} {H1:List Blk} {i:Nat} {k k':Blk} (h:OpW P G n0 o st H p H1) (hk:H1[i]? = some k) (hf:∀ e b hi,k'.free e b hi ↔ k.free e b hi) (hat:∀ e,k'.at e=k.at e) (hin:k.isIn=true→k'.isIn=true)
  (hblk:∀ S β w base e,BlkR S β w base i e k→BlkR S β w base i e k'):OpW P G n0 o st H p (H1.set i k'):=fun c a w β h0 hr=>
 Zdl (h c a w β h0 hr) fun v w' ⟨β',h1,h2⟩=>⟨β',h1.re hk hf hat hin fun e _=>hblk _ _ _ _ e,by rw [Zlz hk hf]; exact h2⟩
def Hnd.mkM:Hnd P G where
 run o _ H:=match o.op with
  | .makeMap _ none=>some ⟨.mp H.length,H++[.fm []],[],[]⟩
  | _=>none
 sound:=by
  intro n0 o st H x hr _
  split at hr
  ·rename_i t ho
   simp only [Option.some.injEq] at hr; subst hr
   have h:=(OpT.makeMap (P:=P) (G:=G) (n0:=n0) (st:=st) (H:=H) ho).weak.re (i:=H.length) (k:=.map [] 0) (k':=.fm []) (by simp) (fun _ _ _=>Iff.rfl) (fun _=>rfl) (fun _=>rfl) (fun S β w base e hb=>by
    obtain⟨arr,h1,h2,_⟩:=hb
    have ha:arr.toList=[]:=by simpa using h2
    exact⟨arr,0,h1,by rw [ha]; simp,by rw [ha]; simp,by rw [ha]; simp,by simp⟩)
   have e:(H++[Blk.map [] 0]).set H.length (.fm [])=H++[.fm []]:=by
    rw [List.set_append_right _ _ (Nat.le_refl _),Nat.sub_self]; rfl
   rw [e] at h
   exact h
  ·cases hr
def Hnd.lookM (hK:KeyOk P kt kv eqk) (vv:V→Value) (zv:V) (L:List (K × V)) (a:K):Hnd P G where
 run o st H:=match o.op with
  | .lookup t x y ok=>match P.underlying t,opd G st x,opd G st y with
   | some (.map k e),some (.mp i),some (.sc key)=>match H[i]?,zeroP P e with
    | some (.fm l),some (.sc z)=>if Nat.beq k kt then some ⟨lres ok (.sc (vv ((mget eqk L a).getD zv))) (mget eqk L a).isSome,H,[.kvs l,.v key,.v z],[.kvs (L.map (entF kv vv)),.v (kv a),.v (vv zv)]⟩ else none
    | _,_=>none
   | _,_,_=>none
  | _=>none
 sound:=by
  intro n0 o st H x hr he
  split at hr
  ·rename_i t x y ok ho
   split at hr
   ·rename_i k e i key hu hx hy
    split at hr
    ·rename_i l z hb hz
     split at hr
     ·rename_i hk
      have hk:=Nat.eq_of_beq_eq_true hk
      subst hk
      simp only [Option.some.injEq] at hr; subst hr
      simp only [List.cons.injEq,T.kvs.injEq,T.v.injEq,and_true] at he
      obtain⟨rfl,rfl,rfl⟩:=he
      have hil:=(List.getElem?_eq_some_iff.1 hb).1
      have key:=OpW.fm (P:=P) (G:=G) (n0:=n0) (o:=o) (st:=st) (H:=H) (i:=i) (L:=L) (L':=L) (p:=lres ok (.sc (vv ((mget eqk L a).getD zv))) (mget eqk L a).isSome) hb fun E cl hE=>
       ⟨E,cl,hE,(OpT.lookup ho hu hx hy (List.getElem?_set_self hil) (Zp4 hK hE ok a hz)).weak⟩
      have e:H.set i (.fm (L.map (entF kv vv)))=H:=by
       apply List.ext_getElem?
       intro j
       by_cases hji:i=j
       ·subst hji; rw [List.getElem?_set_self hil,hb]
       ·rw [List.getElem?_set_ne hji]
      rwa [e] at key
     ·cases hr
    ·cases hr
   ·cases hr
  ·cases hr
def Hnd.putM (hK:KeyOk P kt kv eqk) (vv:V→Value) (L:List (K × V)) (a:K) (v:V):Hnd P G where
 run o st H:=match o.op with
  | .mapUpdate t x y z=>match P.underlying t,opd G st x,opd G st y,opd G st z with
   | some (.map k _),some (.mp i),some (.sc key),some p=>match H[i]? with
    | some (.fm l)=>if Nat.beq k kt then some ⟨.sc undef,H.set i (.fm ((mput eqk L a v).map (entF kv vv))),[.kvs l,.v key,.p p],[.kvs (L.map (entF kv vv)),.v (kv a),.p (.sc (vv v))]⟩ else none
    | _=>none
   | _,_,_,_=>none
  | _=>none
 sound:=by
  intro n0 o st H x hr he
  split at hr
  ·rename_i t x y z ho
   split at hr
   ·rename_i k e i key p hu hx hy hz
    split at hr
    ·rename_i l hb
     split at hr
     ·rename_i hk
      have hk:=Nat.eq_of_beq_eq_true hk
      subst hk
      simp only [Option.some.injEq] at hr; subst hr
      simp only [List.cons.injEq,T.kvs.injEq,T.v.injEq,T.p.injEq,and_true] at he
      obtain⟨rfl,rfl,rfl⟩:=he
      have hil:=(List.getElem?_eq_some_iff.1 hb).1
      refine OpW.fm hb fun E cl hE=>?_
      obtain⟨E',cl',h1,h2⟩:=Zqy (vv:=vv) hK hE a v
      refine⟨E',cl',h2,?_⟩
      have:=(OpT.mapUpdate (n0:=n0) (.inl ho) hu hx hy hz (List.getElem?_set_self hil:(H.set i (.map (E.map (entT kv vv)) cl))[i]? = _) h1).weak
      rwa [List.set_set] at this
     ·cases hr
    ·cases hr
   ·cases hr
  ·cases hr
def Hnd.delM (hK:KeyOk P kt kv eqk) (vv:V→Value) (L:List (K × V)) (a:K):Hnd P G where
 run o st H:=match o.op with
  | .call cl=>match cl with
   | { callee:=.builtin .delete,args:=⟨[x,y]⟩,argTypes:=⟨[T0,_]⟩ }=>match P.underlying T0,opd G st x,opd G st y with
    | some (.map k _),some (.mp i),some (.sc key)=>match H[i]? with
     | some (.fm l)=>if Nat.beq k kt then some ⟨.sc (.tuple #[]),H.set i (.fm ((mdel eqk L a).map (entF kv vv))),[.kvs l,.v key],[.kvs (L.map (entF kv vv)),.v (kv a)]⟩ else none
     | _=>none
    | _,_,_=>none
   | _=>none
  | _=>none
 sound:=by
  intro n0 o st H x hr he
  split at hr
  ·rename_i cl ho
   split at hr
   ·rename_i x y T0 U
    split at hr
    ·rename_i k e i key hu hx hy
     split at hr
     ·rename_i l hb
      split at hr
      ·rename_i hk
       have hk:=Nat.eq_of_beq_eq_true hk
       subst hk
       simp only [Option.some.injEq] at hr; subst hr
       simp only [List.cons.injEq,T.kvs.injEq,T.v.injEq,and_true] at he
       obtain⟨rfl,rfl⟩:=he
       have hil:=(List.getElem?_eq_some_iff.1 hb).1
       refine OpW.fm hb fun E cl hE=>?_
       obtain⟨h1,h2⟩:=Zjg (vv:=vv) hK hE a
       refine⟨_,cl,h2,?_⟩
       have:=(OpT.delete (n0:=n0) ho rfl hu hx hy (List.getElem?_set_self hil:(H.set i (.map (E.map (entT kv vv)) cl))[i]? = _) h1).weak
       rwa [List.set_set] at this
      ·cases hr
     ·cases hr
    ·cases hr
   ·cases hr
  ·cases hr
def Hnd.delE (hK:KeyOk P kt kv eqk) (vv:V→Value) {E:List (Nat × K × V)} {c:Nat} {L:List (K × V)} (hE:FmOk kv E c L) (a:K):Hnd P G where
 run o st H:=match o.op with
  | .call cl=>match cl with
   | { callee:=.builtin .delete,args:=⟨[x,y]⟩,argTypes:=⟨[T0,_]⟩ }=>match P.underlying T0,opd G st x,opd G st y with
    | some (.map k _),some (.mp i),some (.sc key)=>match H[i]? with
     | some (.map es ck)=>if Nat.beq k kt then some ⟨.sc (.tuple #[]),H.set i (.map ((E.filter fun y=>!eqk a y.2.1).map (entT kv vv)) ck),[.es es,.v key],[.es (E.map (entT kv vv)),.v (kv a)]⟩ else none
     | _=>none
    | _,_,_=>none
   | _=>none
  | _=>none
 sound:=by
  intro n0 o st H x hr he
  split at hr
  ·rename_i cl ho
   split at hr
   ·rename_i x y T0 U
    split at hr
    ·rename_i k e i key hu hx hy
     split at hr
     ·rename_i es ck hb
      split at hr
      ·rename_i hk
       have hk:=Nat.eq_of_beq_eq_true hk
       subst hk
       simp only [Option.some.injEq] at hr; subst hr
       simp only [List.cons.injEq,T.es.injEq,T.v.injEq,and_true] at he
       obtain⟨rfl,rfl⟩:=he
       exact(OpT.delete (n0:=n0) ho rfl hu hx hy hb (Zjg (vv:=vv) hK hE a).1).weak
      ·cases hr
     ·cases hr
    ·cases hr
   ·cases hr
  ·cases hr
def Hnd.clrM (L:List (K × V)):Hnd P G where
 run o st H:=match o.op with
  | .call cl=>match cl with
   | { callee:=.builtin .clear,args:=⟨[x]⟩,argTypes:=⟨[T0]⟩ }=>match P.underlying T0,opd G st x with
    | some (.map _ _),some (.mp i)=>match H[i]? with
     | some (.fm l)=>some ⟨.sc (.tuple #[]),H.set i (.fm []),[.kvs l],[.kvs (L.map (entF kv vv))]⟩
     | _=>none
    | _,_=>none
   | _=>none
  | _=>none
 sound:=by
  intro n0 o st H x hr he
  split at hr
  ·rename_i cl ho
   split at hr
   ·rename_i x T0
    split at hr
    ·rename_i k e i hu hx
     split at hr
     ·rename_i l hb
      simp only [Option.some.injEq] at hr; subst hr
      simp only [List.cons.injEq,T.kvs.injEq,and_true] at he
      subst he
      have hil:=(List.getElem?_eq_some_iff.1 hb).1
      refine OpW.fm (L':=[]) (kv:=kv) (vv:=vv) hb fun E cl0 hE=>⟨[],cl0,⟨by simp,by simp,by simp,by simp⟩,?_⟩
      have:=(OpT.clearMap (n0:=n0) ho rfl hu hx (List.getElem?_set_self hil:(H.set i (.map (E.map (entT kv vv)) cl0))[i]? = _)).weak
      rwa [List.set_set] at this
     ·cases hr
    ·cases hr
   ·cases hr
  ·cases hr
def Hnd.lenM (kv:K→Value) (vv:V→Value) (L:List (K × V)):Hnd P G where
 run o st H:=match o.op with
  | .call cl=>match cl with
   | { callee:=.builtin .len,args:=⟨[x]⟩,argTypes:=⟨[T0]⟩ }=>match P.underlying T0,opd G st x with
    | some (.map _ _),some (.mp i)=>match H[i]? with
     | some (.fm l)=>some ⟨.sc (.int .i64 L.length),H,[.kvs l],[.kvs (L.map (entF kv vv))]⟩
     | _=>none
    | _,_=>none
   | _=>none
  | _=>none
 sound:=by
  intro n0 o st H x hr he
  split at hr
  ·rename_i cl ho
   split at hr
   ·rename_i x T0
    split at hr
    ·rename_i k e i hu hx
     split at hr
     ·rename_i l hb
      simp only [Option.some.injEq] at hr; subst hr
      simp only [List.cons.injEq,T.kvs.injEq,and_true] at he
      subst he
      have hil:=(List.getElem?_eq_some_iff.1 hb).1
      have key:=OpW.fm (P:=P) (G:=G) (n0:=n0) (o:=o) (st:=st) (H:=H) (i:=i) (L:=L) (L':=L) (p:=.sc (.int .i64 L.length)) hb fun E cl0 hE=>⟨E,cl0,hE,by
       have:=(OpT.lenMap (n0:=n0) ho rfl hu hx (List.getElem?_set_self hil:(H.set i (.map (E.map (entT kv vv)) cl0))[i]? = _)).weak
       have e:(E.map (entT kv vv)).length=L.length:=by rw [List.length_map,← hE.perm.length_eq,List.length_map]
       rwa [e] at this⟩
      have e:H.set i (.fm (L.map (entF kv vv)))=H:=by
       apply List.ext_getElem?
       intro j
       by_cases hji:i=j
       ·subst hji; rw [List.getElem?_set_self hil,hb]
       ·rw [List.getElem?_set_ne hji]
      rwa [e] at key
     ·cases hr
    ·cases hr
   ·cases hr
  ·cases hr
def Hnd.rngE:Hnd P G where
 run o st H:=match o.op with
  | .range t x=>match P.underlying t,opd G st x with
   | some (.map _ _),some (.mp i)=>match H[i]? with
    | some (.map _ ck)=>some ⟨.ptr H.length 0,H++[.iter (some i) ck [] ck],[],[]⟩
    | _=>none
   | _,_=>none
  | _=>none
 sound:=by
  intro n0 o st H x hr _
  split at hr
  ·rename_i t x ho
   split at hr
   ·rename_i k e i hu hx
    split at hr
    ·rename_i es ck hb
     simp only [Option.some.injEq] at hr; subst hr
     exact(OpT.rangeMap ho hu hx hb).weak
    ·cases hr
   ·cases hr
  ·cases hr
theorem Zqz (S:List Nat):∀(E:List (Nat × K × V)) (x:Nat × K × V),x∈E→(E.map (·.1)).Nodup→entx (E.map (entT kv vv)) (S++[x.1])=some (.tup [.sc (kv x.2.1),.sc (vv x.2.2)]):=by
 intro E x hx hn
 have key:∀ E:List (Nat × K × V),x∈E→(E.map (·.1)).Nodup→(E.map (entT kv vv)).find? (fun y=>Nat.beq y.1 x.1)=some (entT kv vv x):=by
  intro E
  induction E with
  | nil=>intro h; cases h
  | cons y E ih=>
   intro hx hn
   rw [List.map_cons,List.nodup_cons] at hn
   rw [List.map_cons,List.find?_cons]
   rcases List.mem_cons.1 hx with rfl | hx
   ·rw [show Nat.beq (entT kv vv x).1 x.1=true from Nat.beq_refl _]
   ·have:Nat.beq (entT kv vv y).1 x.1=false:=by
     cases hb:Nat.beq (entT kv vv y).1 x.1 with
     | false=>rfl
     | true=>exact absurd (List.mem_map.2 ⟨x,hx,(Nat.eq_of_beq_eq_true hb).symm⟩) hn.1
    rw [this]
    exact ih hx hn.2
 unfold entx
 rw [List.getLast?_append]
 simp only [List.getLast?_singleton,Option.some_or]
 rw [key E hx hn]
 rfl
def Hnd.entE (vv:V→Value) {E:List (Nat × K × V)} {c:Nat} {L:List (K × V)} (hE:FmOk kv E c L) (S:List Nat) {x:Nat × K × V} (hx:x∈E):Hnd P G where
 run o st H:=match o.op with
  | .entry it=>match opd G st it with
   | some (.ptr q 0)=>match H[q]? with
    | some (.iter (some k) _ seen ck)=>match H[k]? with
     | some (.map es ck')=>some ⟨.tup [.sc (kv x.2.1),.sc (vv x.2.2)],H,[.es es,.ns seen,.n ck'],[.es (E.map (entT kv vv)),.ns (S++[x.1]),.n ck]⟩
     | _=>none
    | _=>none
   | _=>none
  | _=>none
 sound:=by
  intro n0 o st H y hr he
  split at hr
  ·rename_i it ho
   split at hr
   ·rename_i q hq
    split at hr
    ·rename_i k since seen ck hb
     split at hr
     ·rename_i es ck' hk
      simp only [Option.some.injEq] at hr; subst hr
      simp only [List.cons.injEq,T.es.injEq,T.ns.injEq,T.n.injEq,and_true] at he
      obtain⟨rfl,rfl,rfl⟩:=he
      exact(OpT.entry ho hq hb hk (Zqz S E x hx hE.nd)).weak
     ·cases hr
    ·cases hr
   ·cases hr
  ·cases hr
theorem Zo8 (w:World) (ty:TypeId) (bi bm since:Nat) (seen:Array Nat) (es:Array MapEntry) (clock:Nat) (hi:w.heap[bi]? = some (.mapIter (some bm) since seen clock)) (hb:w.heap[bm]? = some (.map es clock)) (hold:∀ x∈es.toList,x.born<since) (hsc:since≤clock) :
  ((∀ x∈es.toList,seen.contains x.born=true)∧(Instr.next (.pointer (some ⟨bi,0,none⟩)) false ty).run P w=.ok (.tuple #[.bool false]) w) ∨
  ∃ e∈es.toList,seen.contains e.born=false∧∃ w1:World,(w1=w∨w1=w.drew)∧(Instr.next (.pointer (some ⟨bi,0,none⟩)) false ty).run P w=.ok (.tuple #[.bool true,e.key,e.val]) { w1 with heap:=w1.heap.setIfInBounds bi (.mapIter (some bm) since (seen.push e.born) clock) }:=by
 simp only [Instr.next,getObj,Sem.run_bind,Sem.run,hi,hb,Result.andThen,next_test_false seen es since clock hold hsc,Bool.false_eq_true,if_false]
 have hmem:∀ x∈(Array.filter (fun e=>!seen.contains e.born) es).toList,x.born<since:=fun x hx=>hold x (by simp at hx ⊢; exact hx.1)
 have hsub:∀ x∈(Array.filter (fun e=>!seen.contains e.born) es).toList,x∈es.toList∧seen.contains x.born=false:=fun x hx=>by
  rw [Array.toList_filter,List.mem_filter] at hx
  exact⟨hx.1,by simpa using hx.2⟩
 have hnone:(Array.filter (fun e=>!seen.contains e.born) es).size=0→∀ x∈es.toList,seen.contains x.born=true:=fun h0 x hx=>by
  cases hc:seen.contains x.born with
  | true=>rfl
  | false=>
   have h1:x∈(Array.filter (fun e=>!seen.contains e.born) es).toList:=by
    rw [Array.toList_filter,List.mem_filter]
    exact⟨hx,by rw [hc]; rfl⟩
   have h2:(Array.filter (fun e=>!seen.contains e.born) es).toList=[]:=List.eq_nil_of_length_eq_zero (by rw [Array.length_toList]; exact h0)
   rw [h2] at h1; cases h1
 generalize Array.filter (fun e=>!seen.contains e.born) es=L at hmem hsub hnone ⊢
 have e1:L.filter (fun x=>decide (x.born<since))=L:=Array.filter_eq_self.2 (fun x hx=>by simpa using hmem x (by simpa using hx))
 have e2:L.filter (fun x=>decide (x.born ≥ since))=#[]:=by
  rw [Array.filter_eq_empty_iff]
  intro x hx
  have:=hmem x (by simpa using hx)
  simp
  omega
 simp only [e1,e2,Array.append_empty]
 by_cases h0:L.size=0
 ·left
  refine⟨hnone h0,?_⟩
  have:L=#[]:=Array.eq_empty_of_size_eq_zero h0
  subst this
  simp [choose,Sem.run,Question.forced]
 ·right
  have hne:L.isEmpty=false:=by simp [Array.isEmpty,h0]
  simp only [hne,Bool.false_eq_true,if_false,Array.empty_append,Array.size_map]
  have hch:∃(j:Nat) (w1:World),j<L.size∧(w1=w∨w1=w.drew)∧(choose (Question.mapNext L.size)).run P w=.ok j w1:=by
   by_cases hf:L.size≤1
   ·exact⟨0,w,by omega,.inl rfl,by simp [choose,Sem.run,Question.forced,hf]⟩
   ·exact⟨_,w.drew,Nat.mod_lt _ (by omega),.inr rfl,by
     simp only [choose,Sem.run,Question.forced,decide_eq_true_eq,hf,if_false,Question.cut]
     rfl⟩
  obtain⟨j,w1,hj,hal,hrun⟩:=hch
  have hLj:=hsub L[j] (by simp)
  refine⟨L[j],hLj.1,hLj.2,w1,hal,?_⟩
  have hi1:w1.heap[bi]? = some (.mapIter (some bm) since seen clock):=by
   rcases hal with rfl | rfl
   ·exact hi
   ·exact hi
  have hset:∀(o':Obj),(setObj bi o').run P w1=.ok () { w1 with heap:=w1.heap.setIfInBounds bi o' }:=fun o'=>by simp [setObj,Sem.run,hi1]
  simp only [hrun,Array.getElem?_map,Array.getElem?_eq_getElem hj,Option.map_some,Sem.run_bind,hset,Result.andThen]
  rfl
def nextShape (nt:Nat) (ops:Array Oper):Option (Nat × Nat × Nat):=match ops with
 | ⟨[o0,o1]⟩=>match o0.op,o0.dst,o0.guard,o1.op,o1.dst,o1.guard with
  | .next (.tmp it) false,some t,none,.extract (.tmp t') 0,some b,none=>if Nat.beq t t' && Nat.blt t nt && Nat.blt b nt && !Nat.beq t it && !Nat.beq b it && !Nat.beq b t then some (it,t,b) else none
  | _,_,_,_,_,_=>none
 | _=>none
theorem Zhd (st:St) (k:Nat) (p:PV):(st.put k p).get k=some p:=by simp [St.put,St.get]
def headV (r:PV):PV→Prop
 | .tup (x :: _)=>x=r
 | .sc (.tuple us)=>∃ u,us[0]? = some u∧r=.sc u
 | _=>False
theorem AWP.nextM {id:Nat} {ops:Array Oper} {it t b q i ck:Nat} {es:List Ent} {seen:List Nat} (hsh:nextShape nt ops=some (it,t,b)) (hit:st.get it=some (.ptr q 0)) (hq:H[q]? = some (.iter (some i) ck seen ck)) (hi:H[i]? = some (.map es ck))
  (hlt:∀ x∈es,x.1<ck)
  (over:(∀ x∈es,x.1∈seen)→Q .normal ((st.put t (.sc (.tuple #[.bool false]))).put b (.sc (.bool false))) H)
  (step:∀ x∈es,x.1 ∉ seen→Q .normal ((st.put t (.tup [.sc (.bool true),.sc x.2.1,x.2.2])).put b (.sc (.bool true))) (H.set q (.iter (some i) ck (seen++[x.1]) ck))):AWP P G n0 nt (.region id ops false) Q st H:=by
 unfold nextShape at hsh
 split at hsh
 ·rename_i o0 o1
  split at hsh
  ·rename_i it' t1 t2 b' ho0 hd0 hg0 ho1 hd1 hg1
   split at hsh
   ·rename_i hc
    simp only [Bool.and_eq_true,Bool.not_eq_true'] at hc
    obtain⟨⟨⟨⟨⟨c1,c2⟩,c3⟩,c4⟩,c5⟩,c6⟩:=hc
    have c1:=Nat.eq_of_beq_eq_true c1
    subst c1
    have c2:t1<nt:=Nat.le_of_ble_eq_true c2
    have c3:b'<nt:=Nat.le_of_ble_eq_true c3
    simp only [Option.some.injEq,Prod.mk.injEq] at hsh
    obtain⟨rfl,rfl,rfl⟩:=hsh
    refine AWP.region (l:=[0,1]) rfl ?_
    have rest:∀(p r:PV) (H':List Blk),headV r p→Q .normal ((st.put t1 p).put b' r) H'→AOps P G n0 nt #[o0,o1] [1] Q (st.put t1 p) H':=by
     intro p r H' hp hQ
     have hx:opd G (st.put t1 p) (.tmp t1)=some p:=Zhd st t1 p
     have hop:OpW P G n0 o1 (st.put t1 p) H' r H':=by
      unfold headV at hp
      split at hp
      ·rename_i x xs
       subst hp
       exact(OpT.extract ho1 hx rfl).weak
      ·rename_i us
       obtain⟨u,h1,rfl⟩:=hp
       refine(OpT.value fun c a w β _ hr=>?_:OpT P G n0 o1 _ H' (.sc u) H').weak
       have:=hr.opd hx
       simp only [VR] at this
       exact⟨u,by simp [execOp,ho1,this,Instr.extract,h1,Result.andThen],by simp only [VR]⟩
      ·exact hp.elim
     refine AOps.cons (o:=o1) rfl (by simpa [dstOk,hd1] using c3) (by simp [wantA,hg1]) hop (AOps.nil ?_)
     rw [hd1]; exact hQ
    intro c a w β h0 h1 hr
    have hw:wantA #[o0,o1] st o0=some true:=by simp [wantA,hg0]
    simp only [wpOps,show (#[o0,o1]:Array Oper)[0]? = some o0 from rfl,Zf3 hr hw,if_true]
    refine .inl ?_
    have g1:=hr.opd (x:=.tmp it') (p:=.ptr q 0) hit
    simp only [VR] at g1
    obtain⟨e,he,hv⟩:=g1
    obtain⟨mm,h2,_,f,hf,rfl⟩:=hr.blk q e _ he hq
    obtain⟨arr,h3,h4,h5⟩:=hr.blk i f _ hf hi
    have hborn:arr.toList.map (·.born)=es.map (·.1):=by
     have:=congrArg (List.map Prod.fst) h4
     simpa [Function.comp_def] using this
    have hold:∀ x∈arr.toList,x.born<ck:=fun x hx=>by
     have:x.born∈es.map (·.1):=by rw [← hborn]; exact List.mem_map_of_mem hx
     obtain⟨y,hy,hyb⟩:=List.mem_map.1 this
     rw [← hyb]; exact hlt y hy
    have hcon:∀ n,seen.toArray.contains n=true ↔ n∈seen:=fun n=>by simp
    refine Zgc (K:=fun v w'=>∃ β' p r H',RelB G c β' st H' a w'∧VR (stab c β' H' w') β' w' p v∧headV r p∧Q .normal ((st.put t1 p).put b' r) H') ?_ fun v w' ⟨β',p,r,H',k1,k2,k3,k4⟩=>?_
    ·rcases Zo8 (P:=P) w o0.type e.b f.b ck seen.toArray arr ck h2 h3 hold (Nat.le_refl _) with ⟨g2,g3⟩ | ⟨m,g2,g3,w1,g4,g5⟩
     ·have hex:(execOp a.eval o0).run P w=.ok (.value (.tuple #[.bool false])) w:=by simp [execOp,ho0,hv,g3]
      simp only [wpv,hex]
      refine⟨β,.sc (.tuple #[.bool false]),.sc (.bool false),H,hr,by simp only [VR],⟨_,rfl,rfl⟩,over fun x hx=>?_⟩
      have:x.1∈arr.toList.map (·.born):=by rw [hborn]; exact List.mem_map_of_mem hx
      obtain⟨y,hy,hyb⟩:=List.mem_map.1 this
      rw [← hyb]; exact(hcon _).1 (g2 y hy)
     ·have hex:(execOp a.eval o0).run P w=.ok (.value (.tuple #[.bool true,m.key,m.val])) { w1 with heap:=w1.heap.setIfInBounds e.b (.mapIter (some f.b) ck (seen.toArray.push m.born) ck) }:=by simp [execOp,ho0,hv,g5]
      simp only [wpv,hex]
      have hr1:RelB G c β st H a w1:=by
       rcases g4 with rfl | rfl
       ·exact hr
       ·exact hr.drew
      have hs1:stab c β H w1=stab c β H w:=by rcases g4 with rfl | rfl <;> rfl
      have h21:w1.heap[e.b]? = some (.mapIter (some f.b) ck seen.toArray ck):=by rcases g4 with rfl | rfl <;> exact h2
      obtain⟨j,hj⟩:=List.mem_iff_getElem?.1 g2
      have hjl:j<es.length:=by
       have:=congrArg List.length h4
       simp only [List.length_map] at this
       have:=(List.getElem?_eq_some_iff.1 hj).1
       omega
      have hje:es[j]? = some es[j]:=by simp [hjl]
      obtain⟨q1,q2⟩:=Znl h4 hj hje
      obtain⟨u,q3,q4⟩:=VRs.get _ _ h5 j es[j].2.2 (by rw [List.getElem?_map,hje]; rfl)
      rw [List.getElem?_map,hj] at q3
      simp only [Option.map_some,Option.some.injEq] at q3
      have gs:=hr1.setM (k':=.iter (some i) ck (seen++[m.born]) ck) he hq rfl rfl (fun h=>by cases h) (.mapIter (some f.b) ck (seen.toArray.push m.born) ck) h21 (fun _ _ _ h=>by cases h)
       (fun S' w' _ hw=>⟨some f.b,by rw [hw]; simp,by obtain⟨_,_,hlt',_⟩:=hr.blk q e _ he hq; exact hlt',f,hf,rfl⟩)
      refine⟨β,.tup [.sc (.bool true),.sc es[j].2.1,es[j].2.2],.sc (.bool true),_,gs.1,?_,rfl,?_⟩
      ·simp only [VR]
       refine⟨_,rfl,?_⟩
       show VRs _ _ _ [.sc (.bool true),.sc es[j].2.1,es[j].2.2] [.bool true,m.key,m.val]
       simp only [VRs,VR,and_true,true_and]
       refine⟨q2,?_⟩
       rw [q3]
       exact VR.ext_all gs.2 (BExt.refl _ _) (by
        rw [hs1]
        rcases g4 with rfl | rfl
        ·exact q4
        ·exact VR.ext_all (Ext.drew w) (BExt.refl _ _) q4)
      ·rw [q1]
       exact step es[j] (by simp) fun hin=>by
        have:=(hcon m.born).2 (by rw [q1]; exact hin)
        rw [g3] at this; cases this
    ·have hput:=k1.put k2 o0.dst (by rw [h1]; exact Ze4 (by simpa [dstOk,hd0] using c2))
     rw [hd0] at hput ⊢
     exact rest p r H' k3 k4 c _ w' β' h0 h1 hput
   ·cases hsh
  ·cases hsh
 ·cases hsh
def mfold {X σ ε:Type} (B:X→σ→Option (ε ⊕ σ)):List X→σ→Option (ε ⊕ σ)
 | [],s=>some (.inr s)
 | x :: l,s=>(B x s).bind fun o=>match o with
  | .inl e=>some (.inl e)
  | .inr s'=>mfold B l s'
theorem Zq0 {X σ ε:Type} {B:X→σ→Option (ε ⊕ σ)} {x:X} {l:List X} {s:σ} (h:(mfold B (x :: l) s).isSome=true):∃ o,B x s=some o:=by
 cases hb:B x s with
 | none=>simp [mfold,hb] at h
 | some o=>exact⟨o,rfl⟩
def keepsE (E E':List (Nat × K × V)) (n:Nat):Prop:=E'=E∨∃ p:Nat × K × V→Bool,E'=E.filter p∧∀ z∈E,z.1 ≠ n→p z=true
def remOf (E:List (Nat × K × V)) (S:List Nat):List (K × V):=(E.filter fun x=>!(S.contains x.1)).map (·.2)
theorem Zll {E E':List (Nat × K × V)} {S:List Nat} {n:Nat} (h:keepsE E E' n):remOf E' (S++[n])=remOf E (S++[n]):=by
 rcases h with rfl | ⟨p,rfl,hp⟩
 ·rfl
 ·unfold remOf
  rw [List.filter_filter]
  congr 1
  refine List.filter_congr fun z hz=>?_
  by_cases hn:z.1=n
  ·have:(S++[n]).contains z.1=true:=by simp [hn]
   rw [this]; cases p z <;> rfl
  ·rw [hp z hz hn]; simp
theorem Zmw {S:List Nat} {x:Nat × K × V}:∀ {E:List (Nat × K × V)},x∈E→x.1 ∉ S→(E.map (·.1)).Nodup→(remOf E S).Perm (x.2 :: remOf E (S++[x.1]))
 | [],h,_,_=>by cases h
 | y :: E,h,hs,hn=>by
  rw [List.map_cons,List.nodup_cons] at hn
  have same:∀ E:List (Nat × K × V),x.1 ∉ E.map (·.1)→remOf E (S++[x.1])=remOf E S:=fun E hE=>by
   unfold remOf
   congr 1
   refine List.filter_congr fun z hz=>?_
   have hne:z.1 ≠ x.1:=fun e=>hE (by rw [← e]; exact List.mem_map_of_mem hz)
   have:(S++[x.1]).contains z.1=S.contains z.1:=by
    rw [Bool.eq_iff_iff]; simp [hne]
   rw [this]
  rcases List.mem_cons.1 h with rfl | h
  ·have h1:remOf (x :: E) S=x.2 :: remOf E S:=by
    unfold remOf
    rw [List.filter_cons,if_pos (by simpa using hs)]; rfl
   have h2:remOf (x :: E) (S++[x.1])=remOf E (S++[x.1]):=by
    unfold remOf
    rw [List.filter_cons,if_neg (by simp)]
   rw [h1,h2,same E hn.1]
  ·have ih:=Zmw h hs hn.2
   have hne:y.1 ≠ x.1:=fun e=>hn.1 (by rw [e]; exact List.mem_map_of_mem h)
   have hc:(S++[x.1]).contains y.1=S.contains y.1:=by
    rw [Bool.eq_iff_iff]; simp [hne]
   unfold remOf at ih ⊢
   rw [List.filter_cons,List.filter_cons,hc]
   cases S.contains y.1 with
   | true=>simpa using ih
   | false=>
    simp only [Bool.not_false,if_true,List.map_cons]
    exact(ih.cons _).trans (.swap _ _ _)
def roundM {σ ε:Type} (kv:K→Value) (vv:V→Value) (M:σ→List (K × V)) (stf:σ→St) (Hf:σ→Blk→Blk→List Blk) (Qe:ε→Exit→St→List Blk→Prop) (i cl:Nat) (S:List Nat) (E:List (Nat × K × V)) (n:Nat) (o:ε ⊕ σ) (e:Exit) (st:St) (H:List Blk):Prop:=match o with
 | .inl y=>Qe y e st H
 | .inr s=>e=.normal∧∃ E',FmOk kv E' cl (M s)∧keepsE E E' n∧st=stf s∧H=Hf s (.map (E'.map (entT kv vv)) cl) (.iter (some i) cl (S++[n]) cl)
def overM {σ ε:Type} (kv:K→Value) (vv:V→Value) (M:σ→List (K × V)) (stf:σ→St) (Hf:σ→Blk→Blk→List Blk) (Qe:ε→Exit→St→List Blk→Prop) (i cl:Nat) (o:ε ⊕ σ) (e:Exit) (st:St) (H:List Blk):Prop:=match o with
 | .inl y=>Qe y e st H
 | .inr s=>e=.normal∧∃ E' S',FmOk kv E' cl (M s)∧st=stf s∧H=Hf s (.map (E'.map (entT kv vv)) cl) (.iter (some i) cl S' cl)
theorem AWP.rangeM {id r:Nat} {ops:Array Oper} {body:Code} {it t b i q cl:Nat} {σ ε:Type} (B:K × V→σ→Option (ε ⊕ σ)) (M:σ→List (K × V)) (stf:σ→St) (Hf:σ→Blk→Blk→List Blk) (Qe:ε→Exit→St→List Blk→Prop) {L:List (K × V)} {s0:σ} {E0:List (Nat × K × V)}
  (hsh:nextShape nt ops=some (it,t,b)) (hit:∀ s,(stf s).get it=some (.ptr q 0)) (hi:∀ s x y,(Hf s x y)[i]? = some x) (hq:∀ s x y,(Hf s x y)[q]? = some y) (hset:∀ s x y z,(Hf s x y).set q z=Hf s x z)
  (hdr:∀ s p r,((((stf s).put t p).put b r).pick ((stf s).map (·.1)))=stf s)
  (hQe:∀ y e st H,Qe y e st H→e ≠ .normal∧e ≠ .exit id) (hE0:FmOk kv E0 cl L) (hM:M s0=L) (hall:∀ l',l'.Perm L→(mfold B l' s0).isSome=true)
  (round:∀ E S (x:Nat × K × V) s o,B x.2 s=some o→x∈E→FmOk kv E cl (M s)→AWP P G n0 nt body (LeQ G n0 nt (roundM kv vv M stf Hf Qe i cl S E x.1 o)) (stf s) (Hf s (.map (E.map (entT kv vv)) cl) (.iter (some i) cl (S++[x.1]) cl))) :
  AWP P G n0 nt (.block id (.loop (.seq (.region r ops false) (.seq (.cond (.tmp b) .skip (.exit id)) body)))) (fun e st H=>∃ l':List (K × V),l'.Perm L∧∃ o,mfold B l' s0=some o∧overM kv vv M stf Hf Qe i cl o e st H)
   (stf s0) (Hf s0 (.map (E0.map (entT kv vv)) cl) (.iter (some i) cl [] cl)):=by
 refine AWP.bround (fun n st H=>∃(don:List (K × V)) (E:List (Nat × K × V)) (S:List Nat) (s:σ),n=(remOf E S).length∧(don++remOf E S).Perm L∧(∀ l',mfold B (don++l') s0=mfold B l' s)∧FmOk kv E cl (M s)∧st=stf s∧H=Hf s (.map (E.map (entT kv vv)) cl) (.iter (some i) cl S cl)) (remOf E0 []).length
  ⟨[],E0,[],s0,rfl,?_,fun _=>rfl,by rw [hM]; exact hE0,rfl,rfl⟩ ?_
 ·have:remOf E0 []=E0.map (·.2):=by
   unfold remOf
   rw [List.filter_eq_self.2 fun _ _=>by simp]
  rw [List.nil_append,this]
  exact hE0.perm
 ·rintro n st H ⟨don,E,S,s,rfl,hp,hf,hE,rfl,rfl⟩
  refine AWP.seq ?_
  refine AWP.nextM hsh (hit s) (hq _ _ _) (hi _ _ _) (fun x hx=>?_) (fun hover=>?_) (fun x hx hns=>?_)
  ·obtain⟨y,hy,rfl⟩:=List.mem_map.1 hx
   exact hE.lt y hy
  ·refine AWP.seq (AWP.cond (b:=false) (Zhd _ _ _) (fun h=>by cases h) fun _=>AWP.pick (hdr s _ _) (AWP.exit ?_))
   simp only [seqQ,roundQ,Nat.beq_refl]
   have hrem:remOf E S=[]:=by
    unfold remOf
    rw [List.map_eq_nil_iff,List.filter_eq_nil_iff]
    intro y hy
    have:=hover (entT kv vv y) (List.mem_map_of_mem hy)
    simpa [entT] using this
   rw [hrem,List.append_nil] at hp
   have h1:=hf []
   rw [List.append_nil] at h1
   exact⟨don,hp,.inr s,h1,rfl,E,S,hE,rfl,rfl⟩
  ·obtain⟨y,hy,rfl⟩:=List.mem_map.1 hx
   have hstep:=Zmw hy hns hE.nd
   have hp1:(don++y.2 :: remOf E (S++[y.1])).Perm L:=(hstep.symm.append_left don).trans hp
   have h1:=hall _ hp1
   rw [hf] at h1
   obtain⟨o,ho⟩:=Zq0 h1
   refine AWP.seq (AWP.cond (b:=true) (Zhd _ _ _) (fun _=>AWP.skip ?_) fun h=>by cases h)
   refine AWP.pick (hdr s _ _) ?_
   rw [hset]
   refine AWP.mid _ (round E S y s o ho hy hE) fun e st H hq=>?_
   unfold roundM at hq
   cases o with
   | inl z=>
    obtain⟨n1,n2⟩:=hQe z e st H hq
    have fin:∃ l':List (K × V),l'.Perm L∧∃ o,mfold B l' s0=some o∧overM kv vv M stf Hf Qe i cl o e st H:=
     ⟨_,hp1,.inl z,by rw [hf,mfold,ho]; rfl,hq⟩
    cases e with
    | normal=>exact absurd rfl n1
    | exit j=>
     simp only [roundQ]
     split
     ·rename_i hj
      exact absurd (by rw [Nat.eq_of_beq_eq_true hj]) n2
     ·exact fin
    | ret=>exact fin
    | goto l=>exact fin
    | panic ch=>exact fin
    | outgrown=>exact fin
   | inr s'=>
    obtain⟨rfl,E',g1,g2,rfl,rfl⟩:=hq
    refine LeQ.of ⟨(remOf E' (S++[y.1])).length,?_,don++[y.2],E',S++[y.1],s',rfl,?_,fun l'=>?_,g1,rfl,rfl⟩
    ·rw [Zll g2,hstep.length_eq]; simp
    ·rw [Zll g2,List.append_assoc]; exact hp1
    ·rw [List.append_assoc,hf,List.singleton_append,mfold,ho]; rfl
end
end Go.AM
namespace Go.AM
section
variable {P:Program} {G:Glob} {n0 nt:Nat} {o:Oper} {st:St} {H:List Blk} {Q:Exit→St→List Blk→Prop}
variable {K V:Type} {kv:K→Value} {vv:V→Value} {eqk:K→K→Bool} {kt:TypeId}
open Classical in
noncomputable def allp {X R:Type} (L:List X) (f:List X→Option R):Option R:=if h:∃ r,∀ l',l'.Perm L→f l'=some r then some h.choose else none
theorem allpb {X R:Type} {L:List X} {f:List X→Option R} {r:R} (h:allp L f=some r):∀ l',l'.Perm L→f l'=some r:=by
 unfold allp at h
 split at h
 ·rename_i hx
  simp only [Option.some.injEq] at h
  rw [← h]; exact hx.choose_spec
 ·cases h
theorem Ziq {X R:Type} {L:List X} {f:List X→Option R} {r:R} (h:∀ l',l'.Perm L→f l'=some r):allp L f=some r:=by
 have hx:∃ r,∀ l',l'.Perm L→f l'=some r:=⟨r,h⟩
 unfold allp
 rw [dif_pos hx,← hx.choose_spec L (List.Perm.refl _)]
 exact h L (List.Perm.refl _)
theorem overb {α γ:Type} {x:Option α} {f:α→Option γ} {r:γ} {a:α} (ha:x=some a) (h:x.bind f=some r):f a=some r:=by subst ha; exact h
theorem isb {α γ:Type} {x:Option α} {f:α→Option γ} {r:γ} (h:x.bind f=some r):x.isSome=true:=by
 cases x with
 | none=>cases h
 | some a=>rfl
theorem iteb {γ:Type} {c:Prop} [Decidable c] {a b:Option γ} {r:γ} (h:(if c then a else b)=some r):(c∧a=some r)∨(¬c∧b=some r):=by
 split at h
 ·exact .inl ⟨‹_›,h⟩
 ·exact .inr ⟨‹_›,h⟩
theorem AWP.openM {x:Code} (kv:K→Value) (vv:V→Value) (L:List (K × V)) (i:Nat) (h:∀ E cl,FmOk kv E cl L→AWP P G n0 nt x Q st (H.set i (.map (E.map (entT kv vv)) cl))) (hb:H[i]? = some (.fm (L.map (entF kv vv))):=by kernel_rfl):AWP P G n0 nt x Q st H:=fun c a w β h0 h1 hr=>
 let ⟨E,cl,h2,h3⟩:=hr.openM hb
 h E cl h2 c a w β h0 h1 h3
theorem Le.closeM {i:Nat} {E:List (Nat × K × V)} {cl:Nat} {L:List (K × V)} (hE:FmOk kv E cl L) (hb:H[i]? = some (.map (E.map (entT kv vv)) cl)):Le G n0 nt st H st (H.set i (.fm (L.map (entF kv vv)))):=fun _ _ _ β _ _ hr=>⟨β,hr.closeM hb hE⟩
theorem AWP.closeM {x:Code} (vv:V→Value) {E:List (Nat × K × V)} {cl:Nat} {L:List (K × V)} (i:Nat) (hE:FmOk kv E cl L) (h:AWP P G n0 nt x Q st (H.set i (.fm (L.map (entF kv vv))))) (hb:H[i]? = some (.map (E.map (entT kv vv)) cl):=by kernel_rfl):AWP P G n0 nt x Q st H:=AWP.le (Le.closeM hE hb) h
theorem LeQ.closeM {e:Exit} (vv:V→Value) {E:List (Nat × K × V)} {cl:Nat} {L:List (K × V)} (i:Nat) (hE:FmOk kv E cl L) (h:LeQ G n0 nt Q e st (H.set i (.fm (L.map (entF kv vv))))) (hb:H[i]? = some (.map (E.map (entT kv vv)) cl):=by kernel_rfl):LeQ G n0 nt Q e st H:=LeQ.le (Le.closeM hE hb) h
theorem AWP.permM {x:Code} (kv:K→Value) (vv:V→Value) {L L':List (K × V)} (i:Nat) (hp:L.Perm L') (h:AWP P G n0 nt x Q st (H.set i (.fm (L'.map (entF kv vv))))) (hb:H[i]? = some (.fm (L.map (entF kv vv))):=by kernel_rfl):AWP P G n0 nt x Q st H:=
 AWP.le (fun _ _ _ β _ _ hr=>⟨β,hr.permM hb (hp.map _)⟩) h
theorem farN {m:Nat}:([]:List Blk).all (Blk.farOk m)=true:=rfl
theorem farC {m:Nat} {k:Blk} {l:List Blk} (h:Blk.farOk m k=true) (hs:l.all (Blk.farOk m)=true):(k :: l).all (Blk.farOk m)=true:=by
 rw [List.all_cons,h,hs]; rfl
theorem farM {m cl:Nat} {E:List (Nat × K × V)} {l:List Blk} (hs:l.all (Blk.farOk m)=true):(.map (E.map (entT kv vv)) cl :: l).all (Blk.farOk m)=true:=by
 refine farC ?_ hs
 show PV.idss (fun j=>decide (j<m)) ((E.map (entT kv vv)).map (·.2.2))=true
 induction E with
 | nil=>rfl
 | cons x E ih=>simp only [List.map_cons,PV.idss,ih,Bool.and_true]; rfl
def Hnd.ptrNil:Hnd P G where
 run o st H:=match o.op with
  | .binOp op t x y _=>match P.underlying t,opd G st x,opd G st y with
   | some (.pointer _),some (.ptr _ _),some (.sc (.pointer none))=>match op with
    | .eql=>some ⟨.sc (.bool false),H,[],[]⟩
    | .neq=>some ⟨.sc (.bool true),H,[],[]⟩
    | _=>none
   | _,_,_=>none
  | _=>none
 sound:=by
  intro n0 o st H z hr _
  split at hr
  ·rename_i op t x y t' ho
   split at hr
   ·rename_i e i off hu hx hy
    cases op with
    | eql=>simp only [Option.some.injEq] at hr; subst hr; exact(OpT.ptrNil ho hu hx trivial hy).weak
    | neq=>simp only [Option.some.injEq] at hr; subst hr; exact(OpT.ptrNotNil ho hu hx trivial hy).weak
    | _=>cases hr
   ·cases hr
  ·cases hr
def isStr (P:Program) (t:TypeId):Bool:=match P.underlying t with
 | some (.struct _)=>true
 | _=>false
def isInt (P:Program) (t:TypeId):Bool:=match P.underlying t with
 | some (.int _)=>true
 | _=>false
def Value.prim:Value→Bool
 | .bool _=>true
 | .int _ _=>true
 | _=>false
theorem Zj0 {v:Value} (h:Value.prim v=true) (n:Nat):Instr.sameBits n v v=true:=by
 unfold Value.prim at h
 split at h
 ·simp [Instr.sameBits]
 ·simp [Instr.sameBits]
 ·cases h
theorem Zir (n:Nat):∀(l:List Value),l.all Value.prim=true→(l.zip l).all (fun x=>Instr.sameBits n x.1 x.2)=true
 | [],_=>rfl
 | v :: l,h=>by
  simp only [List.all_cons,Bool.and_eq_true] at h
  simp only [List.zip_cons_cons,List.all_cons,Zj0 h.1 n,Zir n l h.2,Bool.and_self]
theorem Zo9 {l:List Value} (h:l.all Value.prim=true):Instr.sameBits 10000 (.agg ⟨l⟩) (.agg ⟨l⟩)=true:=by
 show Instr.sameBits (9999 + 1) (.agg ⟨l⟩) (.agg ⟨l⟩)=true
 simp only [Instr.sameBits,beq_self_eq_true,Bool.true_and]
 exact Zir 9999 l h
theorem KeyOk.struct {vs:K→List Value} (h:isStr P kt=true) (chk:∀ a,chkK P 20 kt (.agg ⟨vs a⟩)=true) (cmp:∀ a b,flatEq P 50 kt (.agg ⟨vs a⟩) (.agg ⟨vs b⟩)=some (eqk a b)) (hp:∀ a,(vs a).all Value.prim=true) (eq:∀ a b,eqk a b=true ↔ a=b):KeyOk P kt (fun a=>.agg ⟨vs a⟩) eqk:=by
 refine⟨chk,cmp,?_,fun a=>Zo9 (hp a),eq⟩
 unfold isStr at h
 split at h
 ·rename_i fs hf
  exact⟨_,hf,.inl fun _ _=>rfl⟩
 ·cases h
theorem KeyOk.int {k:IntKind} (h:isInt P kt=true) (chk:∀ a,chkK P 20 kt (.int k a)=true) (cmp:∀ a b:Int,flatEq P 50 kt (.int k a) (.int k b)=some (a == b)):KeyOk P kt (fun a:Int=>.int k a) (fun a b=>a == b):=by
 refine⟨chk,cmp,?_,fun a=>Zj0 rfl _,fun a b=>by simp⟩
 unfold isInt at h
 split at h
 ·rename_i k' hf
  exact⟨_,hf,.inr fun a b=>by simp [Instr.sameNow]⟩
 ·cases h
theorem roundM.mk {σ ε:Type} {M:σ→List (K × V)} {stf:σ→St} {Hf:σ→Blk→Blk→List Blk} {Qe:ε→Exit→St→List Blk→Prop} {i cl:Nat} {S:List Nat} {E E':List (Nat × K × V)} {n:Nat} {s:σ} {L:List (K × V)} (hE:FmOk kv E' cl L) (hk:keepsE E E' n) (hL:L=M s:=by kernel_rfl)
  (hst:st=stf s:=by kernel_rfl) (hH:H=Hf s (.map (E'.map (entT kv vv)) cl) (.iter (some i) cl (S++[n]) cl):=by kernel_rfl):roundM kv vv M stf Hf Qe i cl S E n (.inr s) .normal st H:=⟨rfl,E',by rw [← hL]; exact hE,hk,hst,hH⟩
theorem roundM.ret {σ ε:Type} {M:σ→List (K × V)} {stf:σ→St} {Hf:σ→Blk→Blk→List Blk} {Qe:ε→Exit→St→List Blk→Prop} {i cl:Nat} {S:List Nat} {E:List (Nat × K × V)} {n:Nat} {y:ε} {e:Exit} (h:Qe y e st H):roundM kv vv M stf Hf Qe i cl S E n (.inl y) e st H:=h
theorem keepsE.del (h:KeyOk P kt kv eqk) {E:List (Nat × K × V)} {cl:Nat} {L:List (K × V)} (hE:FmOk kv E cl L) {x:Nat × K × V} (hx:x∈E):keepsE E (E.filter fun y=>!eqk x.2.1 y.2.1) x.1:=by
 refine .inr ⟨_,rfl,fun z hz hne=>?_⟩
 cases hq:eqk x.2.1 z.2.1 with
 | false=>rfl
 | true=>
  exfalso
  have e1:=(h.eq _ _).1 hq
  obtain⟨i,hi⟩:=List.mem_iff_getElem?.1 hx
  obtain⟨j,hj⟩:=List.mem_iff_getElem?.1 hz
  have hij:i=j:=by
   refine(List.getElem?_inj (by rw [List.length_map,List.length_map]; exact(List.getElem?_eq_some_iff.1 hi).1) hE.keysE).1 ?_
   simp only [List.getElem?_map,hi,hj,Option.map_some,e1]
  subst hij
  rw [hi] at hj
  simp only [Option.some.injEq] at hj
  exact hne (by rw [hj])
theorem retNe {e:Exit} {id:Nat} (h:e=.ret):e ≠ .normal∧e ≠ .exit id:=by
 subst h
 exact⟨(fun h=>by cases h),(fun h=>by cases h)⟩
theorem AWP.rangeQ {id r:Nat} {ops:Array Oper} {body:Code} {it t b i q cl:Nat} {σ ε:Type} {B:K × V→σ→Option (ε ⊕ σ)} {M:σ→List (K × V)} {stf:σ→St} {Hf:σ→Blk→Blk→List Blk} {Qe:ε→Exit→St→List Blk→Prop} {L:List (K × V)} {si_:σ} {Ei_:List (Nat × K × V)}
  (hsh:nextShape nt ops=some (it,t,b)) (hit:∀ s,(stf s).get it=some (.ptr q 0)) (hi:∀ s x y,(Hf s x y)[i]? = some x) (hq:∀ s x y,(Hf s x y)[q]? = some y) (hset:∀ s x y z,(Hf s x y).set q z=Hf s x z)
  (hdr:∀ s p r,((((stf s).put t p).put b r).pick ((stf s).map (·.1)))=stf s)
  (hQe:∀ y e st H,Qe y e st H→e ≠ .normal∧e ≠ .exit id) (hE0:FmOk kv Ei_ cl L) (hM:M si_=L) (hall:∀ l',l'.Perm L→(mfold B l' si_).isSome=true)
  (hst:st=stf si_) (hH:H=Hf si_ (.map (Ei_.map (entT kv vv)) cl) (.iter (some i) cl [] cl))
  (round:∀ E S (x:Nat × K × V) s o,B x.2 s=some o→x∈E→FmOk kv E cl (M s)→AWP P G n0 nt body (LeQ G n0 nt (roundM kv vv M stf Hf Qe i cl S E x.1 o)) (stf s) (Hf s (.map (E.map (entT kv vv)) cl) (.iter (some i) cl (S++[x.1]) cl)))
  (k:∀ l' o,l'.Perm L→mfold B l' si_=some o→∀ e st H,overM kv vv M stf Hf Qe i cl o e st H→Q e st H) :
  AWP P G n0 nt (.block id (.loop (.seq (.region r ops false) (.seq (.cond (.tmp b) .skip (.exit id)) body)))) Q st H:=by
 subst hst hH
 exact(AWP.rangeM B M stf Hf Qe hsh hit hi hq hset hdr hQe hE0 hM hall round).mono fun e st H ⟨l',hp,o,ho,h⟩=>k l' o hp ho e st H h
def Hnd.callS {f:FuncId} {fn:Func} {args0:List PV} {H0 H1:List Blk} {p1:PV} (hfn:P.funcs[f]? = some fn) (σ:List Nat) (ws:List Ow) (hc:ACall P G f args0 H0 (fun q K=>q=p1∧K=H1)):Hnd P G where
 run o st H:=match o.op with
  | .call cl=>match cl.callee with
   | .value x=>match opd G st x,opdL G st cl.args.toList with
    | some px,some ps=>match wkArgs P H false fn.params.toList ps ws with
     | some (qs,l,r)=>
      if fn.body.isNone=false∧(fn.name == "runtime.NumGoroutine")=false∧σ.Pairwise (·<·)∧H0.all Blk.isCells=true then
       some ⟨p1.ren (renId σ H.length),setAll σ (H1.map (Blk.ren (renId σ H.length))) H,.p px :: .ps qs :: .bs (H0.map (fun k=>some (k.ren (renId σ H.length)))) :: l,
        .p (.sc (.func (.func f) #[] #[])) :: .ps (PV.rens (renId σ H.length) args0) :: .bs (σ.map (H[·]?)) :: r⟩
      else none
     | _=>none
    | _,_=>none
   | _=>none
  | _=>none
 sound:=by
  intro n0 o st H x h he
  suffices hT:OpT P G n0 o st H x.p x.H from hT.weak
  split at h
  ·rename_i cl ho
   split at h
   ·rename_i x hcl
    split at h
    ·rename_i px ps hx hps
     split at h
     ·rename_i qs l r hw
      split at h
      ·rename_i hcond
       obtain⟨c1,c2,c3,c4⟩:=hcond
       simp only [Option.some.injEq] at h
       subst h
       simp only [List.cons.injEq,T.p.injEq,T.ps.injEq,T.bs.injEq] at he
       obtain⟨h1,h2,h3,h4⟩:=he
       subst h1
       exact OpT.call (caps:=[]) ho hcl (.inl ⟨hx,rfl⟩) hfn c1 c2 (Zcx _ _ hps) (by rw [List.append_nil]; exact Ze5 _ _ _ _ hw h4) h2 c3 c4 h3 hc rfl rfl
      ·cases h
     ·cases h
    ·cases h
   ·cases h
  ·cases h
variable {α:Type}
def Hnd.stSh (row:α→List PV) (l:List α):Hnd P G where
 run o st H:=match o.op with
  | .store t x y=>match opd G st x,opd G st y with
   | some (.ptr i off),some (.own j n)=>match H[i]?,H[j]? with
    | some (.cells cs),some (.buf s _ xs true)=>
     let cs':=cs.take off++[.sl s (l.map row)]++cs.drop (off + 1)
     if Nat.beq (P.cellsOf t) 1 && (P.info? t).isSome && Nat.ble (off + 1) cs.length && PV.idss (fun j=>decide (j<i)) cs' then some ⟨.sc undef,H.set i (.cells cs'),[.n n,.rs xs],[.n l.length,.rs (l.map row)]⟩ else none
    | _,_=>none
   | _,_=>none
  | _=>none
 sound:=by
  intro n0 o st H z hr he
  split at hr
  ·rename_i t x y ho
   split at hr
   ·rename_i i off j n hx hy
    split at hr
    ·rename_i cs s ty xs hc hb
     simp only [] at hr
     split at hr
     ·rename_i hcc
      simp only [Bool.and_eq_true] at hcc
      obtain⟨⟨⟨c1,c2⟩,c3⟩,c4⟩:=hcc
      simp only [Option.some.injEq] at hr
      subst hr
      simp only [List.cons.injEq,T.rs.injEq,T.n.injEq,and_true] at he
      obtain⟨rfl,rfl⟩:=he
      intro c a w β h0 hr
      have hv:=hr.opd hy
      have hw:Wk H false (.own j l.length) (.sl s (l.map row)):=Wk.ownT hb (.inr rfl)
      have hv':=hr.wk hv hw
      have g1:=hr.opd hx
      simp only [VR] at g1
      obtain⟨e,h2,h3⟩:=g1
      obtain⟨h4,vs,ty',h5,h6⟩:=hr.blk i e _ h2 hc
      have c1:=Nat.eq_of_beq_eq_true c1
      have c3:=Nat.le_of_ble_eq_true c3
      have h1:(a.eval y).oneCell'=true:=VR.one (p:=.sl s (l.map row)) rfl hv'
      have hcy:(a.eval y).cells.toList=[a.eval y]:=Zfi h1
      have hlv:=VRs.length _ _ h6
      have hrun:=Zc5 P e.b off ty' (a.eval y).cells.toList 0 vs w h5 (by rw [hcy]; simp at hlv ⊢; omega) (by rw [hcy]; simpa using h1)
      obtain⟨ti,hti⟩:=Option.isSome_iff_exists.1 c2
      have hsz:(sizeOf t).run P w=.ok (a.eval y).cells.size w:=by
       rw [run_sizeOf w hti,c1]
       have:=congrArg List.length hcy
       simpa using this.symm
      have hex:(execOp a.eval o).run P w=.ok .skip (w.setRow e.b (vs.toList.take (off + 0)++(a.eval y).cells.toList++vs.toList.drop (off + 0 + (a.eval y).cells.toList.length)).toArray):=by
       simp only [execOp,ho,Instr.storeAt,h3,Instr.sureAddr,storeVar]
       simp [hsz,hrun]
      simp only [wpv,hex]
      have g2:VRs (stab c β H w) β w [.sl s (l.map row)] (a.eval y).cells.toList:=by
       rw [hcy]
       simp only [VRs,and_true]
       exact hv'
      have hlu:=VRs.length _ _ g2
      have hwr:=hr.write h2 hc (us:=(vs.toList.take (off + 0)++(a.eval y).cells.toList++vs.toList.drop (off + 0 + (a.eval y).cells.toList.length)).toArray) (cs':=cs.take off++[.sl s (l.map row)]++cs.drop (off + 1)) ?_ c4 (by simp only [List.length_append,List.length_take,List.length_drop,List.length_cons,List.length_nil]; omega)
      ·exact⟨β,hwr.1,by simp only [VR]⟩
      ·simp only [Nat.add_zero]
       rw [hlu]
       exact VRs.append _ _ _ _ (VRs.append _ _ _ _ (VRs.take _ _ _ h6) g2) (VRs.drop _ _ _ h6)
     ·cases hr
    ·cases hr
   ·cases hr
  ·cases hr
end
end Go.AM
namespace Go.AM
noncomputable def canonM {X:Type} (l:List X):List X:=Classical.choose (Quotient.exists_rep (Quotient.mk (List.isSetoid X) l))
theorem Zlm {X:Type} (l:List X):l.Perm (canonM l):=by
 have h:=Classical.choose_spec (Quotient.exists_rep (Quotient.mk (List.isSetoid X) l))
 exact(Quotient.exact h:List.Perm (canonM l) l).symm
theorem Zrp {X:Type} {l m:List X} (h:l.Perm m):canonM l=canonM m:=by
 have e:Quotient.mk (List.isSetoid X) l=Quotient.mk (List.isSetoid X) m:=Quotient.sound h
 unfold canonM
 simp only [e]
section
variable {P:Program} {G:Glob} {α:Type}
def Hnd.stShA (row:α→List PV) (l:List α):Hnd P G where
 run o st H:=match o.op with
  | .store _ _ y=>match opd G st y with
   | some (.own j _)=>match H[j]? with
    | some (.buf s ty xs _)=>(Hnd.stSh (P:=P) (G:=G) row l).run o st (H.set j (.buf s ty xs true))
    | _=>none
   | _=>none
  | _=>none
 sound:=by
  intro n0 o st H z hr he
  split at hr
  ·split at hr
   ·split at hr
    ·rename_i hb
     intro c a w β h0 hrl
     exact(Hnd.stSh (P:=P) (G:=G) row l).sound hr he c a w β h0 (hrl.share hb)
    ·cases hr
   ·cases hr
  ·cases hr
variable {n0 nt:Nat} {st:St} {H:List Blk} {Q:Exit→St→List Blk→Prop}
theorem AWP.swap {x:Code} {st':St} {H':List Blk} (i j:Nat) {a b:Blk} (h:AWP P G n0 nt x Q st' H') (hi:H[i]? = some a:=by kernel_rfl) (hj:H[j]? = some b:=by kernel_rfl) (h1:Nat.ble n0 i=true:=by kernel_rfl) (h2:Nat.ble n0 j=true:=by kernel_rfl)
  (hok:okIds (swapB i j a b H)=true:=by kernel_rfl) (hs:(st.map fun z=>(z.1,z.2.ren (sw i j)))=st':=by kernel_rfl) (hH:swapB i j a b H=H':=by kernel_rfl):AWP P G n0 nt x Q st H:=by
 subst hs hH
 exact AWP.le (fun _ _ _ _ h0 _ hr=>hr.swap hi hj h0 (Nat.le_of_ble_eq_true h1) (Nat.le_of_ble_eq_true h2) hok) h
end
end Go.AM
namespace Go.AM
open Go.Proofs Go.Sort
section
variable {α:Type}
def cmpOf (c:α→α→Option Int) (x y:α):Int:=(c x y).getD 0
open Classical in
noncomputable def sortFn [Inhabited α] (c:α→α→Option Int) (l:List α):Option (List α):=
 if (∀ x y,(c x y).isSome=true)∧SWO (ltOf (cmpOf c))∧l.length<4611686018427387904 then some (pdq (ltOf (cmpOf c)) l.toArray 0 l.length (Lib.bitLen l.length) true true).toList else none
theorem Zln [Inhabited α] {c:α→α→Option Int} {l l':List α} (h:sortFn c l=some l'):(∀ x y,c x y=some (cmpOf c x y))∧SWO (ltOf (cmpOf c))∧l.length<4611686018427387904∧l'=(pdq (ltOf (cmpOf c)) l.toArray 0 l.length (Lib.bitLen l.length) true true).toList:=by
 unfold sortFn at h
 split at h
 ·rename_i hc
  simp only [Option.some.injEq] at h
  refine⟨fun x y=>?_,hc.2.1,hc.2.2,h.symm⟩
  obtain⟨r,hr⟩:=Option.isSome_iff_exists.1 (hc.1 x y)
  simp [cmpOf,hr]
 ·cases h
theorem Zlo [Inhabited α] {c:α→α→Option Int} {l l':List α} (h:sortFn c l=some l'):l'.Perm l∧l'.Pairwise (fun x y=>ltOf (cmpOf c) y x=false):=by
 obtain⟨_,h2,_,rfl⟩:=Zln h
 obtain⟨⟨p1,_,p3⟩,hs⟩:=pdq_sorts (ltOf (cmpOf c)) h2 l.toArray 0 l.length (Lib.bitLen l.length) true true (Nat.zero_le _) (by simp) (Or.inl rfl)
 generalize pdq (ltOf (cmpOf c)) l.toArray 0 l.length (Lib.bitLen l.length) true true=d at p1 p3 hs
 have hsz:d.size=l.length:=by simpa using p1
 constructor
 ·have e1:d.extract 0 l.length=d:=by rw [← hsz]; exact Array.extract_size
  have e2:l.toArray.extract 0 l.length=l.toArray:=by
   simp
  rw [e1,e2] at p3
  simp at p3
  exact p3
 ·rw [List.pairwise_iff_getElem]
  intro i j hi hj hij
  have hi':i<d.size:=by simpa using hi
  have hj':j<d.size:=by simpa using hj
  have:=hs i j (Nat.zero_le _) hij (by omega)
  rw [getElem!_pos d j hj',getElem!_pos d i hi'] at this
  simpa using this
theorem Zq1 [Inhabited α] {c:α→α→Option Int} {l l':List α} (h:sortFn c l=some l'):l'.length=l.length:=(Zlo h).1.length_eq
theorem Zmx [Inhabited α] (vs:α→List Value) {k:Nat} (hk:∀ x,(vs x).length=k) (d:Array α):(flatK vs k d).toList=(d.toList.map vs).flatten:=by
 have hlen:((d.toList.map vs).flatten).length=d.size * k:=by
  have:∀ l:List α,((l.map vs).flatten).length=l.length * k:=by
   intro l
   induction l with
   | nil=>simp
   | cons x l ih=>simp only [List.map_cons,List.flatten_cons,List.length_append,ih,hk,List.length_cons,Nat.add_mul]; omega
  rw [this]; simp
 have key:∀(l:List α) (t:Nat),t<l.length * k→((l.map vs).flatten)[t]? = (l[t / k]?).bind fun x=>(vs x)[t % k]?:=by
  intro l
  induction l with
  | nil=>intro t ht; simp at ht
  | cons x l ih=>
   intro t ht
   have k0:0<k:=by
    rcases Nat.eq_zero_or_pos k with h | h
    ·subst h; simp at ht
    ·exact h
   simp only [List.map_cons,List.flatten_cons]
   by_cases h:t<k
   ·rw [List.getElem?_append_left (by rw [hk]; exact h),Nat.div_eq_of_lt h,Nat.mod_eq_of_lt h]
    simp
   ·rw [List.getElem?_append_right (by rw [hk]; omega),hk,ih (t - k) (by simp only [List.length_cons,Nat.add_mul,Nat.one_mul] at ht; omega)]
    have e1:t / k=(t - k) / k + 1:=by
     rw [Nat.div_eq_sub_div k0 (by omega)]
    have e2:t % k=(t - k) % k:=by rw [Nat.mod_eq_sub_mod (by omega)]
    rw [e1,e2,List.getElem?_cons_succ]
 apply List.ext_getElem?
 intro t
 by_cases ht:t<d.size * k
 ·have k0:0<k:=by
   rcases Nat.eq_zero_or_pos k with h | h
   ·subst h; simp at ht
   ·exact h
  have hd:t / k<d.size:=Nat.div_lt_of_lt_mul (by rw [Nat.mul_comm]; exact ht)
  rw [key d.toList t (by simpa using ht)]
  have h1:=get_flatK vs k d t ht
  have hs:t<(flatK vs k d).size:=by simpa using ht
  rw [getElem!_pos _ t hs] at h1
  rw [Array.getElem?_toList,Array.getElem?_eq_getElem hs,h1,Array.getElem?_toList,Array.getElem?_eq_getElem hd,getElem!_pos d _ hd]
  have hm:t % k<(vs d[t / k]).length:=by rw [hk]; exact Nat.mod_lt _ k0
  simp only [Option.bind_some]
  rw [List.getElem?_eq_getElem hm,getElem!_pos (vs d[t / k]) _ hm]
 ·rw [List.getElem?_eq_none (by simpa using ht),List.getElem?_eq_none (by rw [hlen]; omega)]
theorem Zom (F:Array Value) (c:Array Value) (h:F.size≤c.size):(putCells id 0 F c).toList=F.toList++c.toList.drop F.size:=by
 apply List.ext_getElem?
 intro i
 unfold putCells
 rw [Array.getElem?_toList,Array.getElem?_mapIdx]
 by_cases hi:i<F.size
 ·rw [List.getElem?_append_left (by simpa using hi),Array.getElem?_eq_getElem (show i<c.size by omega),Array.getElem?_toList,Array.getElem?_eq_getElem hi]
  simp only [Option.map_some,Option.some.injEq]
  rw [if_pos ⟨Nat.zero_le _,by omega⟩]
  simp only [id,Nat.sub_zero]
  rw [getElem!_pos F i hi]
 ·rw [List.getElem?_append_right (by simpa using Nat.le_of_not_lt hi),List.getElem?_drop]
  have e:F.size + (i - F.toList.length)=i:=by simp only [Array.length_toList]; omega
  rw [e,Array.getElem?_toList]
  cases c[i]? with
  | none=>rfl
  | some v=>
   simp only [Option.map_some,Option.some.injEq]
   rw [if_neg (by omega)]
end
section
variable {P:Program} {G:Glob} {n0:Nat} {α:Type} [Inhabited α] {ρ:Go.Shelf.Ren}
theorem ACall.sortF (L:SlLaysF0.n6 P ρ) {k:Nat} (aE:∀ w,(isAgg (ρ.t 24)).run P w=.ok true w) (zE:∀ w,(Go.sizeOf (ρ.t 24)).run P w=.ok k w) (vs:α→List Value) (hk:∀ x,(vs x).length=k) (h1:∀ x,∀ v∈vs x,v.oneCell'=true)
  {c:α→α→Option Int} {g:Nat} (eg:∀ args w,(callFunc g args).run P w=.ok (.enter g args) w) (hc:∀ x y r,c x y=some r→ACall P G g [.sc (.agg ⟨vs x⟩),.sc (.agg ⟨vs y⟩)] [] (fun p K=>p=.sc (.int .i64 r)∧K=[]))
  {l l':List α} (hs:sortFn c l=some l') (hne:l ≠ []) (sp:List Value) :
  ACall P G (ρ.f 6) [.vw 0 0 l.length,.sc (.func (.func g) #[] #[])] [.cells (cel (fun x=>(vs x).map .sc) l sp)] (fun q K=>q=.tup []∧K=[.cells (cel (fun x=>(vs x).map .sc) l' sp)]):=by
 have hl':=Zq1 hs
 obtain⟨hcs,hO,hsz,hdl⟩:=Zln hs
 intro S0 β0 w cargs hin hargs
 obtain⟨ca⟩:=cargs
 have hlen:=hin.len
 obtain⟨e,rfl⟩:∃ e,β0=[e]:=by
  cases β0 with
  | nil=>simp at hlen
  | cons e t=>
   cases t with
   | nil=>exact⟨e,rfl⟩
   | cons _ _=>simp at hlen
 match ca,hargs with
 | [u0,u1],hargs=>
  simp only [VRs,VR,and_true] at hargs
  obtain⟨⟨e',he',cap,ad,hcap,rfl,had⟩,rfl⟩:=hargs
  simp only [List.getElem?_cons_zero,Option.some.injEq] at he'
  subst he'
  have hn0:l.length ≠ 0:=by simpa using hne
  have had:=had hn0
  subst had
  obtain⟨_,hidss,vals,t,hrow,hv⟩:=hin.blk 0 e _ rfl rfl
  have hcel:∀(l:List α),cel (fun x=>(vs x).map .sc) l sp=((l.map vs).flatten++sp).map .sc:=fun l=>by
   unfold cel
   rw [List.map_append,List.map_flatten,List.map_map]; rfl
  rw [hcel] at hv
  have hvals:=VRs.scs_iff _ _ hv
  have hblk:=Zg7 hrow
  have hfl:=Zmx vs hk l.toArray
  have hfs:(flatK vs k l.toArray).size≤vals.size:=by
   have:=congrArg List.length hvals
   rw [← Array.length_toList,← Array.length_toList,hfl,this]
   simp
  have hH:HoldsK vs k w e.b 0 l.toArray:=by
   intro j hj
   have hj':j<vals.size:=by omega
   have hcell:w.cell? ⟨e.b,0 + j,none⟩=vals[j]?:=Zdw hrow (0 + j) |>.trans (by rw [Nat.zero_add])
   constructor
   ·rw [hcell]
    have h2:(flatK vs k l.toArray).toList[j]? = some (flatK vs k l.toArray)[j]:=by rw [Array.getElem?_toList,Array.getElem?_eq_getElem hj]
    rw [hfl] at h2
    simp only [id]
    rw [getElem!_pos _ j hj,← h2,← Array.getElem?_toList,hvals]
    have hj2:j<((l.map vs).flatten).length:=by
     have h3:=congrArg List.length hfl
     simp only [Array.length_toList] at h3
     rw [← h3]; exact hj
    rw [List.getElem?_append_left hj2]
   ·obtain⟨fz,hz,hok⟩:=hrow
    obtain⟨lo,hi⟩:=fz
    simp only [World.frozen?,hz,Nat.zero_add]
    rcases hok with hok | hok
    ·simp only at hok
     rw [Bool.and_eq_false_iff]
     by_cases hh:lo≤j
     ·right; simp; omega
     ·left; simpa using hh
    ·simp only at hok
     rw [Bool.and_eq_false_iff]
     left; simp; omega
  have hcmp:CmpLays P g #[] vs k (cmpOf c) e.b 0 l.toArray.size w:=by
   intro m os dk _ x y
   have hca:=hc x y _ (hcs x y) S0 [] (sortWorldK vs k w e.b 0 m dk os) #[.agg ⟨vs x⟩,.agg ⟨vs y⟩]
   generalize hW:sortWorldK vs k w e.b 0 m dk os=W at hca ⊢
   have hsize:w.heap.size≤W.heap.size:=by rw [← hW]; simp [sortWorldK,grow,putRowK,putRow,mapBlock,ahead]
   have hcellW:∀ b o,b ≠ e.b→b<w.heap.size→W.cell? ⟨b,o,none⟩=w.cell? ⟨b,o,none⟩:=fun b o hb hbl=>by
    rw [← hW]
    unfold sortWorldK
    rw [cell?_grow _ _ _ (by simpa [putRowK,putRow,mapBlock,ahead] using hbl),cell?_putRowK_other _ _ _ _ _ _ _ hb]
    rfl
   have hext:Ext S0 w S0 W:=⟨fun _ _ h=>h,fun b hi o v hS _ hcv=>by
    obtain⟨q1,q2⟩:=hin.ctx.old b hi hS
    rw [hcellW b o (Ne.symm (q2 e (by simp))) q1]; exact hcv⟩
   have hinW:InOk G S0 [] [] W:=by
    refine⟨⟨fun b hi hS=>⟨Nat.lt_of_lt_of_le (hin.ctx.old b hi hS).1 hsize,fun _ h=>(by cases h)⟩,fun gg cs hg=>?_,fun _ h=>(by cases h),hin.ctx.down⟩,rfl,fun i e k h=>(by simp at h),fun i j e f _ h=>(by simp at h)⟩
    obtain⟨q1,q2⟩:=hin.ctx.glob gg cs hg
    exact⟨q1,VRow.ext hext (BExt.refl _ _) gg cs.length q1 cs 0 (by omega) (PV.idss_true cs) q2⟩
   refine(hca hinW (by simp only [VRs,VR,and_self])).mono ?_
   rintro ee w' ⟨v,p,H',γ,rfl,⟨rfl,rfl⟩,ho,hv⟩
   simp only [VR] at hv
   subst hv
   have hγ:γ=[]:=by have:=ho.len; simpa using this
   subst hγ
   refine⟨rfl,w'.drawn - W.drawn,w'.heap.extract W.heap.size w'.heap.size,?_⟩
   have f1:=ho.frm.os
   have f2:=ho.frm.tape
   have f3:=ho.frm.output
   have f4:=ho.frm.size
   have f5:=ho.frm.drawn
   simp only at f1 f2 f3 f4 f5
   have f6:w'.heap=W.heap++w'.heap.extract W.heap.size w'.heap.size:=by
    apply Array.ext_getElem?
    intro i
    rw [Array.getElem?_append]
    split
    ·rename_i hi
     exact ho.frm.block i hi (fun _ h=>(by cases h))
    ·rename_i hi
     rw [Array.getElem?_extract]
     by_cases hi2:i<w'.heap.size
     ·rw [if_pos (by omega)]; congr 1; omega
     ·rw [if_neg (by omega)]; simp; omega
   obtain⟨wh,wt,wd,wo,wu⟩:=w'
   simp only at f1 f2 f3 f5 f6
   subst f1 f2 f3
   unfold grow World.drewN
   simp only
   rw [← f6,show W.drawn + (wd - W.drawn)=wd by omega]
  have hcall:=AnyQ.slices_SortFunc_eq L k aE zE vs hk h1 (cmpOf c) hO g #[] e.b 0 cap l.toArray w eg hcmp hH hblk (by simpa using hsz)
  have esz:l.toArray.size=l.length:=by simp
  rw [esz] at hcall
  refine hcall.mono ?_
  rintro ee w' ⟨rfl,n,os,rfl⟩
  have hfl':=Zmx vs hk (pdq (ltOf (cmpOf c)) l.toArray 0 l.length (Lib.bitLen l.length) true true)
  rw [← hdl] at hfl'
  generalize hd:pdq (ltOf (cmpOf c)) l.toArray 0 l.length (Lib.bitLen l.length) true true=d at hfl' hdl
  have hflat:∀ m:List α,((m.map vs).flatten).length=m.length * k:=fun m=>by
   induction m with
   | nil=>simp
   | cons x m ih=>simp only [List.map_cons,List.flatten_cons,List.length_append,ih,hk,List.length_cons,Nat.add_mul]; omega
  have hfs':(flatK vs k d).size=(l.length) * k:=by
   rw [← Array.length_toList,hfl',hflat,hl']
  have hvs:vals.toList=(l.map vs).flatten++sp:=hvals
  obtain⟨fz,hz,hok⟩:=hrow
  have hvsz:vals.size=l.length * k + sp.length:=by
   rw [← Array.length_toList,hvs,List.length_append,hflat]
  have hnewrow:(sortWorldK vs k w e.b 0 n d os).heap[e.b]? = some (.cells (putCells id 0 (flatK vs k d) vals) t fz):=by
   unfold sortWorldK
   rw [heap_grow_old _ _ (by simpa [putRowK,putRow,mapBlock,ahead] using hblk)]
   simp only [putRowK,putRow,mapBlock,Array.getElem?_modify,if_true]
   show Option.map (onCells (putCells id 0 (flatK vs k d))) w.heap[e.b]? = _
   rw [hz]; rfl
  have hother:∀ b,b ≠ e.b→b<w.heap.size→(sortWorldK vs k w e.b 0 n d os).heap[b]? = w.heap[b]?:=fun b hb hbl=>by
   unfold sortWorldK
   rw [heap_grow_old _ _ (by simpa [putRowK,putRow,mapBlock,ahead] using hbl)]
   simp only [putRowK,putRow,mapBlock,Array.getElem?_modify,if_neg (Ne.symm hb)]
   rfl
  have hsize:w.heap.size≤(sortWorldK vs k w e.b 0 n d os).heap.size:=by simp [sortWorldK,grow,putRowK,putRow,mapBlock,ahead]
  have hpl:(putCells id 0 (flatK vs k d) vals).toList=(l'.map vs).flatten++sp:=by
   rw [Zom _ _ (by omega),hfl',hfs',hvs]
   congr 1
   rw [← hflat l,List.drop_left]
  have hps:(putCells id 0 (flatK vs k d) vals).size=vals.size:=by simp [putCells]
  refine⟨_,.tup [],_,[],rfl,⟨rfl,rfl⟩,⟨rfl,fun i e' k' he' hk'=>?_,fun i j e' f' hij he' hf'=>?_,fun _ h=>(by cases h),⟨rfl,rfl,rfl,hsize,fun b hb hne'=>?_,fun b us t' hr=>?_,?_⟩⟩,?_⟩
  ·cases i with
   | succ i=>simp at he'
   | zero=>
    simp only [List.append_nil,List.getElem?_cons_zero,Option.some.injEq] at he' hk'
    subst he' hk'
    refine⟨rfl,?_,_,t,⟨fz,hnewrow,by rw [hps]; exact hok⟩,?_⟩
    ·rw [hcel]
     have:∀ m:List Value,PV.idss (fun j=>decide (j<0)) (m.map .sc)=true:=fun m=>by
      induction m with
      | nil=>rfl
      | cons x m ih=>simp only [List.map_cons,PV.idss,PV.ids,ih,Bool.and_self]
     exact this _
    ·rw [hcel,hpl]
     exact VRs.scs _
  ·cases i with
   | succ i=>simp at he'
   | zero=>cases j with
    | succ j=>simp at hf'
    | zero=>exact absurd rfl hij
  ·exact hother b (fun hh=>hne' e (by simp) hh.symm) hb
  ·by_cases hb:b=e.b
   ·subst hb
    obtain⟨_,rfl⟩:=Zi6 (⟨fz,hz,hok⟩:World.row w e.b vals t) hr
    exact⟨_,fz,hnewrow,by rw [hps]; exact hok⟩
   ·exact⟨us,Zdt (hother b hb (Zg7 hr)) hr⟩
  ·exact Nat.le_add_right _ _
  ·simp only [VR]
   exact⟨#[],rfl,by simp only [VRs]⟩
theorem ACall.sortF0 (L:SlLaysF0.n6 P ρ) (s:Nat) (fv:Value):ACall P G (ρ.f 6) [.sl s [],.sc fv] [] (fun q K=>q=.tup []∧K=[]):=by
 intro S0 β0 w cargs hin hargs
 obtain⟨ca⟩:=cargs
 match ca,hargs with
 | [u0,u1],hargs=>
  simp only [VRs,VR,and_true] at hargs
  obtain⟨⟨a,cap,rfl,_,_⟩,rfl⟩:=hargs
  refine(AnyF.slices_SortFunc_none L a cap u1 w).mono ?_
  rintro ee w' ⟨rfl,rfl⟩
  have hβ:β0=[]:=by have:=hin.len; simpa using this
  subst hβ
  exact⟨_,.tup [],[],[],rfl,⟨rfl,rfl⟩,⟨rfl,fun i e k h=>(by simp at h),fun i j e f _ h=>(by simp at h),fun _ h=>(by cases h),⟨rfl,rfl,rfl,Nat.le_refl _,fun _ _ _=>rfl,fun _ us _ h=>⟨us,h⟩,Nat.le_refl _⟩⟩,by simp only [VR]; exact⟨#[],rfl,by simp only [VRs]⟩⟩
end
section
variable {P:Program} {G:Glob} {α:Type}
def Hnd.callBZ {f:FuncId} {fn:Func} (row:α→List PV) {s:Nat} {l l':List α} {rest:List PV} (hfn:P.funcs[f]? = some fn) (hrow:∀ z,(row z).length=s) (hlen:l'.length=l.length)
  (hc:l ≠ []→∀ sp,ACall P G f (.vw 0 0 l.length :: rest) [.cells (cel row l sp)] (fun q K=>q=.tup []∧K=[.cells (cel row l' sp)]))
  (he:ACall P G f (.sl s [] :: rest) [] (fun q K=>q=.tup []∧K=[])):Hnd P G where
 run o st H:=match o.op with
  | .call cl=>match cl.callee with
   | .value x=>match opd G st x,opdL G st cl.args.toList with
    | some px,some (.own i n :: rest')=>match H[i]? with
     | some (.buf s' t xs false)=>
      if fn.body.isNone=false∧(fn.name == "runtime.NumGoroutine")=false∧PV.idss (fun _=>false) rest=true∧Nat.beq s s'=true then
       some ⟨.tup [],H.set i (.buf s' t (l'.map row) true),[.p px,.n n,.ps rest',.rs xs],[.p (.sc (.func (.func f) #[] #[])),.n l.length,.ps rest,.rs (l.map row)]⟩
      else none
     | _=>none
    | _,_=>none
   | _=>none
  | _=>none
 sound:=by
  intro n0 o st H x h he'
  split at h
  ·rename_i cl ho
   split at h
   ·rename_i x hcl
    split at h
    ·rename_i px i n rest' hx hps
     split at h
     ·rename_i s' t xs hb
      split at h
      ·rename_i hcond
       obtain⟨c1,c2,c3,c5⟩:=hcond
       simp only [Option.some.injEq] at h
       subst h
       simp only [List.cons.injEq,T.p.injEq,T.ps.injEq,T.n.injEq,T.rs.injEq,and_true] at he'
       obtain⟨rfl,rfl,rfl,rfl⟩:=he'
       have c5:=Nat.eq_of_beq_eq_true c5
       subst c5
       by_cases hl:l=[]
       ·subst hl
        obtain rfl:l'=[]:=List.eq_nil_of_length_eq_zero (by simpa using hlen)
        intro c a w β h0 hrl
        have hrs:=hrl.share hb
        have hil:=(List.getElem?_eq_some_iff.1 hb).1
        have hw:Wks (H.set i (.buf s t [] true)) false ((.own i ([]:List (List PV)).length :: rest')++[]) (.sl s [] :: rest'):=by
         rw [List.append_nil]
         exact .cons _ _ _ _ (.own i s t [] true (List.getElem?_set_self hil) (.inr rfl)) (Wks.refl _ _ _)
        exact(OpT.callV (n0:=n0) (H:=H.set i (.buf s t [] true)) ho hcl (.inl ⟨hx,rfl⟩) hfn c1 c2 (Zcx _ _ hps) hw (by simpa [PV.idss,PV.ids] using c3) (by simp [PV.ids,PV.idss]) he).weak c a w β (by simpa using h0) hrs
       ·have hl1:(l.map row).length=l.length:=List.length_map ..
        have h1:OpT P G n0 o st H (.tup []) (H.set i (.buf s t (l'.map row) false)):=by
         refine OpT.callB (xs:=l.map row) (ys:=l'.map row) ho hcl hx hfn c1 c2 (by rw [hl1]; exact Zcx _ _ hps) c3 hb (by simpa using hl) (by simpa using hlen) ?_ (fun sp=>?_) (by simp [PV.ids,PV.idss])
         ·intro y hy
          obtain⟨z,_,rfl⟩:=List.mem_map.1 hy
          exact hrow z
         ·rw [hl1]; exact hc hl sp
        have hil:=(List.getElem?_eq_some_iff.1 hb).1
        intro c a w β h0 hrl
        refine Zdl (h1.weak c a w β h0 hrl) fun v w' ⟨β',r1,r2⟩=>?_
        have r3:=r1.share (i:=i) (List.getElem?_set_self hil)
        rw [List.set_set] at r3
        refine⟨β',r3,?_⟩
        simp only [VR] at r2 ⊢
        obtain⟨us,rfl,r4⟩:=r2
        refine⟨us,rfl,?_⟩
        cases hu:us.toList with
        | nil=>simp only [VRs]
        | cons y ys=>rw [hu] at r4; simp only [VRs] at r4
      ·cases h
     ·cases h
    ·cases h
   ·cases h
  ·cases h
end
end Go.AM
set_option maxRecDepth 100000
namespace Go.AM
open Go
structure Arr5 (α:Type) where
 x0:α
 x1:α
 x2:α
 x3:α
 x4:α
def Arr5.get {α:Type} (a:Arr5 α) (i:Int):α:=if i=0 then a.x0 else if i=1 then a.x1 else if i=2 then a.x2 else if i=3 then a.x3 else a.x4
def Arr5.set {α:Type} (a:Arr5 α) (i:Int) (v:α):Arr5 α:=if i=0 then { a with x0:=v } else if i=1 then { a with x1:=v } else if i=2 then { a with x2:=v } else if i=3 then { a with x3:=v } else { a with x4:=v }
def Zbl (x:(Arr5 Int)):List PV:=[.sc (.int .u32 x.x0),.sc (.int .u32 x.x1),.sc (.int .u32 x.x2),.sc (.int .u32 x.x3),.sc (.int .u32 x.x4)]
def Zrq (x:(Arr5 Int)):List Value:=[.int .u32 x.x0,.int .u32 x.x1,.int .u32 x.x2,.int .u32 x.x3,.int .u32 x.x4]
def Zb9 (x:(Arr5 Int)):PV:=.sc (.agg ⟨Zrq x⟩)
def Zpa:(Arr5 Int):=Arr5.mk (0:Int) (0:Int) (0:Int) (0:Int) (0:Int)
def Zrr (x:(List Int)):List PV:=[.sl 1 (List.map Z4 x)]
def Zpb (x:(List Int)):Prop:=x.length≤9223372036854775807∧∀ y∈x,Zcl y
structure Zc where
 Src:Int
 Dst:Int
 Proto:Int
 SrcPort:Int
 DstPort:Int
def Ze (x:Zc):List PV:=[.sc (.int .u32 x.Src),.sc (.int .u32 x.Dst),.sc (.int .u8 x.Proto),.sc (.int .u16 x.SrcPort),.sc (.int .u16 x.DstPort)]
def Zu (x:Zc):Prop:=Zc9 x.Src∧Zc9 x.Dst∧ok_u8 x.Proto∧Zcq x.SrcPort∧Zcq x.DstPort∧True
def Zgm (x:Zc):List Value:=[.int .u32 x.Src,.int .u32 x.Dst,.int .u8 x.Proto,.int .u16 x.SrcPort,.int .u16 x.DstPort]
def Zv (x:Zc):PV:=.sc (.agg ⟨Zgm x⟩)
def Zh (x:Zc):Value:=.agg ⟨Zgm x⟩
def Zg (x y:Zc):Bool:=((x.Src == y.Src) && ((x.Dst == y.Dst) && ((x.Proto == y.Proto) && ((x.SrcPort == y.SrcPort) && ((x.DstPort == y.DstPort) && true)))))
def Zl:Zc:=Zc.mk (0:Int) (0:Int) (0:Int) (0:Int) (0:Int)
structure Zj where
 Lo:Int
 Hi:Int
abbrev ZB:=Arr5 Zj
abbrev ZL:=List (Arr5 Zj)
def Zx (x:Zj):List PV:=[.sc (.int .u32 x.Lo),.sc (.int .u32 x.Hi)]
def Zda (x:Zj):Prop:=Zc9 x.Lo∧Zc9 x.Hi∧True
def Zba:Zj:=Zj.mk (0:Int) (0:Int)
def Zd (x:(Arr5 Zj)):List PV:=[.sc (.int .u32 x.x0.Lo),.sc (.int .u32 x.x0.Hi),.sc (.int .u32 x.x1.Lo),.sc (.int .u32 x.x1.Hi),.sc (.int .u32 x.x2.Lo),.sc (.int .u32 x.x2.Hi),.sc (.int .u32 x.x3.Lo),.sc (.int .u32 x.x3.Hi),.sc (.int .u32 x.x4.Lo),.sc (.int .u32 x.x4.Hi)]
def Zh6 (x:(Arr5 Zj)):Prop:=Zda x.x0∧Zda x.x1∧Zda x.x2∧Zda x.x3∧Zda x.x4∧True
def Zmy (x:(Arr5 Zj)):List Value:=[.int .u32 x.x0.Lo,.int .u32 x.x0.Hi,.int .u32 x.x1.Lo,.int .u32 x.x1.Hi,.int .u32 x.x2.Lo,.int .u32 x.x2.Hi,.int .u32 x.x3.Lo,.int .u32 x.x3.Hi,.int .u32 x.x4.Lo,.int .u32 x.x4.Hi]
def Zz (x:(Arr5 Zj)):PV:=.sc (.agg ⟨Zmy x⟩)
def Zr:(Arr5 Zj):=Arr5.mk Zba Zba Zba Zba Zba
structure Zp where
 Match:(Arr5 Zj)
 Addr:Int
 Ports:Zj
def Zn (x:Zp):List PV:=[.sc (.int .u32 x.Match.x0.Lo),.sc (.int .u32 x.Match.x0.Hi),.sc (.int .u32 x.Match.x1.Lo),.sc (.int .u32 x.Match.x1.Hi),.sc (.int .u32 x.Match.x2.Lo),.sc (.int .u32 x.Match.x2.Hi),.sc (.int .u32 x.Match.x3.Lo),.sc (.int .u32 x.Match.x3.Hi),.sc (.int .u32 x.Match.x4.Lo),.sc (.int .u32 x.Match.x4.Hi),.sc (.int .u32 x.Addr),.sc (.int .u32 x.Ports.Lo),.sc (.int .u32 x.Ports.Hi)]
def Zbg (x:Zp):Prop:=Zh6 x.Match∧Zc9 x.Addr∧Zda x.Ports∧True
def Zp5 (x:Zp):List Value:=[.int .u32 x.Match.x0.Lo,.int .u32 x.Match.x0.Hi,.int .u32 x.Match.x1.Lo,.int .u32 x.Match.x1.Hi,.int .u32 x.Match.x2.Lo,.int .u32 x.Match.x2.Hi,.int .u32 x.Match.x3.Lo,.int .u32 x.Match.x3.Hi,.int .u32 x.Match.x4.Lo,.int .u32 x.Match.x4.Hi,.int .u32 x.Addr,.int .u32 x.Ports.Lo,.int .u32 x.Ports.Hi]
def Zeu (x:Zp):PV:=.sc (.agg ⟨Zp5 x⟩)
structure Zw where
 Kind:Int
 Edge:Int
 Real:Zc
 Sent:Zc
 Class:ByteArray
 Opens:Bool
 Flags:Int
 Now:Int
 Hides:(List Zp)
def Zs (x:Zw):List PV:=[.sc (.int .i64 x.Kind),.sc (.int .i64 x.Edge),.sc (.int .u32 x.Real.Src),.sc (.int .u32 x.Real.Dst),.sc (.int .u8 x.Real.Proto),.sc (.int .u16 x.Real.SrcPort),.sc (.int .u16 x.Real.DstPort),.sc (.int .u32 x.Sent.Src),.sc (.int .u32 x.Sent.Dst),.sc (.int .u8 x.Sent.Proto),.sc (.int .u16 x.Sent.SrcPort),.sc (.int .u16 x.Sent.DstPort),.sc (.string x.Class),.sc (.bool x.Opens),.sc (.int .i64 x.Flags),.sc (.int .i64 x.Now),.sl 13 (List.map Zn x.Hides)]
def Zfr (x:Zw):PV:=.agg (Zs x)
def Zb2:Zw:=Zw.mk (0:Int) (0:Int) Zl Zl ByteArray.empty false (0:Int) (0:Int) ([]:(List Zp))
structure Za where
 Real:Zc
 Sent:Zc
 Delivered:Zc
 From:Int
 To:Int
 Waypoint:Bool
 Class:ByteArray
 State:Int
 Expires:Int
def Zb (x:Za):List PV:=[.sc (.int .u32 x.Real.Src),.sc (.int .u32 x.Real.Dst),.sc (.int .u8 x.Real.Proto),.sc (.int .u16 x.Real.SrcPort),.sc (.int .u16 x.Real.DstPort),.sc (.int .u32 x.Sent.Src),.sc (.int .u32 x.Sent.Dst),.sc (.int .u8 x.Sent.Proto),.sc (.int .u16 x.Sent.SrcPort),.sc (.int .u16 x.Sent.DstPort),.sc (.int .u32 x.Delivered.Src),.sc (.int .u32 x.Delivered.Dst),.sc (.int .u8 x.Delivered.Proto),.sc (.int .u16 x.Delivered.SrcPort),.sc (.int .u16 x.Delivered.DstPort),.sc (.int .i64 x.From),.sc (.int .i64 x.To),.sc (.bool x.Waypoint),.sc (.string x.Class),.sc (.int .i64 x.State),.sc (.int .i64 x.Expires)]
def Zd9 (x:Za):List Value:=[.int .u32 x.Real.Src,.int .u32 x.Real.Dst,.int .u8 x.Real.Proto,.int .u16 x.Real.SrcPort,.int .u16 x.Real.DstPort,.int .u32 x.Sent.Src,.int .u32 x.Sent.Dst,.int .u8 x.Sent.Proto,.int .u16 x.Sent.SrcPort,.int .u16 x.Sent.DstPort,.int .u32 x.Delivered.Src,.int .u32 x.Delivered.Dst,.int .u8 x.Delivered.Proto,.int .u16 x.Delivered.SrcPort,.int .u16 x.Delivered.DstPort,.int .i64 x.From,.int .i64 x.To,.bool x.Waypoint,.string x.Class,.int .i64 x.State,.int .i64 x.Expires]
def Z2 (x:Za):PV:=.sc (.agg ⟨Zd9 x⟩)
def Zf (x:Za):Value:=.agg ⟨Zd9 x⟩
def Zb8 (x y:Za):Bool:=((Zg x.Real y.Real) && ((Zg x.Sent y.Sent) && ((Zg x.Delivered y.Delivered) && ((x.From == y.From) && ((x.To == y.To) && ((x.Waypoint == y.Waypoint) && ((x.Class.toList == y.Class.toList) && ((x.State == y.State) && ((x.Expires == y.Expires) && true)))))))))
def Zm:Za:=Za.mk Zl Zl Zl (0:Int) (0:Int) false ByteArray.empty (0:Int) (0:Int)
instance:Inhabited Za:=⟨Zm⟩
structure Zk where
 Most:Int
 L:(List Za)
def Zi (x:Zk):List PV:=[.sc (.int .i64 x.Most),.sl 21 (List.map Zb x.L)]
structure Zq where
 f_l:(List Int)
 f_i:Int
def Zt (x:Zq):List PV:=[.sl 1 (List.map Z4 x.f_l),.sc (.int .i64 x.f_i)]
def Zdm:(Arr5 Int):=Arr5.mk 4294967295 4294967295 255 65535 65535
abbrev ZI:Int→Int:=IntKind.wrap .i64
end Go.AM
set_option maxRecDepth 100000
namespace Go.AM
open Go
noncomputable section
def Zfs:Option Bool:=
 some true
def Zdb (a:Int):Option (Int × (List (Zc × Za))):=
 (some (decide (a<(1:Int)))).bind fun b=>
 if (b || (decide (a > (64:Int))))=true then
  none
 else
  some (a,([]:(List (Zc × Za))))
def Zft (a:(List Int)):Option Zq:=
 some (Zq.mk a (0:Int))
def Zex (b:Int) (a:Int):Option Int:=
 if (IntKind.wrap .u64 a) ≠ 0 then
 some (IntKind.wrap .i64 (Int.tmod (IntKind.wrap .u64 b) (IntKind.wrap .u64 a)))
 else none
def Z0 (a:Zq) (b:Int):Option (Int × Zq):=
 (some (decide (b≤(1:Int)))).bind fun c=>
 if (c || (decide (a.f_i ≥ (List.length a.f_l:Int))))=true then
  some ((0:Int),a)
 else
  (idx a.f_l (IntKind.wrap .i64 ((IntKind.wrap .i64 (a.f_i + (1:Int))) - (1:Int)))).bind fun d=>
  (Zex d b).bind fun f=>
  some (f,({ a with f_i:=(IntKind.wrap .i64 (a.f_i + (1:Int))) }:Zq))
def Zd4 (f:Zq):Option (Zc × Zq):=
 (Z0 f (3:Int)).bind fun b=>
 (Z0 b.2 (4:Int)).bind fun d=>
 (idx [(6:Int),(17:Int),(1:Int),(50:Int)] d.1).bind fun a=>
 (Z0 d.2 (2:Int)).bind fun c=>
 (if (a == (1:Int))=true then
  some ({ (Zc.mk (IntKind.wrap .u32 ((167772160:Int) + (IntKind.wrap .u32 b.1))) (167772416:Int) a (IntKind.wrap .u16 (IntKind.wrap .i64 ((1000:Int) + c.1))) (80:Int)) with DstPort:=(8:Int) }:Zc)
 else
  if (a == (50:Int))=true then
   some ({ ({ (Zc.mk (IntKind.wrap .u32 ((167772160:Int) + (IntKind.wrap .u32 b.1))) (167772416:Int) a (IntKind.wrap .u16 (IntKind.wrap .i64 ((1000:Int) + c.1))) (80:Int)) with SrcPort:=(0:Int) }:Zc) with DstPort:=(0:Int) }:Zc)
  else
   some (Zc.mk (IntKind.wrap .u32 ((167772160:Int) + (IntKind.wrap .u32 b.1))) (167772416:Int) a (IntKind.wrap .u16 (IntKind.wrap .i64 ((1000:Int) + c.1))) (80:Int))).bind fun g=>
  some (g,c.2)
def Zep (a:Int):Option Int:=
 ((if (a == (0:Int))=true then
  some (a == (0:Int))
 else
  some (a == (1:Int))).bind fun b=>
  if b=true then
   some (.inr (4294967295:Int))
  else
   if (a == (2:Int))=true then
    some (.inr (255:Int))
   else
    (if (a == (3:Int))=true then
     some (a == (3:Int))
    else
     some (a == (4:Int))).bind fun c=>
     if c=true then
      some (.inr (65535:Int))
     else
      some (.inl ())).bind fun(d:(Unit ⊕ Int))=>
 match d with
 | .inl ()=>
   some (0:Int)
 | .inr f=>
   some f
def Zea:Nat→ZB→Int→Option ZB
 | 0,_,_=>none
 | c+1,b,a=>
  if (decide (a<(5:Int)))=true then
   (Zep a).bind fun d=>
   if 0≤a∧a<5 then
   Zea c (Arr5.set b a ({ (Arr5.get b a) with Hi:=d }:Zj)) (IntKind.wrap .i64 (a + (1:Int)))
   else none
  else
   some b
def Ze7:Option ZB:=
 (Zea fuel Zr (0:Int)).bind fun a=>
  some a
def Zdy (j:Zq):Option ((List Zp) × Zq):=
 (Z0 j (3:Int)).bind fun f=>
 if (f.1 == (0:Int))=true then
  some (([]:(List Zp)),f.2)
 else
  (Ze7).bind fun c=>
  (Z0 f.2 (3:Int)).bind fun b=>
  (Z0 b.2 (5:Int)).bind fun i=>
  (idx [(1024:Int),(0:Int),(8:Int),(7:Int),(65535:Int)] i.1).bind fun a=>
  (Z0 i.2 (3:Int)).bind fun d=>
  ((Z0 d.2 (8:Int)).bind fun g=>
  if (g.1 == (7:Int))=true then
   some (g.2,({ c with x0:=(Zj.mk (167772160:Int) (IntKind.wrap .u32 ((167772160:Int) + (IntKind.wrap .u32 b.1)))) }:ZB),({ (Zp.mk ({ c with x0:=(Zj.mk (167772160:Int) (IntKind.wrap .u32 ((167772160:Int) + (IntKind.wrap .u32 b.1)))) }:ZB) (3325256705:Int) (Zj.mk a (iMin (IntKind.wrap .u32 (a + (IntKind.wrap .u32 d.1))) (65535:Int)))) with Ports:=({ (Zj.mk a (iMin (IntKind.wrap .u32 (a + (IntKind.wrap .u32 d.1))) (65535:Int))) with Hi:=(65536:Int) }:Zj) }:Zp))
  else
   some (g.2,({ c with x0:=(Zj.mk (167772160:Int) (IntKind.wrap .u32 ((167772160:Int) + (IntKind.wrap .u32 b.1)))) }:ZB),(Zp.mk ({ c with x0:=(Zj.mk (167772160:Int) (IntKind.wrap .u32 ((167772160:Int) + (IntKind.wrap .u32 b.1)))) }:ZB) (3325256705:Int) (Zj.mk a (iMin (IntKind.wrap .u32 (a + (IntKind.wrap .u32 d.1))) (65535:Int)))))).bind fun k=>
  match k with
  | (l,_,m)=>
   some ([m],l)
def Zc6 (q:Zq) (i:Int):Option (Zw × Zq):=
 (Z0 q (12:Int)).bind fun j=>
 (idx [(0:Int),(1:Int),(0:Int),(1:Int),(1:Int),(2:Int),(3:Int),(4:Int),(4:Int),(5:Int),(6:Int),(7:Int)] j.1).bind fun k=>
 (Z0 j.2 (3:Int)).bind fun b=>
 (Z0 b.2 (2:Int)).bind fun c=>
 (Z0 c.2 (2:Int)).bind fun d=>
 (Zd4 d.2).bind fun a=>
 (Z0 a.2 (4:Int)).bind fun f=>
 (Z0 f.2 (8:Int)).bind fun l=>
 (idx [(0:Int),(1:Int),(0:Int),(9:Int),(31:Int),(61:Int),(0:Int),(601:Int)] l.1).bind fun m=>
 ((Z0 l.2 (4:Int)).bind fun g=>
 if (g.1 == (0:Int))=true then
  some (g.2,({ (Zw.mk k (IntKind.wrap .i64 (b.1 - (IntKind.wrap .i64 (c.1 * d.1)))) a.1 Zl ByteArray.empty (decide (f.1 > (0:Int))) (0:Int) (IntKind.wrap .i64 (i + m)) ([]:(List Zp))) with Sent:=({ a.1 with Dst:=(3405803781:Int) }:Zc) }:Zw))
 else
  some (g.2,({ (Zw.mk k (IntKind.wrap .i64 (b.1 - (IntKind.wrap .i64 (c.1 * d.1)))) a.1 Zl ByteArray.empty (decide (f.1 > (0:Int))) (0:Int) (IntKind.wrap .i64 (i + m)) ([]:(List Zp))) with Sent:=a.1 }:Zw))).bind fun r=>
 match r with
 | (s,t)=>
  (Z0 s (2:Int)).bind fun n=>
  (idx [ByteArray.empty,(⟨#[105,112,115]⟩:ByteArray)] n.1).bind fun u=>
  (Z0 n.2 (8:Int)).bind fun o=>
  (idx [(0:Int),(2:Int),(16:Int),(18:Int),(17:Int),(4:Int),(0:Int),(16:Int)] o.1).bind fun v=>
  (Zdy o.2).bind fun p=>
  some (({ ({ ({ t with Class:=u }:Zw) with Flags:=v }:Zw) with Hides:=p.1 }:Zw),p.2)
def Za4 (d:Int):(Zc × Za)→((List (Zc × Za)) × Int)→Option (Empty ⊕ ((List (Zc × Za)) × Int))
 | a,(b,c)=>
  if (decide (a.2.Expires≤d))=true then
   some (.inr ((mdel Zg b a.1),(IntKind.wrap .i64 (c + (1:Int)))))
  else
   some (.inr (b,c))
def Z3 (j:Int) (a:(List (Zc × Za))) (b:Int):Option (Int × (List (Zc × Za))):=
 allp a (fun c=>(mfold (Za4 b) c (a,(0:Int))).bind fun(d:Empty ⊕ ((List (Zc × Za)) × Int))=>match d with
 | .inl f=>(by cases f)
 | .inr (g,i)=>
   some (i,g))
def Zca (a:Za):Option Bool:=
 some (a.From != (-1:Int))
def Z5 (c:Int) (a:(List (Zc × Za))) (b:Zc) (d:Bool):Option (Za × Int):=
 (some (!d)).bind fun f=>
 (if f=true then
  (some (!(mget Zg a b).isSome)).bind fun g=>
  (if g=true then some true else
   (Zca ((mget Zg a b).getD Zm)).bind fun i=>
   some (!i)
   ).bind fun j=>
  some j
  else some false).bind fun k=>
 if k=true then
  some ((Za.mk Zl Zl Zl (0:Int) (0:Int) false ByteArray.empty (0:Int) (0:Int)),(16:Int))
 else
  if (mget Zg a b).isSome=true then
   some (((mget Zg a b).getD Zm),(0:Int))
  else
   if (decide ((List.length a:Int) ≥ c))=true then
    some ((Za.mk Zl Zl Zl (0:Int) (0:Int) false ByteArray.empty (0:Int) (0:Int)),(9:Int))
   else
    some ((Za.mk b Zl Zl (-1:Int) (-1:Int) false ByteArray.empty (1:Int) (0:Int)),(0:Int))
def Zcr (a:Za):Option Int:=
 if (a.Real.Proto != (6:Int))=true then
  some (60:Int)
 else
  if (a.State == (2:Int))=true then
   some (600:Int)
  else
   if (a.State == (3:Int))=true then
    some (10:Int)
   else
    some (30:Int)
def Zan (g:Int) (f:(List (Zc × Za))) (a:Za) (b:Int):Option (List (Zc × Za)):=
 (Zcr a).bind fun c=>
 (if (decide (b≤(IntKind.wrap .i64 ((9223372036854775807:Int) - c))))=true then
  some ({ a with Expires:=(IntKind.wrap .i64 (b + c)) }:Za)
 else
  some ({ a with Expires:=(9223372036854775807:Int) }:Za)).bind fun d=>
  some (mput Zg f d.Real d)
def Zbs (c:Int) (j:(List (Zc × Za))) (d:Int) (g:Zc) (b:Zc) (k:ByteArray) (l:Bool) (i:Int):Option (Int × (List (Zc × Za))):=
 (Z3 c j i).bind fun a=>
 if (decide (d<(0:Int)))=true then
  some ((1:Int),a.2)
 else
  (some ((mget Zg a.2 b).isSome)).bind fun m=>
  (some (m && (((mget Zg a.2 b).getD Zm).From != (-1:Int)))).bind fun n=>
  (if n=true then
   (some (((mget Zg a.2 b).getD Zm).From != d)).bind fun o=>
   some (o || (!(Zg (((mget Zg a.2 b).getD Zm).Sent) g)))
   else some false).bind fun p=>
  if p=true then
   some ((12:Int),a.2)
  else
   (Z5 c a.2 b l).bind fun f=>
   if (f.2 != (0:Int))=true then
    some (f.2,a.2)
   else
    (Zan c a.2 ({ ({ ({ f.1 with From:=d }:Za) with Sent:=g }:Za) with Class:=k }:Za) i).bind fun q=>
    some ((0:Int),q)
def Zat (a:Zk) (d:Int):Nat→(List Za)→Int→Option (List Za)
 | 0,_,_=>none
 | g+1,b,c=>
  if (decide (c<(List.length a.L:Int)))=true then
   ((idx a.L c).bind fun i=>
   if (decide (i.Expires > d))=true then
    (idx a.L c).bind fun f=>
    if List.length b + List.length [f]≤lim then
    some (b++[f])
    else none
   else
    some b).bind fun j=>
    Zat a d g j (IntKind.wrap .i64 (c + (1:Int)))
  else
   some b
def Z6 (a:Zk) (c:Int):Option (Int × Zk):=
 (Zat a c fuel ([]:(List Za)) (0:Int)).bind fun b=>
  some ((IntKind.wrap .i64 ((List.length a.L:Int) - (List.length b:Int))),({ a with L:=b }:Zk))
def Zau (b:Zk) (c:Zc):Nat→Int→Option (Unit ⊕ Int)
 | 0,_=>none
 | d+1,a=>
  if (decide (a<(List.length b.L:Int)))=true then
   (idx b.L a).bind fun f=>
   if (Zg f.Real c)=true then
    some (.inr a)
   else
    Zau b c d (IntKind.wrap .i64 (a + (1:Int)))
  else
   some (.inl ())
def Zav (a:Zk) (b:Zc):Option Int:=
 (Zau a b fuel (0:Int)).bind fun(c:(Unit ⊕ Int))=>
 match c with
 | .inl ()=>
   some (-1:Int)
 | .inr d=>
   some d
def Zax (a:Zk) (b:Zc) (d:Bool):Option (Za × Int):=
 (Zav a b).bind fun c=>
 if (decide (c ≥ (0:Int)))=true then
  (idx a.L c).bind fun f=>
  some (f,(0:Int))
 else
  if (!d)=true then
   some ((Za.mk Zl Zl Zl (0:Int) (0:Int) false ByteArray.empty (0:Int) (0:Int)),(16:Int))
  else
   if (decide ((List.length a.L:Int) ≥ a.Most))=true then
    some ((Za.mk Zl Zl Zl (0:Int) (0:Int) false ByteArray.empty (0:Int) (0:Int)),(9:Int))
   else
    some ((Za.mk b Zl Zl (-1:Int) (-1:Int) false ByteArray.empty (1:Int) (0:Int)),(0:Int))
def Zac (a:Za) (b:Int):Option Za:=
 (if (a.Real.Proto == (6:Int))=true then
  if (a.State == (1:Int))=true then
   some (30:Int)
  else
   if (a.State == (2:Int))=true then
    some (600:Int)
   else
    some (10:Int)
 else
  some (60:Int)).bind fun c=>
  (if (decide (b≤(IntKind.wrap .i64 ((9223372036854775807:Int) - c))))=true then
   some ({ a with Expires:=(IntKind.wrap .i64 (b + c)) }:Za)
  else
   some ({ a with Expires:=(9223372036854775807:Int) }:Za)).bind fun d=>
   some d
def Zdg (a:Zc):Option (Arr5 Int):=
 some (Arr5.mk a.Src a.Dst (IntKind.wrap .u32 a.Proto) (IntKind.wrap .u32 a.SrcPort) (IntKind.wrap .u32 a.DstPort))
def Zcs (b:(Arr5 Int)):Nat→ZB→Int→Option ZB
 | 0,_,_=>none
 | d+1,c,a=>
  if (decide (a<(5:Int)))=true then
   if 0≤a∧a<5 then
   if 0≤a∧a<5 then
   if 0≤a∧a<5 then
   Zcs b d (Arr5.set c a (Zj.mk (Arr5.get b a) (Arr5.get b a))) (IntKind.wrap .i64 (a + (1:Int)))
   else none
   else none
   else none
  else
   some c
def Zct (a:Zc):Option ZB:=
 (Zdg a).bind fun b=>
 (Zcs b fuel Zr (0:Int)).bind fun c=>
  some c
def Zdh (a:Int) (b:Int):Option Int:=
 if (decide (a<b))=true then
  some (-1:Int)
 else
  if (decide (a > b))=true then
   some (1:Int)
  else
   some (0:Int)
def Zal (b:ZB) (c:ZB):Nat→Int→Option (Unit ⊕ Int)
 | 0,_=>none
 | d+1,a=>
  if (decide (a<(5:Int)))=true then
   if 0≤a∧a<5 then
   if 0≤a∧a<5 then
   if ((Arr5.get b a).Lo != (Arr5.get c a).Lo)=true then
    if 0≤a∧a<5 then
    if 0≤a∧a<5 then
    (Zdh ((Arr5.get b a).Lo) ((Arr5.get c a).Lo)).bind fun f=>
    some (.inr f)
    else none
    else none
   else
    if 0≤a∧a<5 then
    if 0≤a∧a<5 then
    if ((Arr5.get b a).Hi != (Arr5.get c a).Hi)=true then
     if 0≤a∧a<5 then
     if 0≤a∧a<5 then
     (Zdh ((Arr5.get b a).Hi) ((Arr5.get c a).Hi)).bind fun g=>
     some (.inr g)
     else none
     else none
    else
     Zal b c d (IntKind.wrap .i64 (a + (1:Int)))
    else none
    else none
   else none
   else none
  else
   some (.inl ())
def Zeb (a:ZB) (b:ZB):Option Int:=
 (Zal a b fuel (0:Int)).bind fun(c:(Unit ⊕ Int))=>
 match c with
 | .inl ()=>
   some (0:Int)
 | .inr d=>
   some d
def Zd5 (a:Zc) (b:Zc):Option Int:=
 (Zct a).bind fun c=>
 (Zct b).bind fun d=>
 (Zeb c d).bind fun f=>
 some f
def Za1 (b:Zk) (d:Za):Nat→(List Za)→Int→Option ((List Za) × Int)
 | 0,_,_=>none
 | g+1,c,a=>
  (some (decide (a<(List.length b.L:Int)))).bind fun i=>
  (if i=true then
   (idx b.L a).bind fun j=>
   (Zd5 j.Real d.Real).bind fun k=>
   some (decide (k<(0:Int)))
   else some false).bind fun l=>
  if l=true then
   (idx b.L a).bind fun f=>
   if List.length c + List.length [f]≤lim then
   Za1 b d g (c++[f]) (IntKind.wrap .i64 (a + (1:Int)))
   else none
  else
   some (c,a)
def Zad (a:Zk) (b:Za):Option Zk:=
 (Za1 a b fuel ([]:(List Za)) (0:Int)).bind fun g=>
 match g with
 | (f,c)=>
  if List.length f + List.length [b]≤lim then
  ((some (decide (c<(List.length a.L:Int)))).bind fun i=>
  (if i=true then
   (idx a.L c).bind fun j=>
   some (Zg j.Real b.Real)
   else some false).bind fun k=>
  if k=true then
   some (IntKind.wrap .i64 (c + (1:Int)))
  else
   some c).bind fun d=>
   if 0≤d∧d≤(List.length a.L:Int)∧(List.length a.L:Int)≤(List.length a.L:Int) then
   if List.length (f++[b]) + List.length (List.drop (Int.toNat d) (List.take (Int.toNat (List.length a.L:Int)) a.L))≤lim then
   some ({ a with L:=((f++[b])++(List.drop (Int.toNat d) (List.take (Int.toNat (List.length a.L:Int)) a.L))) }:Zk)
   else none
   else none
  else none
def Zbx (k:Zk) (d:Int) (f:Zc) (g:Zc) (l:ByteArray) (i:Bool) (j:Int):Option (Int × Zk):=
 (Z6 k j).bind fun a=>
 if (decide (d<(0:Int)))=true then
  some ((1:Int),a.2)
 else
  (Zav a.2 g).bind fun b=>
  (some (decide (b ≥ (0:Int)))).bind fun m=>
  (if m=true then
   (idx a.2.L b).bind fun n=>
   some (decide (n.From ≥ (0:Int)))
   else some false).bind fun o=>
  (some o).bind fun p=>
  (if p=true then
   (idx a.2.L b).bind fun q=>
   (some (q.From != d)).bind fun r=>
   (if r=true then some true else
    (idx a.2.L b).bind fun s=>
    some (!(Zg s.Sent f))
    ).bind fun t=>
   some t
   else some false).bind fun u=>
  if u=true then
   some ((12:Int),a.2)
  else
   (Zax a.2 g i).bind fun c=>
   if (c.2 != (0:Int))=true then
    some (c.2,a.2)
   else
    (some (decide (c.1.From<(0:Int)))).bind fun v=>
    if (v && (!i))=true then
     some ((16:Int),a.2)
    else
     (Zac ({ ({ ({ c.1 with From:=d }:Za) with Sent:=f }:Za) with Class:=l }:Za) j).bind fun w=>
     (Zad a.2 w).bind fun x=>
     some ((0:Int),x)
def Z7 (b:ZB):Nat→Int→Option (Unit ⊕ Bool)
 | 0,_=>none
 | c+1,a=>
  if (decide (a<(5:Int)))=true then
   if 0≤a∧a<5 then
   (some (decide ((Arr5.get b a).Lo > (Arr5.get b a).Hi))).bind fun d=>
   (if d=true then some true else
    if 0≤a∧a<5 then
    some (decide ((Arr5.get b a).Hi > (Arr5.get Zdm a)))
    else none
    ).bind fun f=>
   if f=true then
    some (.inr false)
   else
    Z7 b c (IntKind.wrap .i64 (a + (1:Int)))
   else none
  else
   some (.inl ())
def Zev (a:ZB):Option Bool:=
 (Z7 a fuel (0:Int)).bind fun(b:(Unit ⊕ Bool))=>
 match b with
 | .inl ()=>
   some true
 | .inr c=>
   some c
def Zh7 (a:Int):Option Int:=
 (some (decide (a<(0:Int)))).bind fun b=>
 if (b || (decide (a ≥ (5:Int))))=true then
  some (0:Int)
 else
  if 0≤a∧a<5 then
  some (Arr5.get Zdm a)
  else none
def Zbq (a:Zp):Option Bool:=
 (Zev a.Match).bind fun b=>
 (some b).bind fun c=>
 (some (c && (decide (a.Ports.Lo≤a.Ports.Hi)))).bind fun d=>
 (if d=true then
  (Zh7 (3:Int)).bind fun f=>
  some (decide (a.Ports.Hi≤f))
  else some false).bind fun g=>
 some g
def Za2 (a:(List Zp)):Nat→Int→Option (Unit ⊕ Bool)
 | 0,_=>none
 | c+1,b=>
  if (decide (b<(List.length a:Int)))=true then
   (idx a b).bind fun d=>
   (Zbq d).bind fun f=>
   if (!f)=true then
    some (.inr false)
   else
    Za2 a c (IntKind.wrap .i64 (b + (1:Int)))
  else
   some (.inl ())
def Zcu (a:(List Zp)):Option Bool:=
 (Za2 a fuel (0:Int)).bind fun(b:(Unit ⊕ Bool))=>
 match b with
 | .inl ()=>
   some (decide ((List.length a:Int)≤(256:Int)))
 | .inr c=>
   some c
def Zci (a:Za):Option Bool:=
 some (a.To != (-1:Int))
def Zab (c:Int) (a:(List (Zc × Za))) (b:Zc) (d:Bool):Option (Za × Int):=
 (some (!d)).bind fun f=>
 (if f=true then
  (some (!(mget Zg a b).isSome)).bind fun g=>
  (if g=true then some true else
   (Zci ((mget Zg a b).getD Zm)).bind fun i=>
   some (!i)
   ).bind fun j=>
  some j
  else some false).bind fun k=>
 if k=true then
  some ((Za.mk Zl Zl Zl (0:Int) (0:Int) false ByteArray.empty (0:Int) (0:Int)),(16:Int))
 else
  if (mget Zg a b).isSome=true then
   some (((mget Zg a b).getD Zm),(0:Int))
  else
   if (decide ((List.length a:Int) ≥ c))=true then
    some ((Za.mk Zl Zl Zl (0:Int) (0:Int) false ByteArray.empty (0:Int) (0:Int)),(9:Int))
   else
    some ((Za.mk b Zl Zl (-1:Int) (-1:Int) false ByteArray.empty (1:Int) (0:Int)),(0:Int))
def Zey (a:Zc):Option (Arr5 Int):=
 some (Arr5.mk a.Src a.Dst (IntKind.wrap .u32 a.Proto) (IntKind.wrap .u32 a.SrcPort) (IntKind.wrap .u32 a.DstPort))
def Zbn (b:ZB) (c:(Arr5 Int)):Nat→Int→Option (Unit ⊕ Bool)
 | 0,_=>none
 | d+1,a=>
  if (decide (a<(5:Int)))=true then
   if 0≤a∧a<5 then
   if 0≤a∧a<5 then
   (some (decide ((Arr5.get c a)<(Arr5.get b a).Lo))).bind fun f=>
   (if f=true then some true else
    if 0≤a∧a<5 then
    some (decide ((Arr5.get c a) > (Arr5.get b a).Hi))
    else none
    ).bind fun g=>
   if g=true then
    some (.inr false)
   else
    Zbn b c d (IntKind.wrap .i64 (a + (1:Int)))
   else none
   else none
  else
   some (.inl ())
def Zc7 (a:ZB) (b:Zc):Option Bool:=
 (Zev a).bind fun c=>
 if (!c)=true then
  some false
 else
  (Zey b).bind fun d=>
  (Zbn a d fuel (0:Int)).bind fun(f:(Unit ⊕ Bool))=>
  match f with
  | .inl ()=>
    some true
  | .inr g=>
    some g
def Zcm (a:Zp) (b:Zc):Option Bool:=
 (Zbq a).bind fun c=>
 (some c).bind fun d=>
 (if d=true then
  (Zc7 a.Match b).bind fun f=>
  some f
  else some false).bind fun g=>
 some g
def Zy (b:(List Zp)) (c:Zc):Nat→Int→Option (Unit ⊕ Int)
 | 0,_=>none
 | d+1,a=>
  if (decide (a<(List.length b:Int)))=true then
   (idx b a).bind fun f=>
   (Zcm f c).bind fun g=>
   if g=true then
    some (.inr a)
   else
    Zy b c d (IntKind.wrap .i64 (a + (1:Int)))
  else
   some (.inl ())
def Z9 (a:(List Zp)) (b:Zc):Option Int:=
 (Zy a b fuel (0:Int)).bind fun(c:(Unit ⊕ Int))=>
 match c with
 | .inl ()=>
   some (-1:Int)
 | .inr d=>
   some d
def Zcd (a:(List Zp)) (b:Zc):Option Int:=
 (Z9 a b).bind fun c=>
 some c
def Zd8 (b:(Arr5 Int)):Nat→ZB→Int→Option ZB
 | 0,_,_=>none
 | d+1,c,a=>
  if (decide (a<(5:Int)))=true then
   if 0≤a∧a<5 then
   if 0≤a∧a<5 then
   Zd8 b d (Arr5.set c a (Zj.mk (Arr5.get b a) (Arr5.get b a))) (IntKind.wrap .i64 (a + (1:Int)))
   else none
   else none
  else
   some c
def Zf8 (a:Zc):Option ZB:=
 (Zey a).bind fun b=>
 (Zd8 b fuel Zr (0:Int)).bind fun c=>
  some c
def Zdz (a:Zp) (b:Zc):Option ZB:=
 (Zf8 b).bind fun c=>
 ((Zbq a).bind fun d=>
 (some d).bind fun f=>
 (if f=true then
  (Zc7 a.Match b).bind fun g=>
  some g
  else some false).bind fun i=>
 if i=true then
  some ({ ({ c with x0:=(Zj.mk a.Addr a.Addr) }:ZB) with x3:=a.Ports }:ZB)
 else
  some c).bind fun j=>
  some j
def Zce (b:(List Zp)) (a:Zc):Option ZB:=
 (Zcd b a).bind fun c=>
 if (decide (c<(0:Int)))=true then
  (Zf8 a).bind fun f=>
  some f
 else
  (idx b c).bind fun g=>
  (Zdz g a).bind fun d=>
  ((if (a.Proto == (6:Int))=true then
   some (a.Proto == (6:Int))
  else
   if (a.Proto == (17:Int))=true then
    some (a.Proto == (17:Int))
   else
    some (a.Proto == (1:Int))).bind fun i=>
   if i=true then
    some d
   else
    some ({ d with x3:=(Zj.mk (0:Int) (0:Int)) }:ZB)).bind fun j=>
   some j
def Zcy (a:Zc) (b:Bool) (c:Int):Option Bool:=
 (some (!b)).bind fun d=>
 (some (d || (a.Proto != (1:Int)))).bind fun f=>
 some (f || (c != (8:Int)))
def Zaj (c:Za):(Zc × Za)→(List (Zc × Bool))→Option (Empty ⊕ (List (Zc × Bool)))
 | a,b=>
  (some (!(Zg a.1 c.Real))).bind fun d=>
  if (d && (a.2.To != (-1:Int)))=true then
   some (.inr (mput Zg b a.2.Delivered true))
  else
   some (.inr b)
def Zaa (c:Za) (d:Int) (f:ZB) (g:(List (Zc × Bool))):Nat→Zc→Int→Option (Zc ⊕ (Zc × Bool))
 | 0,_,_=>none
 | i+1,b,a=>
  if (decide (a≤f.x3.Hi))=true then
   (some (!((mget Zg g ({ b with SrcPort:=(IntKind.wrap .u16 a) }:Zc)).getD false))).bind fun j=>
   (if j=true then
    (Zcy c.Real (decide (d ≥ (0:Int))) a).bind fun k=>
    some k
    else some false).bind fun l=>
   if l=true then
    some (.inr (({ b with SrcPort:=(IntKind.wrap .u16 a) }:Zc),true))
   else
    Zaa c d f g i ({ b with SrcPort:=(IntKind.wrap .u16 a) }:Zc) (IntKind.wrap .u32 (a + (1:Int)))
  else
   some (.inl b)
def Zbt (u:Int) (f:(List (Zc × Za))) (a:Za) (g:Int) (c:(List Zp)):Option (Zc × Bool):=
 (Zcd c a.Real).bind fun d=>
 (Zce c a.Real).bind fun b=>
 (some (a.To == g)).bind fun i=>
 (if i=true then
  (Zc7 b a.Delivered).bind fun j=>
  some j
  else some false).bind fun k=>
 (some k).bind fun l=>
 (if l=true then
  (Zcy a.Real (decide (d ≥ (0:Int))) (IntKind.wrap .u32 a.Delivered.SrcPort)).bind fun m=>
  some m
  else some false).bind fun n=>
 if n=true then
  some (a.Delivered,true)
 else
  allp f (fun o=>(mfold (Zaj a) o ([]:(List (Zc × Bool)))).bind fun(p:Empty ⊕ (List (Zc × Bool)))=>match p with
  | .inl q=>(by cases q)
  | .inr r=>
    (Zaa a d b r fuel ({ a.Real with Src:=b.x0.Lo }:Zc) b.x3.Lo).bind fun(s:(Zc ⊕ (Zc × Bool)))=>
    match s with
    | .inl _=>
      some ((Zc.mk (0:Int) (0:Int) (0:Int) (0:Int) (0:Int)),false)
    | .inr t=>
      some t)
def Zby (b:Int) (j:(List (Zc × Za))) (d:Int) (k:Zc) (l:ByteArray) (g:(List Zp)) (m:Bool) (i:Int):Option (Zc × Int × (List (Zc × Za))):=
 (Z3 b j i).bind fun a=>
 (some (decide (d<(0:Int)))).bind fun n=>
 (if n=true then some true else
  (Zcu g).bind fun o=>
  some (!o)
  ).bind fun p=>
 if p=true then
  some ((Zc.mk (0:Int) (0:Int) (0:Int) (0:Int) (0:Int)),(1:Int),a.2)
 else
  (Zab b a.2 k m).bind fun c=>
  if (c.2 != (0:Int))=true then
   some ((Zc.mk (0:Int) (0:Int) (0:Int) (0:Int) (0:Int)),c.2,a.2)
  else
   (Zbt b a.2 c.1 d g).bind fun f=>
   if (!f.2)=true then
    some ((Zc.mk (0:Int) (0:Int) (0:Int) (0:Int) (0:Int)),(9:Int),a.2)
   else
    (Zan b a.2 ({ ({ ({ c.1 with To:=d }:Za) with Delivered:=f.1 }:Za) with Class:=l }:Za) i).bind fun q=>
    some (f.1,(0:Int),q)
def Z1 (b:ZB):Nat→Int→Option (Unit ⊕ Bool)
 | 0,_=>none
 | c+1,a=>
  if (decide (a<(5:Int)))=true then
   if 0≤a∧a<5 then
   if 0≤a∧a<5 then
   (some (decide ((Arr5.get b a).Lo > (Arr5.get b a).Hi))).bind fun d=>
   (if d=true then some true else
    if 0≤a∧a<5 then
    (Zep a).bind fun f=>
    some (decide ((Arr5.get b a).Hi > f))
    else none
    ).bind fun g=>
   if g=true then
    some (.inr false)
   else
    Z1 b c (IntKind.wrap .i64 (a + (1:Int)))
   else none
   else none
  else
   some (.inl ())
def Zbh (a:ZB):Option Bool:=
 (Z1 a fuel (0:Int)).bind fun(b:(Unit ⊕ Bool))=>
 match b with
 | .inl ()=>
   some true
 | .inr c=>
   some c
def Zbr (a:Zp):Option Bool:=
 (Zbh a.Match).bind fun b=>
 (some b).bind fun c=>
 (some (c && (decide (a.Ports.Lo≤a.Ports.Hi)))).bind fun d=>
 some (d && (decide (a.Ports.Hi≤(65535:Int))))
def Za3 (a:(List Zp)):Nat→Int→Option (Unit ⊕ Bool)
 | 0,_=>none
 | c+1,b=>
  if (decide (b<(List.length a:Int)))=true then
   (idx a b).bind fun d=>
   (Zbr d).bind fun f=>
   if (!f)=true then
    some (.inr false)
   else
    Za3 a c (IntKind.wrap .i64 (b + (1:Int)))
  else
   some (.inl ())
def Zcv (a:(List Zp)):Option Bool:=
 (Za3 a fuel (0:Int)).bind fun(b:(Unit ⊕ Bool))=>
 match b with
 | .inl ()=>
   some (decide ((List.length a:Int)≤(256:Int)))
 | .inr c=>
   some c
def Zaz (b:ZB) (c:(Arr5 Int)):Nat→Int→Option (Unit ⊕ Bool)
 | 0,_=>none
 | d+1,a=>
  if (decide (a<(5:Int)))=true then
   if 0≤a∧a<5 then
   if 0≤a∧a<5 then
   (some (decide ((Arr5.get c a)<(Arr5.get b a).Lo))).bind fun f=>
   (if f=true then some true else
    if 0≤a∧a<5 then
    if 0≤a∧a<5 then
    some (decide ((Arr5.get c a) > (Arr5.get b a).Hi))
    else none
    else none
    ).bind fun g=>
   if g=true then
    some (.inr false)
   else
    Zaz b c d (IntKind.wrap .i64 (a + (1:Int)))
   else none
   else none
  else
   some (.inl ())
def Zbz (a:ZB) (b:Zc):Option Bool:=
 (Zdg b).bind fun c=>
 (Zaz a c fuel (0:Int)).bind fun(d:(Unit ⊕ Bool))=>
 match d with
 | .inl ()=>
   (Zbh a).bind fun f=>
   some f
 | .inr g=>
   some g
def Zbb (b:(List Zp)) (c:Zc):Nat→Int→Option (Unit ⊕ Int)
 | 0,_=>none
 | d+1,a=>
  if (decide (a<(List.length b:Int)))=true then
   (idx b a).bind fun f=>
   (Zbr f).bind fun g=>
   (some g).bind fun i=>
   (if i=true then
    (idx b a).bind fun j=>
    (Zbz j.Match c).bind fun k=>
    some k
    else some false).bind fun l=>
   if l=true then
    some (.inr a)
   else
    Zbb b c d (IntKind.wrap .i64 (a + (1:Int)))
  else
   some (.inl ())
def Zcz (a:(List Zp)) (b:Zc):Option Int:=
 (Zbb a b fuel (0:Int)).bind fun(c:(Unit ⊕ Int))=>
 match c with
 | .inl ()=>
   some (-1:Int)
 | .inr d=>
   some d
def Zfg (a:Zp) (b:ZB):Option ZB:=
 some ({ ({ b with x0:=(Zj.mk a.Addr a.Addr) }:ZB) with x3:=a.Ports }:ZB)
def Zd0 (a:Zp) (b:Zc):Option ZB:=
 (Zbr a).bind fun c=>
 (some (!c)).bind fun d=>
 (if d=true then some true else
  (Zbz a.Match b).bind fun f=>
  some (!f)
  ).bind fun g=>
 if g=true then
  (Zct b).bind fun i=>
  some i
 else
  (Zct b).bind fun j=>
  (Zfg a j).bind fun k=>
  some k
def Zdi (b:ZB) (a:Int):Option ZB:=
 some ({ b with x3:=(Zj.mk a a) }:ZB)
def Zaw (b:ZB) (c:ZB):Nat→ZB→Int→Option ZB
 | 0,_,_=>none
 | f+1,d,a=>
  if (decide (a<(5:Int)))=true then
   if 0≤a∧a<5 then
   if 0≤a∧a<5 then
   if 0≤a∧a<5 then
   if 0≤a∧a<5 then
   if 0≤a∧a<5 then
   Zaw b c f (Arr5.set d a (Zj.mk (iMax ((Arr5.get b a).Lo) ((Arr5.get c a).Lo)) (iMin ((Arr5.get b a).Hi) ((Arr5.get c a).Hi)))) (IntKind.wrap .i64 (a + (1:Int)))
   else none
   else none
   else none
   else none
   else none
  else
   some d
def Zc0 (a:ZB) (b:ZB):Option (ZB × Bool):=
 (Zaw a b fuel Zr (0:Int)).bind fun c=>
  (Zbh a).bind fun d=>
  (some (!d)).bind fun f=>
  (if f=true then some true else
   (Zbh b).bind fun g=>
   some (!g)
   ).bind fun i=>
  (some i).bind fun j=>
  (if j=true then some true else
   (Zbh c).bind fun k=>
   some (!k)
   ).bind fun l=>
  if l=true then
   some ((Arr5.mk Zba Zba Zba Zba Zba),false)
  else
   some (c,true)
def Za0 (c:(ZB × Bool)):Nat→ZL→ZB→Int→Option (ZL × ZB)
 | 0,_,_,_=>none
 | g+1,d,b,a=>
  if (decide (a<(5:Int)))=true then
   ((if 0≤a∧a<5 then
   if 0≤a∧a<5 then
   if (decide ((Arr5.get b a).Lo<(Arr5.get c.1 a).Lo))=true then
    if 0≤a∧a<5 then
    if 0≤a∧a<5 then
    if List.length d + List.length [(Arr5.set b a ({ (Arr5.get b a) with Hi:=(IntKind.wrap .u32 ((Arr5.get c.1 a).Lo - (1:Int))) }:Zj))]≤lim then
    some (d++[(Arr5.set b a ({ (Arr5.get b a) with Hi:=(IntKind.wrap .u32 ((Arr5.get c.1 a).Lo - (1:Int))) }:Zj))])
    else none
    else none
    else none
   else
    some d
   else none
   else none).bind fun f=>
    (if 0≤a∧a<5 then
    if 0≤a∧a<5 then
    if (decide ((Arr5.get b a).Hi > (Arr5.get c.1 a).Hi))=true then
     if 0≤a∧a<5 then
     if 0≤a∧a<5 then
     if List.length f + List.length [(Arr5.set b a ({ (Arr5.get b a) with Lo:=(IntKind.wrap .u32 ((Arr5.get c.1 a).Hi + (1:Int))) }:Zj))]≤lim then
     some (f++[(Arr5.set b a ({ (Arr5.get b a) with Lo:=(IntKind.wrap .u32 ((Arr5.get c.1 a).Hi + (1:Int))) }:Zj))])
     else none
     else none
     else none
    else
     some f
    else none
    else none).bind fun i=>
     if 0≤a∧a<5 then
     if 0≤a∧a<5 then
     some i
     else none
     else none).bind fun j=>
    Za0 c g j (Arr5.set b a (Arr5.get c.1 a)) (IntKind.wrap .i64 (a + (1:Int)))
  else
   some (d,b)
def Zdc (a:ZB) (c:ZB):Option ZL:=
 (Zbh a).bind fun d=>
 if (!d)=true then
  some ([]:ZL)
 else
  (Zc0 a c).bind fun b=>
  if (!b.2)=true then
   some [a]
  else
   (Za0 b fuel ([]:ZL) a (0:Int)).bind fun f=>
   match f with
   | (g,_)=>
    some g
def Zbw (c:(List Zp)) (a:Zc):Option ZL:=
 (Zcz c a).bind fun d=>
 if (decide (d<(0:Int)))=true then
  (Zct a).bind fun f=>
  some [f]
 else
  (idx c d).bind fun g=>
  (Zd0 g a).bind fun b=>
  ((if (a.Proto == (6:Int))=true then
   some (a.Proto == (6:Int))
  else
   some (a.Proto == (17:Int))).bind fun i=>
   if i=true then
    some (.inr [b])
   else
    if (a.Proto == (1:Int))=true then
     (Zdi b (8:Int)).bind fun j=>
     (Zdc b j).bind fun k=>
     some (.inr k)
    else
     some (.inl ())).bind fun(l:(Unit ⊕ ZL))=>
  match l with
  | .inl ()=>
    (Zdi b (0:Int)).bind fun m=>
    some [m]
  | .inr n=>
    some n
def Zay (a:Zk) (c:Zc) (d:Zc):Nat→Int→Option (Unit ⊕ Bool)
 | 0,_=>none
 | f+1,b=>
  if (decide (b<(List.length a.L:Int)))=true then
   (idx a.L b).bind fun g=>
   (some (decide (g.To ≥ (0:Int)))).bind fun i=>
   (if i=true then
    (idx a.L b).bind fun j=>
    some (Zg j.Delivered c)
    else some false).bind fun k=>
   (some k).bind fun l=>
   (if l=true then
    (idx a.L b).bind fun m=>
    some (!(Zg m.Real d))
    else some false).bind fun n=>
   if n=true then
    some (.inr true)
   else
    Zay a c d f (IntKind.wrap .i64 (b + (1:Int)))
  else
   some (.inl ())
def Zcn (a:Zk) (b:Zc) (c:Zc):Option Bool:=
 (Zay a b c fuel (0:Int)).bind fun(d:(Unit ⊕ Bool))=>
 match d with
 | .inl ()=>
   some false
 | .inr f=>
   some f
def Zaf (a:Za) (d:Int) (b:ZL):Nat→Int→Option (Unit ⊕ (Zc × Bool))
 | 0,_=>none
 | f+1,c=>
  if (decide (c<(List.length b:Int)))=true then
   (some (a.To == d)).bind fun g=>
   (if g=true then
    (idx b c).bind fun i=>
    (Zbz i a.Delivered).bind fun j=>
    some j
    else some false).bind fun k=>
   if k=true then
    some (.inr (a.Delivered,true))
   else
    Zaf a d b f (IntKind.wrap .i64 (c + (1:Int)))
  else
   some (.inl ())
def Zap (d:Zk) (f:Za) (a:ZL) (b:Int) (g:ZB):Nat→Int→Option (Unit ⊕ (Zc × Bool))
 | 0,_=>none
 | m+1,c=>
  if (decide (c≤g.x3.Hi))=true then
   (idx a b).bind fun i=>
   (idx a b).bind fun j=>
   (idx a b).bind fun k=>
   (idx a b).bind fun l=>
   (Zcn d (Zc.mk i.x0.Lo j.x1.Lo (IntKind.wrap .u8 k.x2.Lo) (IntKind.wrap .u16 c) (IntKind.wrap .u16 l.x4.Lo)) f.Real).bind fun n=>
   if (!n)=true then
    some (.inr ((Zc.mk i.x0.Lo j.x1.Lo (IntKind.wrap .u8 k.x2.Lo) (IntKind.wrap .u16 c) (IntKind.wrap .u16 l.x4.Lo)),true))
   else
    Zap d f a b g m (IntKind.wrap .u32 (c + (1:Int)))
  else
   some (.inl ())
def Zaq (c:Zk) (d:Za) (a:ZL):Nat→Int→Option (Unit ⊕ (Zc × Bool))
 | 0,_=>none
 | g+1,b=>
  if (decide (b<(List.length a:Int)))=true then
   (idx a b).bind fun f=>
   (Zap c d a b f fuel f.x3.Lo).bind fun(i:(Unit ⊕ (Zc × Bool)))=>
   match i with
   | .inl ()=>
     Zaq c d a g (IntKind.wrap .i64 (b + (1:Int)))
   | .inr j=>
     some (.inr j)
  else
   some (.inl ())
def Zbj (c:Zk) (a:Za) (d:Int) (b:ZL):Option (Zc × Bool):=
 (Zaf a d b fuel (0:Int)).bind fun(f:(Unit ⊕ (Zc × Bool)))=>
 match f with
 | .inl ()=>
   (Zaq c a b fuel (0:Int)).bind fun(g:(Unit ⊕ (Zc × Bool)))=>
   match g with
   | .inl ()=>
     some ((Zc.mk (0:Int) (0:Int) (0:Int) (0:Int) (0:Int)),false)
   | .inr i=>
     some i
 | .inr j=>
   some j
def Zb5 (k:Zk) (c:Int) (f:Zc) (l:ByteArray) (g:(List Zp)) (i:Bool) (j:Int):Option (Zc × Int × Zk):=
 (Z6 k j).bind fun a=>
 (some (decide (c<(0:Int)))).bind fun m=>
 (if m=true then some true else
  (Zcv g).bind fun n=>
  some (!n)
  ).bind fun o=>
 if o=true then
  some ((Zc.mk (0:Int) (0:Int) (0:Int) (0:Int) (0:Int)),(1:Int),a.2)
 else
  (Zax a.2 f i).bind fun b=>
  if (b.2 != (0:Int))=true then
   some ((Zc.mk (0:Int) (0:Int) (0:Int) (0:Int) (0:Int)),b.2,a.2)
  else
   (some (decide (b.1.To<(0:Int)))).bind fun p=>
   if (p && (!i))=true then
    some ((Zc.mk (0:Int) (0:Int) (0:Int) (0:Int) (0:Int)),(16:Int),a.2)
   else
    (Zbw g f).bind fun q=>
    (Zbj a.2 b.1 c q).bind fun d=>
    if (!d.2)=true then
     some ((Zc.mk (0:Int) (0:Int) (0:Int) (0:Int) (0:Int)),(9:Int),a.2)
    else
     (Zac ({ ({ ({ b.1 with To:=c }:Za) with Delivered:=d.1 }:Za) with Class:=l }:Za) j).bind fun r=>
     (Zad a.2 r).bind fun s=>
     some (d.1,(0:Int),s)
def Za6 (c:Int) (a:(List (Zc × Za))) (b:Zc):Option (Za × Int):=
 if (mget Zg a b).isSome=true then
  some (((mget Zg a b).getD Zm),(0:Int))
 else
  if (decide ((List.length a:Int) ≥ c))=true then
   some ((Za.mk Zl Zl Zl (0:Int) (0:Int) false ByteArray.empty (0:Int) (0:Int)),(9:Int))
  else
   some ((Za.mk b Zl Zl (-1:Int) (-1:Int) false ByteArray.empty (1:Int) (0:Int)),(0:Int))
def Zbu (a:Int) (f:(List (Zc × Za))) (g:Zc) (i:ByteArray) (d:Int):Option (Int × (List (Zc × Za))):=
 (Z3 a f d).bind fun b=>
 (Za6 a b.2 g).bind fun c=>
 if (c.2 != (0:Int))=true then
  some (c.2,b.2)
 else
  (Zan a b.2 ({ ({ c.1 with Waypoint:=true }:Za) with Class:=i }:Za) d).bind fun j=>
  some ((0:Int),j)
def Zb0 (d:Zk) (f:Zc) (g:ByteArray) (c:Int):Option (Int × Zk):=
 (Z6 d c).bind fun a=>
 (Zax a.2 f true).bind fun b=>
 if (b.2 != (0:Int))=true then
  some (b.2,a.2)
 else
  (Zac ({ ({ b.1 with Waypoint:=true }:Za) with Class:=g }:Za) c).bind fun i=>
  (Zad a.2 i).bind fun j=>
  some ((0:Int),j)
def Zbf (c:Int) (g:(List (Zc × Za))) (b:Zc) (d:Int) (f:Int) (i:Bool):Option (List (Zc × Za)):=
 (Z3 c g f).bind fun a=>
 if (!(mget Zg a.2 b).isSome)=true then
  some a.2
 else
  (if ((bAnd .i64 d (4:Int)) != (0:Int))=true then
   some (.inr (mdel Zg a.2 b))
  else
   if ((bAnd .i64 d (1:Int)) != (0:Int))=true then
    some (.inl ({ ((mget Zg a.2 b).getD Zm) with State:=(3:Int) }:Za))
   else
    (some i).bind fun j=>
    if (j && (((mget Zg a.2 b).getD Zm).State == (1:Int)))=true then
     some (.inl ({ ((mget Zg a.2 b).getD Zm) with State:=(2:Int) }:Za))
    else
     some (.inl ((mget Zg a.2 b).getD Zm))).bind fun(k:(Za ⊕ (List (Zc × Za))))=>
  match k with
  | .inl l=>
    (Zan c a.2 l f).bind fun m=>
    some m
  | .inr n=>
    some n
def Zbv (a:Int) (b:(List (Zc × Za))) (c:Zc) (d:Int) (f:Int):Option (List (Zc × Za)):=
 (Zbf a b c d f false).bind fun g=>
 some g
def Zbk (g:Zk) (i:Zc) (d:Int) (f:Int) (j:Bool):Option Zk:=
 (Z6 g f).bind fun a=>
 (Zav a.2 i).bind fun b=>
 if (decide (b<(0:Int)))=true then
  some a.2
 else
  (idx a.2.L b).bind fun c=>
  if ((bAnd .i64 d (4:Int)) != (0:Int))=true then
   if 0≤(0:Int)∧(0:Int)≤b∧b≤(List.length a.2.L:Int) then
   if List.length ([]:(List Za)) + List.length (List.drop (Int.toNat (0:Int)) (List.take (Int.toNat b) a.2.L))≤lim then
   if 0≤(IntKind.wrap .i64 (b + (1:Int)))∧(IntKind.wrap .i64 (b + (1:Int)))≤(List.length a.2.L:Int)∧(List.length a.2.L:Int)≤(List.length a.2.L:Int) then
   if List.length (([]:(List Za))++(List.drop (Int.toNat (0:Int)) (List.take (Int.toNat b) a.2.L))) + List.length (List.drop (Int.toNat (IntKind.wrap .i64 (b + (1:Int)))) (List.take (Int.toNat (List.length a.2.L:Int)) a.2.L))≤lim then
   some ({ a.2 with L:=((([]:(List Za))++(List.drop (Int.toNat (0:Int)) (List.take (Int.toNat b) a.2.L)))++(List.drop (Int.toNat (IntKind.wrap .i64 (b + (1:Int)))) (List.take (Int.toNat (List.length a.2.L:Int)) a.2.L))) }:Zk)
   else none
   else none
   else none
   else none
  else
   (if ((bAnd .i64 d (1:Int)) != (0:Int))=true then
    some ({ c with State:=(3:Int) }:Za)
   else
    (some j).bind fun k=>
    if (k && (c.State == (1:Int)))=true then
     some ({ c with State:=(2:Int) }:Za)
    else
     some c).bind fun l=>
    (Zac l f).bind fun m=>
    (Zad a.2 m).bind fun n=>
    some n
def Zb6 (a:Int) (b:(List (Zc × Za))) (c:Zc) (d:Int) (f:Int):Option (List (Zc × Za)):=
 (Zbf a b c d f true).bind fun g=>
 some g
def Zd2 (a:Int) (b:(List (Zc × Za))):Option (List (Zc × Za)):=
 some ([]:(List (Zc × Za)))
def Zcf (c:Int) (d:(List (Zc × Za))) (b:Zc) (f:Int):Option (Za × Bool × (List (Zc × Za))):=
 (Z3 c d f).bind fun a=>
 some (((mget Zg a.2 b).getD Zm),(mget Zg a.2 b).isSome,a.2)
def Zco (c:Zk) (d:Zc) (f:Int):Option (Za × Bool × Zk):=
 (Z6 c f).bind fun a=>
 (Zav a.2 d).bind fun b=>
 if (decide (b ≥ (0:Int)))=true then
  (idx a.2.L b).bind fun g=>
  some (g,true,a.2)
 else
  some ((Za.mk Zl Zl Zl (0:Int) (0:Int) false ByteArray.empty (0:Int) (0:Int)),false,a.2)
def Zbi (a:Zc):Option Zc:=
 some (Zc.mk a.Dst a.Src a.Proto a.DstPort a.SrcPort)
def Zeo (a:Zc):Option Zc:=
 some (Zc.mk a.Dst a.Src a.Proto a.DstPort a.SrcPort)
def Zao (b:Int) (c:(Int × (List (Zc × Za)))) (d:Zc):(Zc × Za)→Unit→Option ((Za × Bool × (List (Zc × Za))) ⊕ Unit)
 | a,()=>
  (some (a.2.To == b)).bind fun f=>
  if (f && (Zg a.2.Delivered d))=true then
   some (.inl (a.2,true,c.2))
  else
   some (.inr ())
def Z8 (d:Int) (b:(List (Zc × Za))) (c:Int) (f:Zc) (g:Int):Option (Za × Bool × (List (Zc × Za))):=
 if (decide (c<(0:Int)))=true then
  some ((Za.mk Zl Zl Zl (0:Int) (0:Int) false ByteArray.empty (0:Int) (0:Int)),false,b)
 else
  (Z3 d b g).bind fun a=>
  (Zeo f).bind fun i=>
  allp a.2 (fun j=>(mfold (Zao c a i) j ()).bind fun(k:(Za × Bool × (List (Zc × Za))) ⊕ Unit)=>match k with
  | .inl l=>some l
  | .inr ()=>
    some ((Za.mk Zl Zl Zl (0:Int) (0:Int) false ByteArray.empty (0:Int) (0:Int)),false,a.2))
def Zag (c:Int) (d:Zc) (a:(Int × Zk)):Nat→Int→Option (Unit ⊕ (Za × Bool × Zk))
 | 0,_=>none
 | f+1,b=>
  if (decide (b<(List.length a.2.L:Int)))=true then
   (idx a.2.L b).bind fun g=>
   (some (decide (g.To ≥ (0:Int)))).bind fun i=>
   (if i=true then
    (idx a.2.L b).bind fun j=>
    some (j.To == c)
    else some false).bind fun k=>
   (some k).bind fun l=>
   (if l=true then
    (idx a.2.L b).bind fun m=>
    (Zbi d).bind fun n=>
    some (Zg m.Delivered n)
    else some false).bind fun o=>
   if o=true then
    (idx a.2.L b).bind fun p=>
    some (.inr (p,true,a.2))
   else
    Zag c d a f (IntKind.wrap .i64 (b + (1:Int)))
  else
   some (.inl ())
def Zar (b:Zk) (c:Int) (d:Zc) (f:Int):Option (Za × Bool × Zk):=
 (Z6 b f).bind fun a=>
 (Zag c d a fuel (0:Int)).bind fun(g:(Unit ⊕ (Za × Bool × Zk)))=>
 match g with
 | .inl ()=>
   some ((Za.mk Zl Zl Zl (0:Int) (0:Int) false ByteArray.empty (0:Int) (0:Int)),false,a.2)
 | .inr i=>
   some i
def Zdd (a:Int):Option Bool:=
 some (a != a)
def Zb3 (a:Int) (b:Int):Option Int:=
 (Zdd a).bind fun d=>
 (Zdd b).bind fun c=>
 if d=true then
  if c=true then
   some (0:Int)
  else
   some (-1:Int)
 else
  if c=true then
   some (1:Int)
  else
   if (decide (a<b))=true then
    some (-1:Int)
   else
    if (decide (a > b))=true then
     some (1:Int)
    else
     some (0:Int)
def Zdo (a:Int):Option Bool:=
 some (a != a)
def Zc1 (a:Int) (b:Int):Option Int:=
 (Zdo a).bind fun d=>
 (Zdo b).bind fun c=>
 if d=true then
  if c=true then
   some (0:Int)
  else
   some (-1:Int)
 else
  if c=true then
   some (1:Int)
  else
   if (decide (a<b))=true then
    some (-1:Int)
   else
    if (decide (a > b))=true then
     some (1:Int)
    else
     some (0:Int)
def Zde (a:Int):Option Bool:=
 some (a != a)
def Zb4 (a:Int) (b:Int):Option Int:=
 (Zde a).bind fun d=>
 (Zde b).bind fun c=>
 if d=true then
  if c=true then
   some (0:Int)
  else
   some (-1:Int)
 else
  if c=true then
   some (1:Int)
  else
   if (decide (a<b))=true then
    some (-1:Int)
   else
    if (decide (a > b))=true then
     some (1:Int)
    else
     some (0:Int)
def Zcw (a:(List Int)):Nat→Int→Option (Unit ⊕ Int)
 | 0,_=>none
 | d+1,b=>
  if (decide (b<(List.length a:Int)))=true then
   (idx a b).bind fun c=>
   if (c != (0:Int))=true then
    some (.inr c)
   else
    Zcw a d (IntKind.wrap .i64 (b + (1:Int)))
  else
   some (.inl ())
def Zez (a:(List Int)):Option Int:=
 (Zcw a fuel (0:Int)).bind fun(b:(Unit ⊕ Int))=>
 match b with
 | .inl ()=>
   some (0:Int)
 | .inr c=>
   some c
def Zc2 (a:Zc) (b:Zc):Option Int:=
 (Zb3 a.Src b.Src).bind fun c=>
 (Zb3 a.Dst b.Dst).bind fun d=>
 (Zc1 a.Proto b.Proto).bind fun f=>
 (Zb4 a.SrcPort b.SrcPort).bind fun g=>
 (Zb4 a.DstPort b.DstPort).bind fun i=>
 (Zez [c,d,f,g,i]).bind fun j=>
 some j
def Zae (a:Za) (b:Za):Option Int:=
 (Zc2 a.Real b.Real).bind fun c=>
 some c
def Zbd:(Zc × Za)→(List Za)→Option (Empty ⊕ (List Za))
 | a,b=>
  if List.length b + List.length [a.2]≤lim then
  some (.inr (b++[a.2]))
  else none
def Zcg (d:Int) (f:(List (Zc × Za))) (g:Int):Option ((List Za) × (List (Zc × Za))):=
 (Z3 d f g).bind fun a=>
 allp a.2 (fun i=>(mfold (Zbd) i ([]:(List Za))).bind fun(j:Empty ⊕ (List Za))=>match j with
 | .inl k=>(by cases k)
 | .inr b=>
   (sortFn Zae b).bind fun c=>
   if List.length c=List.length b then
   some (c,a.2)
   else none)
def Zb1 (b:(List Za)) (c:(List Za)):Nat→Int→Option (Unit ⊕ Bool)
 | 0,_=>none
 | d+1,a=>
  if (decide (a<(List.length b:Int)))=true then
   (idx b a).bind fun f=>
   (idx c a).bind fun g=>
   if (!(Zb8 f g))=true then
    some (.inr false)
   else
    Zb1 b c d (IntKind.wrap .i64 (a + (1:Int)))
  else
   some (.inl ())
def Zd6 (a:(List Za)) (b:(List Za)):Option Bool:=
 if ((List.length a:Int) != (List.length b:Int))=true then
  some false
 else
  (Zb1 a b fuel (0:Int)).bind fun(c:(Unit ⊕ Bool))=>
  match c with
  | .inl ()=>
    some true
  | .inr d=>
    some d
def Zdj (c:Int) (m:(List (Zc × Za))) (n:Zk) (a:Zw):Option (Bool × (List (Zc × Za)) × Zk):=
 (Zcf c m a.Real a.Now).bind fun g=>
 (Zco n a.Real a.Now).bind fun b=>
 (Zbi a.Sent).bind fun o=>
 (Z8 c g.2.2 a.Edge o a.Now).bind fun i=>
 (Zbi a.Sent).bind fun p=>
 (Zar b.2.2 a.Edge p a.Now).bind fun j=>
 (Zbi b.1.Delivered).bind fun q=>
 (Z8 c i.2.2 a.Edge q a.Now).bind fun d=>
 (Zbi b.1.Delivered).bind fun r=>
 (Zar j.2.2 a.Edge r a.Now).bind fun f=>
 (some (Zb8 g.1 b.1)).bind fun s=>
 (some (s && (g.2.1 == b.2.1))).bind fun t=>
 (some (t && (Zb8 i.1 j.1))).bind fun u=>
 (some (u && (i.2.1 == j.2.1))).bind fun v=>
 (some (v && (Zb8 d.1 f.1))).bind fun w=>
 (some (w && (d.2.1 == f.2.1))).bind fun x=>
 (if x=true then
  (Zcg c d.2.2 a.Now).bind fun k=>
  (Zd6 k.1 f.2.2.L).bind fun y=>
  some (y,k.2)
  else some (false,d.2.2)).bind fun l=>
 some (l.1,l.2,f.2.2)
def Zdn (b:Int) (c:(List (Zc × Za))) (d:Zk) (a:Zw):Option (Bool × (List (Zc × Za)) × Zk):=
 (if (a.Kind == (0:Int))=true then
  (Zbs b c a.Edge a.Sent a.Real a.Class a.Opens a.Now).bind fun i=>
  (Zbx d a.Edge a.Sent a.Real a.Class a.Opens a.Now).bind fun j=>
  if (i.1 != j.1)=true then
   some (.inr (false,i.2,j.2))
  else
   some (.inl (i.2,j.2))
 else
  if (a.Kind == (1:Int))=true then
   (Zby b c a.Edge a.Real a.Class a.Hides a.Opens a.Now).bind fun f=>
   (Zb5 d a.Edge a.Real a.Class a.Hides a.Opens a.Now).bind fun g=>
   (some (!(Zg f.1 g.1))).bind fun p=>
   if (p || (f.2.1 != g.2.1))=true then
    some (.inr (false,f.2.2,g.2.2))
   else
    some (.inl (f.2.2,g.2.2))
  else
   if (a.Kind == (2:Int))=true then
    (Zbu b c a.Real a.Class a.Now).bind fun k=>
    (Zb0 d a.Real a.Class a.Now).bind fun l=>
    if (k.1 != l.1)=true then
     some (.inr (false,k.2,l.2))
    else
     some (.inl (k.2,l.2))
   else
    if (a.Kind == (3:Int))=true then
     (Zbv b c a.Real a.Flags a.Now).bind fun q=>
     (Zbk d a.Real a.Flags a.Now false).bind fun r=>
     some (.inl (q,r))
    else
     if (a.Kind == (4:Int))=true then
      (Zb6 b c a.Real a.Flags a.Now).bind fun s=>
      (Zbk d a.Real a.Flags a.Now true).bind fun t=>
      some (.inl (s,t))
     else
      if (a.Kind == (5:Int))=true then
       (Z3 b c a.Now).bind fun m=>
       (Z6 d a.Now).bind fun n=>
       if (m.1 != n.1)=true then
        some (.inr (false,m.2,n.2))
       else
        some (.inl (m.2,n.2))
      else
       if (a.Kind == (6:Int))=true then
        (Zd2 b c).bind fun u=>
        some (.inl (u,({ d with L:=([]:(List Za)) }:Zk)))
       else
        some (.inl (c,d))).bind fun(v:(((List (Zc × Za)) × Zk) ⊕ (Bool × (List (Zc × Za)) × Zk)))=>
 match v with
 | .inl (w,x)=>
   (Zdj b w x a).bind fun o=>
   some (o.1,o.2.1,o.2.2)
 | .inr y=>
   some y
def Zef (a:Int):Option Unit:=
 (some (decide (a<(1:Int)))).bind fun b=>
 if (b || (decide (a > (64:Int))))=true then
  some ()
 else
  none
def Za5:(Zc × Za)→(List (Zc × Za))→Option (Empty ⊕ (List (Zc × Za)))
 | a,b=>
  some (.inr (mput Zg b a.1 a.2))
def Zb7 (a:Int) (b:(List (Zc × Za))):Option (Int × (List (Zc × Za))):=
 allp b (fun c=>(mfold (Za5) c ([]:(List (Zc × Za)))).bind fun(d:Empty ⊕ (List (Zc × Za)))=>match d with
 | .inl f=>(by cases f)
 | .inr g=>
   some (a,(canonM g)))
def Zch (a:Zk):Option Zk:=
 if List.length ([]:(List Za)) + List.length a.L≤lim then
 some (Zk.mk a.Most (([]:(List Za))++a.L))
 else none
def Zah (c:(Int × (List (Zc × Za)))):Nat→(List (Zc × Za))→Zk→Zq→Int→Int→Option (((List (Zc × Za)) × Zk × Zq × Int) ⊕ Bool)
 | 0,_,_,_,_,_=>none
 | k+1,d,f,g,i,j=>
  if (decide (j<(6:Int)))=true then
   (Zc6 g i).bind fun a=>
   (Zdn c.1 d f a.1).bind fun b=>
   if (!b.1)=true then
    some (.inr false)
   else
    Zah c k b.2.1 b.2.2 a.2 a.1.Now (IntKind.wrap .i64 (j + (1:Int)))
  else
   some (.inl (d,f,g,i))
def Zai (j:(Int × (List (Zc × Za)))) (b:Int) (k:(Int × (List (Zc × Za)))):Nat→(List (Zc × Za))→Zk→Zq→(List (Zc × Za))→Zk→Int→Option (((List (Zc × Za)) × Zk × Zq × (List (Zc × Za)) × Zk) ⊕ Bool)
 | 0,_,_,_,_,_,_=>none
 | q+1,l,m,n,c,d,o=>
  if (decide (o<(6:Int)))=true then
   (Zc6 n b).bind fun f=>
   (Zdn j.1 l m f.1).bind fun g=>
   (some (!g.1)).bind fun r=>
   (if r=true then some (true,f.2,c,d) else
    (Zc6 f.2 b).bind fun p=>
    (Zdn k.1 c d p.1).bind fun i=>
    some ((!i.1),p.2,i.2.1,i.2.2)
    ).bind fun a=>
   if a.1=true then
    some (.inr false)
   else
    Zai j b k q g.2.1 g.2.2 a.2.1 a.2.2.1 a.2.2.2 (IntKind.wrap .i64 (o + (1:Int)))
  else
   some (.inl (l,m,n,c,d))
def Zcj (f:(List Int)):Option Bool:=
 if (Zdb (4:Int)).isSome=true then
  (Zdb (4:Int)).bind fun a=>
  (Zft f).bind fun g=>
  (Zah a fuel a.2 (Zk.mk (4:Int) ([]:(List Za))) g (0:Int) (0:Int)).bind fun(i:(((List (Zc × Za)) × Zk × Zq × Int) ⊕ Bool))=>
  match i with
  | .inl (b,c,j,k)=>
    (Zb7 a.1 b).bind fun d=>
    (Zch c).bind fun l=>
    (Zai a k d fuel b c j d.2 l (0:Int)).bind fun(m:(((List (Zc × Za)) × Zk × Zq × (List (Zc × Za)) × Zk) ⊕ Bool))=>
    match m with
    | .inl (_,_,_,_,_)=>
      (Zfs).bind fun n=>
      some n
    | .inr o=>
      some o
  | .inr p=>
    some p
 else
  (Zef (4:Int)).bind fun _=>
  some false
end
end Go.AM
set_option maxRecDepth 100000
namespace Go.Proofs
def Tryz.srt53_ren : Go.Shelf.Ren := ⟨fun | 6 => 53 | 15 => 73 | 14 => 72 | 28 => 98 | 29 => 99 | 20 => 90 | 21 => 91 | 22 => 92 | 23 => 93 | 24 => 94 | 25 => 95 | 26 => 96 | 27 => 97 | 46 => 104 | 47 => 105 | 48 => 106 | 49 => 107 | 50 => 108 | 57 => 109 | n => n, fun | 22 => 30 | 24 => 67 | 25 => 99 | 3 => 3 | 39 => 53 | 0 => 0 | 53 => 35 | 55 => 137 | 4 => 4 | 46 => 129 | 45 => 128 | 50 => 133 | 5 => 5 | 9 => 9 | 66 => 141 | 70 => 145 | 76 => 147 | 77 => 148 | n => n, fun | n => n⟩
theorem Tryz.srt53 : Go.Proofs.SlLaysF0.n6 Tryz.prog Tryz.srt53_ren := {
  mixed := by kernel_rfl
  f6 := ⟨Tryz.f53.name, by decide, Tryz.func53.trans (congrArg some (by kernel_rfl))⟩
  f14 := ⟨Tryz.f72.name, by decide, Tryz.func72.trans (congrArg some (by kernel_rfl))⟩
  f15 := Tryz.func73.trans (congrArg some (by kernel_rfl))
  f20 := ⟨Tryz.f90.name, by decide, Tryz.func90.trans (congrArg some (by kernel_rfl))⟩
  f21 := ⟨Tryz.f91.name, by decide, Tryz.func91.trans (congrArg some (by kernel_rfl))⟩
  f22 := ⟨Tryz.f92.name, by decide, Tryz.func92.trans (congrArg some (by kernel_rfl))⟩
  f23 := ⟨Tryz.f93.name, by decide, Tryz.func93.trans (congrArg some (by kernel_rfl))⟩
  f24 := ⟨Tryz.f94.name, by decide, Tryz.func94.trans (congrArg some (by kernel_rfl))⟩
  f25 := ⟨Tryz.f95.name, by decide, Tryz.func95.trans (congrArg some (by kernel_rfl))⟩
  f26 := ⟨Tryz.f96.name, by decide, Tryz.func96.trans (congrArg some (by kernel_rfl))⟩
  f27 := ⟨Tryz.f97.name, by decide, Tryz.func97.trans (congrArg some (by kernel_rfl))⟩
  f28 := Tryz.func98.trans (congrArg some (by kernel_rfl))
  f29 := Tryz.func99.trans (congrArg some (by kernel_rfl))
  f46 := ⟨Tryz.f104.name, by decide, Tryz.func104.trans (congrArg some (by kernel_rfl))⟩
  f47 := Tryz.func105.trans (congrArg some (by kernel_rfl))
  f48 := Tryz.func106.trans (congrArg some (by kernel_rfl))
  f49 := ⟨Tryz.f107.name, by decide, Tryz.func107.trans (congrArg some (by kernel_rfl))⟩
  f50 := ⟨Tryz.f108.name, by decide, Tryz.func108.trans (congrArg some (by kernel_rfl))⟩
  f57 := ⟨Tryz.f109.name, by decide, Tryz.func109.trans (congrArg some (by kernel_rfl))⟩
  t0 := Tryz.underlying0
  a0 := Tryz.isAgg0
  z0 := Tryz.sizeOf0
  v0 := Tryz.zeroValue0
  t3 := Tryz.underlying3
  a3 := Tryz.isAgg3
  z3 := Tryz.sizeOf3
  v3 := Tryz.zeroValue3
  t4 := Tryz.underlying4
  a4 := Tryz.isAgg4
  z4 := Tryz.sizeOf4
  v4 := Tryz.zeroValue4
  t5 := Tryz.underlying5
  a5 := Tryz.isAgg5
  z5 := Tryz.sizeOf5
  v5 := Tryz.zeroValue5
  t9 := Tryz.underlying9
  a9 := Tryz.isAgg9
  z9 := Tryz.sizeOf9
  v9 := Tryz.zeroValue9
  t22 := Tryz.underlying30
  a22 := Tryz.isAgg30
  z22 := Tryz.sizeOf30
  v22 := Tryz.zeroValue30
  t25 := Tryz.underlying99
  a25 := Tryz.isAgg99
  z25 := Tryz.sizeOf99
  v25 := Tryz.zeroValue99
  t39 := Tryz.underlying53
  a39 := Tryz.isAgg53
  z39 := Tryz.sizeOf53
  v39 := Tryz.zeroValue53
  t45 := Tryz.underlying128
  a45 := Tryz.isAgg128
  z45 := Tryz.sizeOf128
  v45 := Tryz.zeroValue128
  t46 := Tryz.underlying129
  a46 := Tryz.isAgg129
  z46 := Tryz.sizeOf129
  v46 := Tryz.zeroValue129
  t50 := Tryz.underlying133
  a50 := Tryz.isAgg133
  z50 := Tryz.sizeOf133
  v50 := Tryz.zeroValue133
  t53 := Tryz.underlying35
  a53 := Tryz.isAgg35
  z53 := Tryz.sizeOf35
  v53 := Tryz.zeroValue35
  t55 := Tryz.underlying137
  a55 := Tryz.isAgg137
  z55 := Tryz.sizeOf137
  v55 := Tryz.zeroValue137
  t66 := Tryz.underlying141
  a66 := Tryz.isAgg141
  z66 := Tryz.sizeOf141
  v66 := Tryz.zeroValue141
  t70 := Tryz.underlying145
  a70 := Tryz.isAgg145
  z70 := Tryz.sizeOf145
  v70 := Tryz.zeroValue145
  t76 := Tryz.underlying147
  a76 := Tryz.isAgg147
  z76 := Tryz.sizeOf147
  v76 := Tryz.zeroValue147
  t77 := Tryz.underlying148
  a77 := Tryz.isAgg148
  z77 := Tryz.sizeOf148
  v77 := Tryz.zeroValue148 }
end Go.Proofs
namespace Go.AM
open Go Go.Proofs
theorem Zak:KeyOk Tryz.prog 38 Zh Zg:=KeyOk.struct (vs:=Zgm) (by kernel_rfl) (fun _=>by kernel_rfl) (fun _ _=>by kernel_rfl) (fun _=>by kernel_rfl) (fun a b=>⟨fun h=>by cases a; cases b; simpa [Zg] using h,fun h=>by subst h; simp [Zg]⟩)
end Go.AM
set_option maxRecDepth 1000000
namespace Go.AM
open Go Go.Proofs
def glob:Glob:=[(0,Zbl Zdm)]
def T0:Tab:=[]
theorem T0_ok:T0.ok Tryz.prog glob:=Tab.nil
def T1:Tab:=(83,[.sc (.agg #[.int .u32 1,.int .u32 2,.int .u8 17,.int .u16 3,.int .u16 4])],.sc (.agg #[.int .u32 1,.int .u32 1,.int .u32 2,.int .u32 2,.int .u32 17,.int .u32 17,.int .u32 3,.int .u32 3,.int .u32 4,.int .u32 4])) :: T0
theorem T1_ok:T1.ok Tryz.prog glob:=Tab.cons T0_ok 100000 (by kernel_rfl)
def T2:Tab:=(53,[.sl 21 [[.sc (.int .u32 1),.sc (.int .u32 2),.sc (.int .u8 17),.sc (.int .u16 3),.sc (.int .u16 4),.sc (.int .u32 0),.sc (.int .u32 0),.sc (.int .u8 0),.sc (.int .u16 0),.sc (.int .u16 0),.sc (.int .u32 1),.sc (.int .u32 2),.sc (.int .u8 17),.sc (.int .u16 3),.sc (.int .u16 4),.sc (.int .i64 (-1)),.sc (.int .i64 1),.sc (.bool false),.sc (.string (ByteArray.mk #[])),.sc (.int .i64 1),.sc (.int .i64 130)]],.sc (.func (.func 54) #[] #[])],.tup []) :: T1
theorem T2_ok:T2.ok Tryz.prog glob:=Tab.cons T1_ok 100000 (by kernel_rfl)
def T3:Tab:=(11,[],.sc (.bool true)) :: T2
theorem T3_ok:T3.ok Tryz.prog glob:=Tab.cons T2_ok 100000 (by kernel_rfl)
end Go.AM

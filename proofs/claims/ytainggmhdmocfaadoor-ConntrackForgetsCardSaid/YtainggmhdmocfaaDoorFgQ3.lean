/- Parts of a proof, printed short. No condition. -/
import Derived.Laws.OwnMore
import Derived.Laws.Cover3
import Derived.Laws.Pointers
import Derived.Laws.BytesString
import Derived.MapKept
import Derived.Laws.Externs
import Derived.Laws.Concat
import Derived.Laws.IdiomStrings
import Derived.Laws.IdiomRangeMap
import Derived.Test.YtainggmhdmocfaaDoorProg
import Derived.Test.YtainggmhdmocfaaDoorFgQ2
namespace Go.AM
section
variable {P:Program} {G:Glob} {n0 nt:Nat} {o:Oper} {st:St} {H:List Blk} {ops:Array Oper} {Q:Exit→St→List Blk→Prop} {E:Eval}
theorem key_lt {α:Type}:∀(rs:List (Nat × α)) (j:Nat) (p:α),rs.lookup j=some p→j<rs.foldr (fun x n=>max (x.1 + 1) n) 0
 | [],_,_,h=>by simp at h
 | (i,q) :: rs,j,p,h=>by
  simp only [List.lookup] at h
  simp only [List.foldr_cons]
  split at h
  ·rename_i hj
   have:j=i:=by simpa using hj
   omega
  ·have:=key_lt rs j p h
   omega
mutual
def PV.top:PV→Nat
 | .ptr i _=>i + 1
 | .own i _=>i + 1
 | .ept i _ _ _=>i + 1
 | .mp i=>i + 1
 | .vw i _ _=>i + 1
 | .ow i _ _ _=>i + 1
 | .oc i _ _=>i + 1
 | .op i _ _=>i + 1
 | .agg cs=>PV.tops cs
 | .tup cs=>PV.tops cs
 | .fn _ cs=>PV.tops cs
 | _=>0
def PV.tops:List PV→Nat
 | []=>0
 | p :: ps=>max p.top (PV.tops ps)
end
theorem Zf3 {α:Type} {x y:α} {t:Nat} (h:[x][t]? = some y):y=x:=by
 cases t with
 | zero=>simpa using h.symm
 | succ t=>simp at h
theorem Zey {k:Nat} {cand give:List Nat} {t0:Tr} {rs:List (Nat × PV)} {Hs:List (List Blk)} {Hf:List Blk} {ch late:List Nat} :
  ∀(l:List Nat) (rs0:List (Nat × PV)) (Hs0:List (List Blk)) (H0:List Blk) (ch0 late0:List Nat),gox P G E ops k cand give t0 l rs0 Hs0 H0 ch0 late0=some (rs,Hs,Hf,ch,late) →
  (∀ j∈l,∃ p,rs.lookup j=some p)∧(∀ j p,rs0.lookup j=some p→∃ q,rs.lookup j=some q)
 | [],rs0,Hs0,H0,ch0,late0,h=>by
  simp only [gox,Option.some.injEq,Prod.mk.injEq] at h
  obtain⟨rfl,_⟩:=h
  exact⟨fun j hj=>by (cases hj),fun j p hp=>⟨p,hp⟩⟩
 | i :: l,rs0,Hs0,H0,ch0,late0,h=>by
  have key:∀ {p:PV} {Hs1:List (List Blk)} {H1:List Blk} {ch1 late1:List Nat},gox P G E ops k cand give t0 l ((i,p) :: rs0) Hs1 H1 ch1 late1=some (rs,Hs,Hf,ch,late) →
    (∀ j∈i :: l,∃ p,rs.lookup j=some p)∧(∀ j p,rs0.lookup j=some p→∃ q,rs.lookup j=some q):=fun {p _ _ _ _} h=>by
   obtain⟨h1,h2⟩:=Zey l _ _ _ _ _ h
   refine⟨fun j hj=>?_,fun j q hq=>?_⟩
   ·rcases List.mem_cons.1 hj with rfl | hj
    ·exact h2 j p (by simp)
    ·exact h1 j hj
   ·by_cases hji:j=i
    ·subst hji; exact h2 j p (by simp)
    ·exact h2 j q (by rw [Za4 hji]; exact hq)
  simp only [gox] at h
  split at h
  ·cases h
  ·split at h
   ·cases h
   ·exact key h
   ·split at h
    ·split at h
     ·exact key h
     ·cases h
    ·split at h
     ·exact key h
     ·split at h
      ·exact key h
      ·cases h
theorem Zg1 {k:Nat} {cand give:List Nat} {t0:Tr} {rs:List (Nat × PV)} {Hs:List (List Blk)} {Hf:List Blk} {ch late:List Nat} (l:List Nat) (rs0:List (Nat × PV)) (Hs0:List (List Blk)) (H0:List Blk) (ch0 late0:List Nat)
  (h:gox P G E ops k cand give t0 l rs0 Hs0 H0 ch0 late0=some (rs,Hs,Hf,ch,late)):∀ j∈l,∃ p,rs.lookup j=some p:=(Zey l _ _ _ _ _ h).1
theorem Zcz {rs:List (Nat × PV)}:∀(l:List Nat) (t:Tr),(∀ j∈l,match dstJ ops j with | some d=>Nat.blt d 512=true | none=>True)→∀ x∈(putsX ops rs l t).st,(∃ j∈l,dstJ ops j=some x.1∧rs.lookup j=some x.2)∨(x∈t.st∧∀ j∈l,∀ p,rs.lookup j=some p→dstJ ops j ≠ some x.1)
 | [],t,_,x,hx=>.inr ⟨hx,fun j hj=>by cases hj⟩
 | j :: l,t,hd,x,hx=>by
  unfold putsX at hx
  have hd':∀ j∈l,match dstJ ops j with | some d=>Nat.blt d 512=true | none=>True:=fun j hj=>hd j (List.mem_cons_of_mem _ hj)
  split at hx
  ·rename_i d p h1 h2
   have hlt:d<512:=by have:=hd j (by simp); rw [h1] at this; exact Nat.blt_eq ▸ this
   rcases Zcz l _ hd' x hx with ⟨i,hi,h3⟩ | ⟨h3,h4⟩
   ·exact .inl ⟨i,List.mem_cons_of_mem _ hi,h3⟩
   ·rcases List.mem_cons.1 (Zbp hlt x h3) with h5 | h5
    ·exact .inl ⟨j,by simp,by rw [h5]; exact h1,by rw [h5]; exact h2⟩
    ·obtain⟨h6,h7⟩:=List.mem_filter.1 h5
     refine .inr ⟨h6,fun i hi q hq=>?_⟩
     rcases List.mem_cons.1 hi with rfl | hi
     ·rw [h1]; intro e; simp at e; rw [e] at h7; simp at h7
     ·exact h4 i hi q hq
  ·rename_i hno
   rcases Zcz l t hd' x hx with ⟨i,hi,h3⟩ | ⟨h3,h4⟩
   ·exact .inl ⟨i,List.mem_cons_of_mem _ hi,h3⟩
   ·refine .inr ⟨h3,fun i hi q hq=>?_⟩
    rcases List.mem_cons.1 hi with rfl | hi
    ·intro e; exact hno _ _ e hq
    ·exact h4 i hi q hq
theorem ADraw.le {st':St} {H':List Blk} (h:Le G n0 nt st H st' H') (k:ADraw P G n0 nt ops Q st' H'):ADraw P G n0 nt ops Q st H:=fun c a w β l h0 h1 hr hl=>
 let ⟨β',hr'⟩:=h c a w β h0 h1 hr
 k c a w β' l h0 h1 hr' hl
theorem ADraw.draw {st0:St} {res:List PV} {ch:List Nat} {Hs:List (List Blk)} {k:Nat} {Hf:List Blk} {rk:List Nat} (hs:∀ x∈st0,x∈st) (hok:drawOk nt ops ch k rk=true) (hfree:∀ i,i<k→FreeOk P G n0 nt ops st0 res ch Hs k i)
  (hfirst:Hs[0]? = some H) (hlast:Hs[ch.length]? = some Hf) (htail:AOps P G n0 nt ops (List.range' k (ops.size - k)) Q (stL ops st0 res (List.range k)) Hf):ADraw P G n0 nt ops Q st H:=by
 intro c a w β lo h0 h1 hr hlin
 have hl':∀ j,(Array.replicate ops.size false).getD j false=false:=fun j=>by simp [Array.getD]
 have hfil:(List.range k).filter ((Array.replicate ops.size false).getD · false)=[]:=List.filter_eq_nil_iff.2 fun x _=>by simp only [hl']; simp
 refine Zct _ _ _ _ _ (Zdk hok hfree hlast htail ops.size (Array.replicate ops.size false) 0 H c a w β h0 h1 (by simp) (by rw [hfil]; simp) (fun i _=>hl' i)
  (fun j _ hj=>by rw [hl'] at hj; cases hj) (fun s x hx=>?_) (Nat.zero_le _) hfirst ?_) hlin
 ·rw [hl']; simp
 ·rw [hfil]
  have h9:stL ops st0 res []=st0:=by simp [stL]
  rw [h9]; exact hr.sub hs
theorem ADraw.drx (hE:E.ok P G) {t t':Tr} {H':List Blk} (h:drx P G E nt ops t H=some (t',H')) (hq:Q .normal t'.st H'):ADraw P G n0 nt ops Q t.st H:=by
 unfold AM.drx at h
 split at h
 ·rename_i hp
  unfold planS at hp
  simp only [Bool.and_eq_true] at hp
  obtain⟨hd,hnd,hall,hds⟩:=hp
  generalize hk:(planOf ops).k=k at *
  generalize ho:(planOf ops).ord=ord at *
  generalize hr:(planOf ops).rk=rk at *
  generalize (planOf ops).cand=cand at *
  generalize (planOf ops).give=give at *
  generalize hs:shareX (planOf ops).keep t H=r at *
  obtain⟨t0,H0⟩:=r
  simp only [] at h
  split at h
  ·cases h
  ·rename_i rs Hs Hf ch late hg
   split at h
   ·rename_i hc
    simp only [Bool.and_eq_true,Bool.or_eq_true,List.isEmpty_iff] at hc
    refine ADraw.le (st':=t0.st) (H':=H0) (fun c a w β _ _ hr=>by
     have:=Z3 (G:=G) (planOf ops).keep t H c a w β hr
     rw [hs] at this
     exact this) ?_
    let N:=rs.foldr (fun x n=>max (x.1 + 1) n) 0
    let res:List PV:=(List.range N).map fun i=>(rs.lookup i).getD (.sc undef)
    have hres:∀ j p,rs.lookup j=some p→res[j]? = some p:=fun j p hp=>by
     have:j<N:=key_lt rs j p hp
     simp [res,this,hp]
    have hchk:chOk ops ch.reverse k=true:=by
     rcases hc.1 with rfl | h1
     ·simp [chOk]
     ·exact h1
    obtain⟨_,⟨t,g2⟩,⟨c,g3,g3'⟩,_,g5,g6⟩:=gox_ok (n0:=n0) hE hres rfl rfl ord [] [] H0 [] [] hg (of_decide_eq_true hnd) (fun _ _=>rfl) (fun _ h=>by cases h) rfl
    have hdone:=Zg1 ord [] [] H0 [] [] hg
    have hfree:∀ i,i<k→FreeOk P G n0 nt ops t0.st res ch.reverse (Hf :: Hs).reverse k i:=fun i hi=>by
     have hio:i∈ord:=by
      have:=List.all_eq_true.1 hall i (List.mem_range.2 hi)
      simpa using this
     rcases g6 i hio with h1 | ⟨hl,o,p,t,H1,ho,hni,hw,hp,ht,hop⟩
     ·exact h1
     ·refine .quiet o p ho hni hw hp fun t' H' ht' hpos=>?_
      rcases hc.2 with rfl | h2
      ·have hs0:Hs=[]:=List.eq_nil_of_length_eq_zero (by rw [← g5]; rfl)
       subst hs0
       simp only [List.reverse_cons,List.reverse_nil,List.nil_append] at ht ht'
       have e1:H1=Hf:=Zf3 ht
       have e2:H'=Hf:=Zf3 ht'
       subst e1 e2
       exact hop
      ·have:=List.all_eq_true.1 h2 i hl
       unfold lateOne at this
       rw [ho] at this
       split at this
       ·rename_i o' p' ho' hp'
        simp only [Option.some.injEq] at ho'; subst ho'
        have h3:=hres _ _ hp'
        rw [hp] at h3
        simp only [Option.some.injEq] at h3; subst h3
        exact Zd8 hres _ 0 this t' H' ht' (by rw [Nat.zero_add]; exact hpos)
       ·cases this
    refine ADraw.draw (st0:=t0.st) (res:=res) (ch:=ch.reverse) (Hs:=(Hf :: Hs).reverse) (k:=k) (Hf:=Hf) (rk:=rk) (fun _ h=>h) (Zgq hd hchk) hfree ?_ ?_ ?_
    ·rw [g2]; simp
    ·simp [g5]
    ·refine AOps.sub ?_ (AOps.sqx hE _ _ _ _ _ h hq)
     intro x hx
     have hall':∀ j∈List.range k,match dstJ ops j with | some d=>Nat.blt d 512=true | none=>True:=fun j hj=>by
      have h3:=List.all_eq_true.1 hds j hj
      cases hdj:dstJ ops j with
      | none=>trivial
      | some d=>rw [hdj] at h3; exact h3
     rcases Zcz _ _ hall' x hx with ⟨j,hj,h1,h2⟩ | ⟨h1,h2⟩
     ·refine List.mem_append_left _ (List.mem_filterMap.2 ⟨j,hj,?_⟩)
      have h1':(ops[j]?).bind (·.dst)=some x.1:=h1
      rw [h1',hres _ _ h2]
     ·refine List.mem_append_right _ (List.mem_filter.2 ⟨h1,List.all_eq_true.2 fun j hj=>?_⟩)
      have hjk:j<k:=List.mem_range.1 hj
      obtain⟨p,hp⟩:=hdone j (by have:=List.all_eq_true.1 hall j hj; simpa using this)
      have h9:¬ ((ops[j]?).bind (·.dst)=some x.1):=h2 j hj p hp
      simpa using h9
   ·cases h
 ·cases h
def oeq:Option PV→Option PV→Bool
 | none,none=>true
 | some p,some q=>peq p q
 | _,_=>false
theorem oeq_eq {a b:Option PV} (h:oeq a b=true):a=b:=by
 unfold oeq at h
 split at h
 ·rfl
 ·rw [peq_eq _ _ h]
 ·cases h
def N8.eqs {α:Type} (f:α→α→Bool) (s t:N8 α):Bool:=match s,t with
 | .mk a b c d e g h i,.mk a' b' c' d' e' g' h' i'=>f a a' && f b b' && f c c' && f d d' && f e e' && f g g' && f h h' && f i i'
theorem N8.eqs_eq {α:Type} {f:α→α→Bool} (hf:∀ a b,f a b=true→a=b) {s t:N8 α} (h:N8.eqs f s t=true):s=t:=by
 cases s; cases t
 simp only [N8.eqs,Bool.and_eq_true] at h
 obtain⟨⟨⟨⟨⟨⟨⟨h1,h2⟩,h3⟩,h4⟩,h5⟩,h6⟩,h7⟩,h8⟩:=h
 rw [hf _ _ h1,hf _ _ h2,hf _ _ h3,hf _ _ h4,hf _ _ h5,hf _ _ h6,hf _ _ h7,hf _ _ h8]
def teq (s t:Tr):Bool:=N8.eqs (N8.eqs (N8.eqs oeq)) s t
theorem teq_eq {s t:Tr} (h:teq s t=true):s=t:=N8.eqs_eq (fun _ _ h=>N8.eqs_eq (fun _ _ h=>N8.eqs_eq (fun _ _ h=>oeq_eq h) h) h) h
def eeqs:List Ent→List Ent→Bool
 | [],[]=>true
 | x :: xs,y :: ys=>Nat.beq x.1 y.1 && veq x.2.1 y.2.1 && peq x.2.2 y.2.2 && eeqs xs ys
 | _,_=>false
theorem Zf4:∀(xs ys:List Ent),eeqs xs ys=true→xs=ys
 | [],[],_=>rfl
 | [],_ :: _,h=>by simp [eeqs] at h
 | _ :: _,[],h=>by simp [eeqs] at h
 | (a,b,c) :: xs,(a',b',c') :: ys,h=>by
  simp only [eeqs,Bool.and_eq_true] at h
  rw [Nat.eq_of_beq_eq_true h.1.1.1,veq_eq _ _ h.1.1.2,peq_eq _ _ h.1.2,Zf4 xs ys h.2]
def neqs:List Nat→List Nat→Bool
 | [],[]=>true
 | x :: xs,y :: ys=>Nat.beq x y && neqs xs ys
 | _,_=>false
theorem Zf5:∀(xs ys:List Nat),neqs xs ys=true→xs=ys
 | [],[],_=>rfl
 | [],_ :: _,h=>by simp [neqs] at h
 | _ :: _,[],h=>by simp [neqs] at h
 | x :: xs,y :: ys,h=>by
  simp only [neqs,Bool.and_eq_true] at h
  rw [Nat.eq_of_beq_eq_true h.1,Zf5 xs ys h.2]
def beqB:Blk→Blk→Bool
 | .cells cs,.cells ds=>peqs cs ds
 | .far cs,.far ds=>peqs cs ds
 | .buf s t xs sh,.buf s' t' ys sh'=>Nat.beq s s' && Nat.beq t t' && peqss xs ys && (sh == sh')
 | .map es c,.map es' c'=>eeqs es es' && Nat.beq c c'
 | .iter (some m) a s l,.iter (some m') a' s' l'=>Nat.beq m m' && Nat.beq a a' && neqs s s' && Nat.beq l l'
 | _,_=>false
theorem Zg9 {a b:Blk} (h:beqB a b=true):a=b:=by
 unfold beqB at h
 split at h
 ·rw [peqs_eq _ _ h]
 ·rw [peqs_eq _ _ h]
 ·simp only [Bool.and_eq_true,beq_iff_eq] at h
  rw [Nat.eq_of_beq_eq_true h.1.1.1,Nat.eq_of_beq_eq_true h.1.1.2,peqss_eq _ _ h.1.2,h.2]
 ·simp only [Bool.and_eq_true] at h
  rw [Zf4 _ _ h.1,Nat.eq_of_beq_eq_true h.2]
 ·simp only [Bool.and_eq_true] at h
  rw [Nat.eq_of_beq_eq_true h.1.1.1,Nat.eq_of_beq_eq_true h.1.1.2,Zf5 _ _ h.1.2,Nat.eq_of_beq_eq_true h.2]
 ·cases h
def heqs:List Blk→List Blk→Bool
 | [],[]=>true
 | x :: xs,y :: ys=>beqB x y && heqs xs ys
 | _,_=>false
theorem Zf6:∀(xs ys:List Blk),heqs xs ys=true→xs=ys
 | [],[],_=>rfl
 | [],_ :: _,h=>by simp [heqs] at h
 | _ :: _,[],h=>by simp [heqs] at h
 | x :: xs,y :: ys,h=>by
  simp only [heqs,Bool.and_eq_true] at h
  rw [Zg9 h.1,Zf6 xs ys h.2]
def memsOf (ops:Array Oper):List Nat:=(List.range (kOf ops)).filter fun i=>match ops[i]? with | some o=>isMem o && !isLook o | none=>false
def freePair (ops:Array Oper):List Nat→Option (Nat × Nat)
 | x :: y :: l=>match ops[x]?,ops[y]? with
  | some a,some b=>if (bindsOn b).contains x || (bindsOn a).contains y then freePair ops (y :: l) else some (x,y)
  | _,_=>none
 | _=>none
def memsU (ops:Array Oper):List Nat:=(memsOf ops).filter fun i=>match ops[i]? with | some o=>!isUser o | none=>false
def pairOf (ops:Array Oper):Option (Nat × Nat):=match freePair ops (memsU ops) with
 | some r=>some r
 | none=>freePair ops (memsOf ops)
def drE (P:Program) (G:Glob) (E:Eval) (nt:Nat):Nat→Array Oper→Tr→List Blk→Option (Tr × List Blk)
 | 0,ops,t,H=>drx P G E nt ops t H
 | f + 1,ops,t,H=>match drx P G E nt ops t H with
  | some r=>some r
  | none=>match pairOf ops with
   | some (x,y)=>match Nat.beq x y with
    | true=>none
    | false=>match drE P G E nt f (addEdge ops x y) t H with
     | some (t1,H1)=>match drE P G E nt f (addEdge ops y x) t H with
      | some (t2,H2)=>match teq t1 t2 && heqs H1 H2 with
       | true=>some (t1,H1)
       | false=>none
      | none=>none
     | none=>none
   | none=>none
theorem ADraw.drE (hE:E.ok P G) {Q:Exit→St→List Blk→Prop}:∀(f:Nat) (ops:Array Oper) (t t':Tr) (H H':List Blk),drE P G E nt f ops t H=some (t',H')→Q .normal t'.st H'→ADraw P G n0 nt ops Q t.st H
 | 0,_,_,_,_,_,h,hq=>ADraw.drx hE h hq
 | f + 1,ops,t,t',H,H',h,hq=>by
  unfold AM.drE at h
  split at h
  ·rename_i r hr
   simp only [Option.some.injEq] at h
   subst h
   exact ADraw.drx hE hr hq
  ·split at h
   ·rename_i x y _
    split at h
    ·cases h
    ·rename_i hxy
     split at h
     ·rename_i t1 H1 h1
      split at h
      ·rename_i t2 H2 h2
       split at h
       ·rename_i hc
        simp only [Bool.and_eq_true] at hc
        simp only [Option.some.injEq,Prod.mk.injEq] at h
        obtain⟨rfl,rfl⟩:=h
        have e1:=teq_eq hc.1
        have e2:=Zf6 _ _ hc.2
        subst e1 e2
        exact ADraw.either x y hxy (ADraw.drE hE f _ _ _ _ _ h1 hq) (ADraw.drE hE f _ _ _ _ _ h2 hq)
       ·cases h
      ·cases h
     ·cases h
   ·cases h
theorem AWP.drE {id:Nat} (hE:E.ok P G) (hm:P.follows .mixedOrders=true) {f:Nat} {t t':Tr} {H':List Blk} (h:drE P G E nt f ops t H=some (t',H')) (hq:Q .normal t'.st H'):AWP P G n0 nt (.region id ops true) Q t.st H:=AWP.of_draw hm (ADraw.drE hE f ops t t' H H' h hq)
def slotsOf (rs:Array ResultVar):List Nat:=rs.toList.map fun r=>match r with
 | .tmp t=>t
 | .cell t _=>t
def Blk.top:Blk→Nat
 | .far cs=>PV.tops cs
 | .map es _=>PV.tops (es.map (·.2.2))
 | _=>0
def cloK (K:List Blk):Nat→Nat→Nat
 | 0,m=>max m K.length
 | f + 1,m=>match ((K.take m).map Blk.top).foldl max m with
  | m'=>if Nat.beq m' m then m else cloK K f m'
def finM (m0:Nat) (p:PV) (K:List Blk) (m:Nat):Option (PV × List Blk):=if p.ids (fun j=>Nat.blt j m) && Nat.ble m0 m && ((K.take m).all (Blk.farOk m) || Nat.ble K.length m) then some (p,K.take m) else none
def finx (P:Program) (rs:Array ResultVar) (m0:Nat) (t:Tr) (K:List Blk):Option (PV × List Blk):=match ares P (t.pick (slotsOf rs)) K rs with
 | some p=>finM m0 p K (cloK K 20 (max m0 p.top))
 | none=>none
def ofArgs:Nat→List PV→Tr
 | _,[]=>Tr.e
 | i,p :: ps=>Tr.put (ofArgs (i + 1) ps) p (path i)
theorem Zd9:∀(ps:List PV) (i:Nat),i + ps.length≤512→∀ x∈(ofArgs i ps).st,x∈numb i ps
 | [],i,_,x,hx=>by
  obtain⟨_,h⟩:=mem_st.1 hx
  simp [ofArgs,Tr.get_e] at h
 | p :: ps,i,hl,x,hx=>by
  simp only [List.length_cons] at hl
  rcases List.mem_cons.1 (Zbp (by omega) x hx) with h | h
  ·rw [h]; simp [numb]
  ·have:=Zd9 ps (i + 1) (by omega) x (List.mem_filter.1 h).1
   simp [numb,this]
def callx (P:Program) (X:Ev):Eval:=fun f args H=>match P.funcs[f]? with
 | none=>none
 | some fn=>match fn.body with
  | none=>none
  | some code=>match !(fn.name == "runtime.NumGoroutine") && Nat.ble args.length fn.ntmps && Nat.ble args.length 512 with
   | true=>match X H.length fn.ntmps code (ofArgs 0 args) H with
    | some (.ret,st,K)=>finx P fn.results H.length st K
    | some (.normal,st,K)=>finx P fn.results H.length st K
    | _=>none
   | false=>none
abbrev Tab:=List (Nat × List PV × PV)
def Tab.ok (P:Program) (G:Glob) (T:Tab):Prop:=∀ x∈T,ACall P G x.1 x.2.1 [] (fun q K=>q=x.2.2∧K=[])∧x.2.2.ids (fun _=>false)=true
def shareA:List PV→List Blk→Option (List PV × List Blk)
 | [],H=>some ([],H)
 | p :: ps,H=>match p with
  | .own i n=>match H[i]? with
   | some (.buf s t xs _)=>match Nat.beq n xs.length with
    | true=>match shareA ps (H.set i (.buf s t xs true)) with
     | some (qs,H')=>some (.sl s xs :: qs,H')
     | none=>none
    | false=>none
   | _=>none
  | p=>match p.ids (fun _=>false) with
   | true=>match shareA ps H with
    | some (qs,H')=>some (p :: qs,H')
    | none=>none
   | false=>none
theorem Zc0:∀(ps:List PV) (H:List Blk) (qs:List PV) (H':List Blk),shareA ps H=some (qs,H')→(∀ st c a w β,RelB G c β st H a w→∃ β',RelB G c β' st H' a w)∧(∀(i:Nat) s t xs,H[i]? = some (.buf s t xs true)→H'[i]? = some (.buf s t xs true))∧Wks H' false ps qs∧PV.idss (fun _=>false) qs=true
 | [],H,qs,H',h=>by
  simp only [shareA,Option.some.injEq,Prod.mk.injEq] at h
  obtain⟨rfl,rfl⟩:=h
  exact⟨fun _ _ _ _ β hr=>⟨β,hr⟩,fun _ _ _ _ h=>h,.nil,rfl⟩
 | p :: ps,H,qs,H',h=>by
  unfold shareA at h
  split at h
  ·rename_i i n
   split at h
   ·rename_i s t xs sh hb
    have hil:=(List.getElem?_eq_some_iff.1 hb).1
    split at h
    ·rename_i hn
     have hn:=Nat.eq_of_beq_eq_true hn
     subst hn
     split at h
     ·rename_i qs' K hq
      simp only [Option.some.injEq,Prod.mk.injEq] at h
      obtain⟨rfl,rfl⟩:=h
      obtain⟨g1,g2,g3,g4⟩:=Zc0 ps _ _ _ hq
      refine⟨fun st c a w β hr=>g1 st c a w β (hr.share hb),fun j s' t' xs' hj=>g2 j s' t' xs' ?_,.cons _ _ _ _ (.own i s t xs true (g2 i s t xs (by rw [List.getElem?_set_self hil])) (.inr rfl)) g3,by simp only [PV.idss,PV.ids,g4,Bool.and_self]⟩
      by_cases hji:j=i
      ·subst hji; rw [List.getElem?_set_self hil]; rw [hb] at hj; simp at hj ⊢; obtain⟨rfl,rfl,rfl,_⟩:=hj; exact⟨rfl,rfl,rfl⟩
      ·rw [List.getElem?_set_ne (Ne.symm hji)]; exact hj
     ·cases h
    ·cases h
   ·cases h
  ·split at h
   ·rename_i hc
    split at h
    ·rename_i qs' K hq
     simp only [Option.some.injEq,Prod.mk.injEq] at h
     obtain⟨rfl,rfl⟩:=h
     obtain⟨g1,g2,g3,g4⟩:=Zc0 ps _ _ _ hq
     exact⟨g1,g2,.cons _ _ _ _ (.refl _) g3,by simp only [PV.idss,hc,g4,Bool.and_self]⟩
    ·cases h
   ·cases h
def findT (f:Nat) (args:List PV):Tab→Option PV
 | []=>none
 | x :: T=>match Nat.beq x.1 f with
  | true=>match peqs x.2.1 args with
   | true=>some x.2.2
   | false=>findT f args T
  | false=>findT f args T
theorem Zc1 {f:Nat} {args:List PV} {q:PV}:∀(T:Tab),findT f args T=some q→(f,args,q)∈T
 | [],h=>by simp [findT] at h
 | (g,bs,r) :: T,h=>by
  unfold findT at h
  split at h
  ·rename_i hf
   split at h
   ·rename_i ha
    simp only [Option.some.injEq] at h
    have h1:=Nat.eq_of_beq_eq_true hf
    have h2:=peqs_eq _ _ ha
    simp only at h1 h2
    rw [← h,h1,h2]; simp
   ·exact List.mem_cons_of_mem _ (Zc1 T h)
  ·exact List.mem_cons_of_mem _ (Zc1 T h)
def hasT (f:Nat):Tab→Bool
 | []=>false
 | x :: T=>match Nat.beq x.1 f with
  | true=>true
  | false=>hasT f T
def plainFn (P:Program) (f:Nat):Bool:=match P.funcs[f]? with
 | some fn=>!fn.body.isNone && !(fn.name == "runtime.NumGoroutine")
 | none=>false
def tabx (P:Program) (T:Tab) (E:Eval):Eval:=fun f args H=>match clonex P f args H with
 | some r=>some r
 | none=>match hasT f T with
 | true=>match shareA args H with
  | some (qs,H')=>match findT f qs T with
   | some q=>match plainFn P f with
    | true=>some (q,H')
    | false=>E f args H
   | none=>E f args H
  | none=>E f args H
 | false=>E f args H
theorem Zha {T:Tab} (hT:T.ok P G) {E:Eval} (hE:E.ok P G):(tabx P T E).ok P G:=by
 intro f args H p H' h
 unfold tabx at h
 split at h
 ·rename_i r hr
  simp only [Option.some.injEq] at h
  subst h
  exact Zgr hr
 split at h
 ·split at h
  ·rename_i qs K hs
   split at h
   ·rename_i q hq
    split at h
    ·rename_i hp
     simp only [Option.some.injEq,Prod.mk.injEq] at h
     obtain⟨rfl,rfl⟩:=h
     obtain⟨g1,_,g3,g4⟩:=Zc0 (G:=G) _ _ _ _ hs
     obtain⟨k1,k2⟩:=hT _ (Zc1 T hq)
     unfold plainFn at hp
     split at hp
     ·rename_i fn hfn
      simp only [Bool.and_eq_true,Bool.not_eq_true'] at hp
      exact .known fn qs hfn hp.1 hp.2 g1 g3 g4 k2 k1
     ·cases hp
    ·exact hE _ _ _ _ _ h
   ·exact hE _ _ _ _ _ h
  ·exact hE _ _ _ _ _ h
 ·exact hE _ _ _ _ _ h
def condSt (t:Tr):Operand→St
 | .tmp k=>t.pick [k]
 | _=>[]
theorem Zea {t:Tr} {c:Operand} {p:PV} (h:opd G (condSt t c) c=some p):opd G t.st c=some p:=by
 cases c with
 | tmp k=>exact Zdo h
 | _=>exact h
def execS (P:Program) (G:Glob) (T:Tab) (X:Ev):Ev:=fun n0 nt code st H=>match code with
 | .skip=>some (.normal,st,H)
 | .region _ ops draw=>match draw with
  | false=>match sqx P G (tabx P T (callx P X)) nt ops (List.range ops.size) st H with
   | some (st',H')=>some (.normal,st',H')
   | none=>none
  | true=>if P.follows .mixedOrders then match drE P G (tabx P T (callx P X)) nt 6 ops st H with
    | some (st',H')=>some (.normal,st',H')
    | none=>none
   else none
 | .seq x y=>match X n0 nt x st H with
  | some (.normal,st',H')=>X n0 nt y st' H'
  | r=>r
 | .cond c t e=>match opd G (condSt st c) c with
  | some (.sc (.bool true))=>X n0 nt t st H
  | some (.sc (.bool false))=>X n0 nt e st H
  | _=>none
 | .block id x=>match X n0 nt x st H with
  | some (.exit j,st',H')=>match Nat.beq j id with
   | true=>some (.normal,st',H')
   | false=>some (.exit j,st',H')
  | r=>r
 | .loop x=>match X n0 nt x st H with
  | some (.normal,st',H')=>X n0 nt (.loop x) st' H'
  | r=>r
 | .exit id=>some (.exit id,st,H)
 | .ret=>some (.ret,st,H)
 | _=>none
def exec (P:Program) (G:Glob) (T:Tab):Nat→Ev
 | 0=>fun _ _ _ _ _=>none
 | n + 1=>execS P G T (exec P G T n)
def Ev.ok (P:Program) (G:Glob) (X:Ev):Prop:=∀ n0 nt code st H e st' H',X n0 nt code st H=some (e,st',H')→AWP P G n0 nt code (fun e1 s1 h1=>e1=e∧s1=st'.st∧h1=H') st.st H
theorem Zf7 {rs:Array ResultVar} {m0:Nat} {t:Tr} {K:List Blk} {p:PV} {H':List Blk} {e:Exit} (he:e=.normal∨e=.ret) (h:finx P rs m0 t K=some (p,H')):LeQ G n0 nt (InQ P rs m0 p H') e t.st K:=by
 refine⟨t.pick (slotsOf rs),K,fun c a w β _ _ hr=>⟨β,hr.sub pick_sub⟩,?_⟩
 unfold finx at h
 split at h
 ·rename_i q hq
  generalize cloK K 20 (max m0 q.top)=mm at h
  unfold finM at h
  split at h
  ·rename_i hc
   simp only [Option.some.injEq,Prod.mk.injEq] at h
   obtain⟨rfl,rfl⟩:=h
   simp only [Bool.and_eq_true,Bool.or_eq_true] at hc
   refine⟨he,hq,_,Nat.le_of_ble_eq_true hc.1.2,?_,hc.2.imp id Nat.le_of_ble_eq_true,rfl⟩
   exact PV.ids_mono (fun j hj=>(by have hj':Nat.ble (j + 1) mm=true:=hj; have:=Nat.le_of_ble_eq_true hj'; simp only [decide_eq_true_eq]; omega)) _ hc.1.1
  ·cases h
 ·cases h
theorem Zez {X:Ev} (hX:X.ok P G) {f:FuncId} {args:List PV} {H:List Blk} {p:PV} {H':List Blk} (h:callx P X f args H=some (p,H')):∃ fn code,P.funcs[f]? = some fn∧fn.body=some code∧(fn.name == "runtime.NumGoroutine")=false∧args.length≤fn.ntmps∧AWP P G H.length fn.ntmps code (InQ P fn.results H.length p H') (numb 0 args) H:=by
 unfold callx at h
 split at h
 ·cases h
 ·rename_i fn hfn
  split at h
  ·cases h
  ·rename_i code hb
   split at h
   ·rename_i hc
    simp only [Bool.and_eq_true,Bool.not_eq_true'] at hc
    refine⟨fn,code,hfn,hb,hc.1.1,Nat.le_of_ble_eq_true hc.1.2,AWP.sub (Zd9 args 0 (by have:=Nat.le_of_ble_eq_true hc.2; omega)) (AWP.mid _ ?_ fun _ _ _ h=>h)⟩
    split at h
    ·rename_i st K hx
     exact(hX _ _ _ _ _ _ _ _ hx).mono fun e s k ⟨h1,h2,h3⟩=>by subst h1 h2 h3; exact Zf7 (.inr rfl) h
    ·rename_i st K hx
     exact(hX _ _ _ _ _ _ _ _ hx).mono fun e s k ⟨h1,h2,h3⟩=>by subst h1 h2 h3; exact Zf7 (.inl rfl) h
    ·cases h
   ·cases h
theorem Zg2 {X:Ev} (hX:X.ok P G):(callx P X).ok P G:=fun f args H p H' h=>by
 obtain⟨fn,code,h1,h2,h3,h4,h5⟩:=Zez hX h
 exact .run fn code h1 h2 h3 h4 h5
theorem Zf8 {T:Tab} (hT:T.ok P G):∀(N m:Nat),m≤N→(exec P G T m).ok P G
 | N,0,_=>fun _ _ _ _ _ _ _ _ h=>by simp [exec] at h
 | 0,m + 1,hm=>absurd hm (by omega)
 | N + 1,m + 1,hm=>by
  have ih:∀ m',m'≤m→(exec P G T m').ok P G:=fun m' h'=>Zf8 hT N m' (by omega)
  have hX:=ih m (Nat.le_refl _)
  have hE:=Zha hT (Zg2 hX)
  intro n0 nt code st H e st' H' h
  simp only [exec] at h
  unfold execS at h
  split at h
  ·simp only [Option.some.injEq,Prod.mk.injEq] at h
   obtain⟨rfl,rfl,rfl⟩:=h
   exact AWP.skip ⟨rfl,rfl,rfl⟩
  ·split at h
   ·split at h
    ·rename_i s1 h1 hs
     simp only [Option.some.injEq,Prod.mk.injEq] at h
     obtain⟨rfl,rfl,rfl⟩:=h
     exact AWP.region rfl (AOps.sqx hE _ _ _ _ _ hs ⟨rfl,rfl,rfl⟩)
    ·cases h
   ·split at h
    ·rename_i hm
     split at h
     ·rename_i s1 h1 hs
      simp only [Option.some.injEq,Prod.mk.injEq] at h
      obtain⟨rfl,rfl,rfl⟩:=h
      exact AWP.drE hE hm hs ⟨rfl,rfl,rfl⟩
     ·cases h
    ·cases h
  ·rename_i x y
   refine AWP.seq ?_
   split at h
   ·rename_i s1 h1 hx
    refine(hX _ _ _ _ _ _ _ _ hx).mono fun e1 s k ⟨g1,g2,g3⟩=>?_
    subst g1 g2 g3
    exact hX _ _ _ _ _ _ _ _ h
   ·rename_i r hne
    refine(hX _ _ _ _ _ _ _ _ h).mono fun e1 s k ⟨g1,g2,g3⟩=>?_
    subst g1 g2 g3
    cases e1 with
    | normal=>exact absurd h (hne _ _)
    | _=>exact⟨rfl,rfl,rfl⟩
  ·rename_i c t e'
   split at h
   ·rename_i hc; exact AWP.cT (hX _ _ _ _ _ _ _ _ h) (Zea hc)
   ·rename_i hc; exact AWP.cF (hX _ _ _ _ _ _ _ _ h) (Zea hc)
   ·cases h
  ·rename_i id x
   refine AWP.block ?_
   split at h
   ·rename_i j s1 h1 hx
    refine(hX _ _ _ _ _ _ _ _ hx).mono fun e1 s k ⟨g1,g2,g3⟩=>?_
    subst g1 g2 g3
    simp only [blockQ]
    split at h
    ·rename_i hb
     simp only [Option.some.injEq,Prod.mk.injEq] at h
     obtain⟨rfl,rfl,rfl⟩:=h
     rw [hb]; exact⟨rfl,rfl,rfl⟩
    ·rename_i hb
     simp only [Option.some.injEq,Prod.mk.injEq] at h
     obtain⟨rfl,rfl,rfl⟩:=h
     rw [hb]; exact⟨rfl,rfl,rfl⟩
   ·rename_i r hne
    refine(hX _ _ _ _ _ _ _ _ h).mono fun e1 s k ⟨g1,g2,g3⟩=>?_
    subst g1 g2 g3
    cases e1 with
    | exit j=>exact absurd h (hne _ _ _)
    | _=>exact⟨rfl,rfl,rfl⟩
  ·rename_i x
   refine AWP.loop (fun n s k=>n≤m + 1∧∃ t:Tr,s=t.st∧exec P G T n n0 nt (.loop x) t k=some (e,st',H')) (m + 1) ⟨Nat.le_refl _,st,rfl,by simp only [exec]; unfold execS; exact h⟩ ?_
   intro n s k ⟨hn,t,hs,hx⟩
   subst hs
   cases n with
   | zero=>simp [exec] at hx
   | succ n=>
    simp only [exec] at hx
    unfold execS at hx
    simp only [] at hx
    split at hx
    ·rename_i s1 h1 hb
     refine(ih n (by omega) _ _ _ _ _ _ _ _ hb).mono fun e1 s k ⟨g1,g2,g3⟩=>?_
     subst g1 g2 g3
     exact⟨n,by omega,by omega,_,rfl,hx⟩
    ·rename_i r hne
     refine(ih n (by omega) _ _ _ _ _ _ _ _ hx).mono fun e1 s k ⟨g1,g2,g3⟩=>?_
     subst g1 g2 g3
     cases e1 with
     | normal=>exact absurd hx (hne _ _)
     | _=>exact⟨rfl,rfl,rfl⟩
  ·simp only [Option.some.injEq,Prod.mk.injEq] at h
   obtain⟨rfl,rfl,rfl⟩:=h
   exact AWP.exit ⟨rfl,rfl,rfl⟩
  ·simp only [Option.some.injEq,Prod.mk.injEq] at h
   obtain⟨rfl,rfl,rfl⟩:=h
   exact AWP.ret ⟨rfl,rfl,rfl⟩
  ·cases h
def known (P:Program) (G:Glob) (T:Tab) (N:Nat) (f:FuncId) (args:List PV):Option PV:=match callx P (exec P G T N) f args [] with
 | some (p,K)=>pureOf K p
 | none=>none
theorem ACall.exec {f:FuncId} {args:List PV} {p:PV} {T:Tab} (hT:T.ok P G) (N:Nat) (h:known P G T N f args=some p):ACall P G f args [] (fun q K=>q=p∧K=[])∧p.ids (fun _=>false)=true:=by
 unfold known at h
 split at h
 ·rename_i q K hc
  refine⟨?_,(Zbb (Sub.refl K) h).2⟩
  obtain⟨fn,code,h1,h2,h3,h4,h5⟩:=Zez (Zf8 hT N N (Nat.le_refl _)) hc
  refine ACall.of_AWP h1 h2 h4 (h5.mono fun e s k ⟨g1,g2,m,g3,g4,_,g5⟩=>?_)
  subst g5
  obtain⟨k1,k2⟩:=Zbb (Zff k m) h
  exact⟨g1,q,p,0,g2,k1,Nat.le_refl _,Nat.zero_le _,PV.ids_mono (fun j hj=>by cases hj) _ k2,by simp,rfl,by simp⟩
 ·cases h
theorem Tab.nil:Tab.ok P G []:=fun _ h=>by cases h
theorem Tab.cons {f:FuncId} {args:List PV} {p:PV} {T:Tab} (hT:T.ok P G) (N:Nat) (h:known P G T N f args=some p):Tab.ok P G ((f,args,p) :: T):=fun x hx=>by
 rcases List.mem_cons.1 hx with rfl | hx
 ·exact ACall.exec hT N h
 ·exact hT x hx
end
end Go.AM
namespace Go.AM
section
variable {P:Program} {G:Glob} {n0 nt:Nat} {ops:Array Oper} {st:St} {H:List Blk} {E:Eval}
abbrev LP:=List (Exit × Tr × List Blk) × List (PV × PV)
abbrev EvL:=Nat→Nat→Code→Tr→List Blk→Option LP
def EvL.ok (P:Program) (G:Glob) (X:EvL):Prop:=∀ n0 nt code st H l,X n0 nt code st H=some l→(∀ x∈l.2,x.1=x.2)→AWP P G n0 nt code (fun e1 s1 h1=>∃ r∈l.1,e1=r.1∧s1=r.2.1.st∧h1=r.2.2) st.st H
end
end Go.AM
namespace Go.AM
section
variable {P:Program} {G:Glob} {n0 nt:Nat} {o:Oper} {st:St} {H:List Blk}
end
end Go.AM
namespace Go.AM
section
variable {P:Program} {G:Glob} {n0 nt:Nat} {o:Oper} {st:St} {H:List Blk}
theorem OpT.exn {cl:Call} {f:FuncId} {fn:Func} {e:Array Value→Sem Value} {cs:List Value} {p:PV} (ho:o.op=.call cl) (hc:cl.callee=.value (.func f)) (hfn:P.funcs[f]? = some fn) (hname:(fn.name == "runtime.NumGoroutine")=false)
  (hb:fn.body.isNone=true) (hn:Extern.findNext fn=none) (he:Extern.find fn=some e) (hargs:cl.args.toList.map (opd G st)=(cs.map PV.sc).map some)
  (hrun:∀ w,∃ v,(e cs.toArray).run P w=.ok v w∧∀ S β,VR S β w p v):OpT P G n0 o st H p H:=
 OpT.value fun c a w β h0 hr=>by
  have h1:=VRs.scs_iff _ _ (VRs.of_opds hr cl.args.toList _ hargs)
  have h2:cl.args.map a.eval=cs.toArray:=by
   apply Array.toList_inj.1
   simpa using h1
  obtain⟨v,h3,h4⟩:=hrun w
  refine⟨v,?_,h4 _ _⟩
  have h5:=run_callFunc_extern hfn hname hb hn he cs.toArray w
  rw [h3] at h5
  have hfe:a.eval (.func f)=.func (.func f) #[] #[]:=rfl
  simp [execOp,ho,resolve,hc,hfe,Deferred.ofValue,invoke,h2,h5]
def Hnd.ext {f:FuncId} {fn:Func} {e:Array Value→Sem Value} {cs:List Value} {p:PV} (hrun:∀(P:Program) w,∃ v,(e cs.toArray).run P w=.ok v w∧∀ S β,VR S β w p v)
  (hfn:P.funcs[f]? = some fn) (hname:(fn.name == "runtime.NumGoroutine")=false) (hb:fn.body.isNone=true) (hn:Extern.findNext fn=none) (he:Extern.find fn=some e):Hnd P G where
 run o st H:=match o.op with
  | .call cl=>match cl.callee with
   | .value (.func g)=>match opdL G st cl.args.toList with
    | some ps=>if Nat.beq g f then some ⟨p,H,[.ps ps],[.ps (cs.map PV.sc)]⟩ else none
    | none=>none
   | _=>none
  | _=>none
 sound:=by
  intro n0 o st H x h he'
  suffices hT:OpT P G n0 o st H x.p x.H from hT.weak
  split at h
  ·rename_i cl ho
   split at h
   ·rename_i g hc
    split at h
    ·rename_i ps hps
     split at h
     ·rename_i hg
      have hg:=Nat.eq_of_beq_eq_true hg
      subst hg
      simp only [Option.some.injEq] at h
      subst h
      simp only [List.cons.injEq,T.ps.injEq,and_true] at he'
      subst he'
      exact OpT.exn ho hc hfn hname hb hn he (Zai _ _ hps) (hrun P)
     ·cases h
    ·cases h
   ·cases h
  ·cases h
end
end Go.AM
namespace Go.AM
section
variable {P:Program} {G:Glob} {c:Ctx} {β:List Bnd} {st:St} {H:List Blk} {a:Act} {w:World} {n0 nt:Nat} {o:Oper}
variable {α:Type}
def cel (row:α→List PV) (l:List α) (sp:List Value):List PV:=(l.map row).flatten++sp.map .sc
end
end Go.AM
namespace Go.AM
section
variable {P:Program} {G:Glob} {n0 nt:Nat} {o:Oper} {st:St} {H:List Blk}
def Hnd.q:Hnd P G where
 run o st H:=(quietx P G true st H o).map fun p=>⟨p,H,[],[]⟩
 sound:=by
  intro n0 o st H x h he
  simp only [Option.map_eq_some_iff] at h
  obtain⟨p,h1,rfl⟩:=h
  exact(OpT.of_quiet (Sub.refl H) h1).weak
variable {α:Type}
end
end Go.AM
namespace Go.AM
section
variable {P:Program} {G:Glob} {n0 nt:Nat} {o:Oper} {st:St} {H:List Blk}
def Hnd.m:Hnd P G where
 run o st H:=(memx P G #[] st H o).map fun r=>⟨r.1,r.2,[],[]⟩
 sound:=by
  intro n0 o st H x h he
  simp only [Option.map_eq_some_iff] at h
  obtain⟨p,h1,rfl⟩:=h
  exact(OpT.of_memx h1).weak
variable {α:Type}
end
end Go.AM
namespace Go.AM
section
variable {P:Program} {G:Glob} {n0 nt:Nat} {o:Oper} {st:St} {H:List Blk}
variable {α:Type}
end
end Go.AM
namespace Go.AM
section
variable {P:Program} {G:Glob} {n0 nt:Nat} {o:Oper} {st:St} {H:List Blk}
variable {α β:Type}
end
end Go.AM
namespace Go.AM
section
variable {P:Program} {G:Glob} {n0 nt:Nat} {o:Oper} {st:St} {H:List Blk}
theorem VRow.wks {S:Nat→Nat→Prop} {w:World} {b:Nat} {ps qs:List PV} (h:Wks [] false ps qs):∀ o,VRow S [] w b o ps→VRow S [] w b o qs:=by
 induction h with
 | nil=>exact fun _ h=>h
 | cons p q ps qs h1 h2 ih=>
  intro o hr
  simp only [VRow] at hr ⊢
  obtain⟨⟨u,g1,g2⟩,g3⟩:=hr
  refine⟨⟨u,g1,?_⟩,ih _ g3⟩
  cases h1 with
  | refl=>exact g2
  | nil s=>simp only [VR] at g2 ⊢; subst g2; exact⟨none,0,rfl,Nat.le_refl _,.inl trivial⟩
  | own i s t xs sh hb hs=>simp at hb
theorem Wks.length {H:List Blk} {any:Bool} {ps qs:List PV} (h:Wks H any ps qs):qs.length=ps.length:=by
 induction h with
 | nil=>rfl
 | cons p q ps qs h1 h2 ih=>simp [ih]
end
end Go.AM
namespace Go.AM
section
variable {P:Program} {G:Glob} {n0 nt:Nat} {o:Oper} {st:St} {H:List Blk}
end
end Go.AM
namespace Go.AM
section
variable {P:Program} {G:Glob} {n0 nt:Nat} {o:Oper} {st:St} {H:List Blk}
def closedH:List Blk→Prop
 | []=>True
 | .cells cs :: ks=>PV.idss (fun _=>false) cs=true∧closedH ks
 | .buf .. :: ks=>closedH ks
 | .map .. :: _=>False
 | .far _ :: _=>False
 | .dead :: ks=>closedH ks
 | .fm _ :: ks=>closedH ks
 | .iter .. :: _=>False
theorem closedH.n:closedH []:=trivial
theorem closedH.c {cs:List PV} {ks:List Blk} (h:PV.idss (fun _=>false) cs=true) (hk:closedH ks):closedH (.cells cs :: ks):=⟨h,hk⟩
end
end Go.AM
namespace Go.AM
section
variable {P:Program} {G:Glob} {n0 nt:Nat} {o:Oper} {st:St} {H:List Blk}
variable {α:Type}
end
end Go.AM
namespace Go.AM
section
variable {P:Program} {G:Glob} {n0 nt:Nat} {o:Oper} {st:St} {H:List Blk}
end
end Go.AM
namespace Go.AM
section
variable {P:Program} {G:Glob} {n0 nt:Nat} {o:Oper} {st:St} {H:List Blk} {c:Ctx} {β:List Bnd} {a:Act} {w:World}
theorem OpT.slice_cut {t e s ty i n:Nat} {x:Operand} {lo hi:Option Operand} {h:Int} {xs:List (List PV)} {sh:Bool} (ho:o.op=.slice t x lo hi none) (hu:P.underlying t=some (.slice e)) (hz:P.cellsOf e=s) (hs0:s ≠ 0)
  (hx:opd G st x=some (.own i n)) (hb:H[i]? = some (.buf s ty xs sh)) (hn:n=xs.length) (hlo:loOf G st lo=some 0) (hhi:hiOf G st n hi=some h) (h0:0≤h) (h2:h≤n):OpT P G n0 o st H (.oc i n h.toNat) H:=
 OpT.value fun c a w β hn0 hr=>by
  have g1:=hr.opd hx
  simp only [VR] at g1
  obtain⟨_,ed,he,k1,k2⟩:=g1
  obtain⟨q1,q2,q3,vals,⟨q4,q5⟩,q6⟩:=hr.blk i ed _ he hb
  have hv:=k2 (by omega)
  rcases q5 with ⟨q5,q7⟩ | ⟨g,cap,cur,e1,e2,e3,e4,e5,e6,e7⟩
  ·have hsb:=Zac (P:=P) hr hlo hhi (Int.le_refl 0) h0 h2 (show n≤0 by omega)
   have hh:h=0:=by omega
   subst hh
   rw [q5] at hv
   have hn':n=0:=by omega
   rw [hn'] at hsb
   refine⟨.slice none 0 0,?_,?_⟩
   ·simp [execOp,ho,Instr.sliceAt,run_underlying hu,Instr.slice,hv,hsb,Zo hz hs0]
   ·simp only [VR]
    exact⟨by rfl,ed,he,k1,fun _=>.inl ⟨rfl,trivial,q5⟩⟩
  ·have hsb:=Zac (P:=P) hr hlo hhi (Int.le_refl 0) h0 h2 (show n≤cap by omega)
   rw [e1,← hn] at hv
   refine⟨.slice (some ⟨g,0,none⟩) h.toNat cap,?_,?_⟩
   ·by_cases hc:cap=0
    ·rw [hc] at hsb
     simp [execOp,ho,Instr.sliceAt,run_underlying hu,Instr.slice,hv,hsb,Zo hz hs0,hc]
    ·simp [execOp,ho,Instr.sliceAt,run_underlying hu,Instr.slice,hv,hsb,Zo hz hs0,hc,Zn]
   ·simp only [VR]
    exact⟨by rfl,ed,he,k1,fun _=>.inr ⟨g,xs.length,cap,by rw [e1],rfl⟩⟩
end
end Go.AM
namespace Go.AM
section
variable {P:Program} {G:Glob} {α:Type}
def Hnd.cut (row:α→List PV) {l:List α} {h:Int} (hh:0≤h∧h≤(l.length:Int)):Hnd P G where
 run o st H:=match o.op with
  | .slice t x lo hi none=>match P.underlying t,opd G st x,loOf G st lo with
   | some (.slice e),some (.own i n),some l0=>match H[i]?,hiOf G st n hi with
    | some (.buf s _ xs _),some h'=>if Nat.beq (P.cellsOf e) s && !(Nat.beq s 0) then some ⟨.oc i n h.toNat,H,[.n n,.rs xs,.p (.sc (.int .i64 l0)),.p (.sc (.int .i64 h'))],[.n l.length,.rs (l.map row),.p (.sc (.int .i64 0)),.p (.sc (.int .i64 h))]⟩ else none
    | _,_=>none
   | _,_,_=>none
  | _=>none
 sound:=by
  intro n0 o st H x hr he
  suffices hT:OpT P G n0 o st H x.p x.H from hT.weak
  split at hr
  ·rename_i t x lo hi ho
   split at hr
   ·rename_i e i n l0 hu hx hlo
    split at hr
    ·rename_i s ty xs sh h' hb hhi
     split at hr
     ·rename_i hc
      simp only [Bool.and_eq_true,Bool.not_eq_true'] at hc
      simp only [Option.some.injEq] at hr
      subst hr
      simp only [List.cons.injEq,T.n.injEq,T.rs.injEq,T.p.injEq,PV.sc.injEq,Value.int.injEq,true_and,and_true] at he
      obtain⟨h1,h2,h3,h4⟩:=he
      subst h1 h2 h3 h4
      exact OpT.slice_cut ho hu (Nat.eq_of_beq_eq_true hc.1) (fun e0=>by rw [e0] at hc; simp at hc) hx hb (List.length_map ..).symm hlo hhi hh.1 hh.2
     ·cases hr
    ·cases hr
   ·cases hr
  ·cases hr
inductive SrcK (α:Type) where
 | val (m:List α)
 | own (m:List α)
 | op (m:List α) (lo:Nat)
 | oc (m:List α) (k:Nat)
def SrcK.ok:SrcK α→Prop
 | .val _=>True
 | .own _=>True
 | .op m lo=>lo≤m.length
 | .oc m k=>k≤m.length
end
end Go.AM
namespace Go.AM
section
variable {P:Program} {G:Glob} {n0 nt:Nat} {o:Oper} {st:St} {H:List Blk} {Q:Exit→St→List Blk→Prop}
theorem Zdq {c:Ctx} {β:List Bnd} {w:World} {i:Nat} {k k':Blk} (hk:H[i]? = some k) (hf:∀ e b hi,k'.free e b hi ↔ k.free e b hi):stab c β (H.set i k') w=stab c β H w:=by
 have hil:=(List.getElem?_eq_some_iff.1 hk).1
 funext b hi
 simp only [stab,eq_iff_iff]
 refine or_congr Iff.rfl (and_congr Iff.rfl (and_congr Iff.rfl ⟨fun h j e l h1 h2=>?_,fun h j e l h1 h2=>?_⟩))
 ·by_cases hji:j=i
  ·subst hji; rw [hk] at h2; cases h2
   exact(hf e b hi).1 (h j e k' h1 (List.getElem?_set_self hil))
  ·exact h j e l h1 (by rw [List.getElem?_set_ne (Ne.symm hji)]; exact h2)
 ·by_cases hji:j=i
  ·subst hji; rw [List.getElem?_set_self hil] at h2; cases h2
   exact(hf e b hi).2 (h j e k h1 hk)
  ·exact h j e l h1 (by rw [List.getElem?_set_ne (Ne.symm hji)] at h2; exact h2)
theorem RelB.re {c:Ctx} {β:List Bnd} {a:Act} {w:World} (h:RelB G c β st H a w) {i:Nat} {k k':Blk} (hk:H[i]? = some k) (hf:∀ e b hi,k'.free e b hi ↔ k.free e b hi) (hat:∀ e,k'.at e=k.at e) (hin:k.isIn=true→k'.isIn=true)
  (hblk:∀ e,β[i]? = some e→BlkR (stab c β H w) β w c.w0.heap.size i e k→BlkR (stab c β H w) β w c.w0.heap.size i e k'):RelB G c β st (H.set i k') a w:=by
 have hil:=(List.getElem?_eq_some_iff.1 hk).1
 have hs:=Zdq (c:=c) (β:=β) (w:=w) hk hf
 have hx:Ext (stab c β H w) w (stab c β (H.set i k') w) w:=by rw [hs]; exact Ext.refl _ _
 have key:∀(j:Nat) l,(H.set i k')[j]? = some l→∃ l',H[j]? = some l'∧∀ e,l'.at e=l.at e:=fun j l hj=>by
  by_cases hji:j=i
  ·subst hji; rw [List.getElem?_set_self hil] at hj; cases hj
   exact⟨k,hk,fun e=>(hat e).symm⟩
  ·rw [List.getElem?_set_ne (Ne.symm hji)] at hj; exact⟨l,hj,fun _=>rfl⟩
 refine h.move hx (BExt.refl _ _) (by simp [h.len]) h.pre (fun j e l h1 h2=>?_) (fun j j' f f' l l' b hij h1 h2 h3 h4 h5 h6=>?_) (fun j f l b h0 h1 h2 h3=>?_) (fun j hj=>?_) h.frm
 ·rw [hs]
  by_cases hji:j=i
  ·subst hji; rw [List.getElem?_set_self hil] at h2; cases h2
   exact hblk e h1 (h.blk j e k h1 hk)
  ·rw [List.getElem?_set_ne (Ne.symm hji)] at h2; exact h.blk j e l h1 h2
 ·obtain⟨l1,g1,g2⟩:=key j l h2
  obtain⟨l2,g3,g4⟩:=key j' l' h4
  exact h.inj j j' f f' l1 l2 b hij h1 g1 h3 g3 (by rw [g2]; exact h5) (by rw [g4]; exact h6)
 ·obtain⟨l1,g1,g2⟩:=key j l h2
  exact h.loc j f l1 b h0 h1 g1 (by rw [g2]; exact h3)
 ·obtain⟨l,hc,hcf⟩:=h.cel j hj
  by_cases hji:j=i
  ·subst hji; rw [hk] at hc; cases hc
   exact⟨k',List.getElem?_set_self hil,hin hcf⟩
  ·exact⟨l,by rw [List.getElem?_set_ne (Ne.symm hji)]; exact hc,hcf⟩
section typed
variable {K V:Type} {kv:K→Value} {vv:V→Value} {eqk:K→K→Bool} {kt:TypeId}
def entT (kv:K→Value) (vv:V→Value) (x:Nat × K × V):Nat × Value × PV:=(x.1,kv x.2.1,.sc (vv x.2.2))
def entF (kv:K→Value) (vv:V→Value) (x:K × V):Value × Value:=(kv x.1,vv x.2)
structure FmOk (kv:K→Value) (E:List (Nat × K × V)) (cl:Nat) (L:List (K × V)):Prop where
 lt:∀ x∈E,x.1<cl
 nd:(E.map (·.1)).Nodup
 perm:(E.map (·.2)).Perm L
 keys:(L.map fun x=>kv x.1).Nodup
theorem Zfi {α γ:Type} (f:α→γ) {l m:List γ} (h:l.Perm m):∀ L:List α,m=L.map f→∃ L':List α,L'.Perm L∧l=L'.map f:=by
 induction h with
 | nil=>intro L hL; exact⟨[],by rw [List.map_eq_nil_iff.1 hL.symm],rfl⟩
 | cons x h ih=>
  intro L hL
  cases L with
  | nil=>simp at hL
  | cons y L=>
   simp only [List.map_cons,List.cons.injEq] at hL
   obtain⟨L',h1,h2⟩:=ih L hL.2
   exact⟨y :: L',h1.cons y,by rw [List.map_cons,h2,hL.1]⟩
 | swap x y l=>
  intro L hL
  match L,hL with
  | a :: b :: L,hL=>
   simp only [List.map_cons,List.cons.injEq] at hL
   exact⟨b :: a :: L,.swap a b L,by simp only [List.map_cons,hL.1,hL.2.1,hL.2.2]⟩
 | trans _ _ ih1 ih2=>
  intro L hL
  obtain⟨L1,h1,h2⟩:=ih2 L hL
  obtain⟨L2,h3,h4⟩:=ih1 L1 h2
  exact⟨L2,h3.trans h1,h4⟩
theorem Zf9:∀(ms:List MapEntry) (L:List (K × V)),ms.map (fun x=>(x.key,x.val))=L.map (entF kv vv)→∃ E:List (Nat × K × V),E.map (·.1)=ms.map (·.born)∧E.map (·.2)=L ∧
  ms.map (fun x=>(x.born,x.key))=(E.map (entT kv vv)).map (fun x=>(x.1,x.2.1))∧∀ S β w,VRs S β w ((E.map (entT kv vv)).map (·.2.2)) (ms.map (·.val))
 | [],[],_=>⟨[],rfl,rfl,rfl,fun _ _ _=>by simp only [List.map_nil,VRs]⟩
 | [],_ :: _,h=>by simp at h
 | _ :: _,[],h=>by simp at h
 | a :: ms,x :: L,h=>by
  simp only [List.map_cons,List.cons.injEq] at h
  obtain⟨E,h1,h2,h3,h4⟩:=Zf9 ms L h.2
  have h5:=h.1
  simp only [entF,Prod.mk.injEq] at h5
  refine⟨(a.born,x) :: E,by simp [h1],by simp [h2],?_,fun S β w=>?_⟩
  ·rw [List.map_cons,List.map_cons,List.map_cons,h3,h5.1]; rfl
  ·simp only [List.map_cons,VRs]
   exact⟨by simp only [entT,VR]; exact h5.2,h4 S β w⟩
theorem Ze0:∀(ms:List MapEntry) (E:List (Nat × K × V)) (S:Nat→Nat→Prop) (β:List Bnd) (w:World),ms.map (fun x=>(x.born,x.key))=(E.map (entT kv vv)).map (fun x=>(x.1,x.2.1))→VRs S β w ((E.map (entT kv vv)).map (·.2.2)) (ms.map (·.val)) →
  ms.map (·.born)=E.map (·.1)∧ms.map (fun x=>(x.key,x.val))=(E.map (·.2)).map (entF kv vv)
 | [],[],_,_,_,_,_=>⟨rfl,rfl⟩
 | [],_ :: _,_,_,_,h,_=>by simp at h
 | _ :: _,[],_,_,_,h,_=>by simp at h
 | a :: ms,x :: E,S,β,w,h,hv=>by
  simp only [List.map_cons,List.cons.injEq,Prod.mk.injEq] at h
  simp only [List.map_cons,VRs] at hv
  obtain⟨h1,h2⟩:=Ze0 ms E S β w h.2 hv.2
  have h3:=hv.1
  simp only [entT,VR] at h3
  exact⟨by rw [List.map_cons,List.map_cons,h1,h.1.1]; rfl,by rw [List.map_cons,List.map_cons,List.map_cons,h2,h.1.2,h3]; rfl⟩
theorem RelB.openM {c:Ctx} {β:List Bnd} {a:Act} {w:World} (h:RelB G c β st H a w) {i:Nat} {L:List (K × V)} (hb:H[i]? = some (.fm (L.map (entF kv vv)))) :
  ∃ E cl,FmOk kv E cl L∧RelB G c β st (H.set i (.map (E.map (entT kv vv)) cl)) a w:=by
 have hil:=(List.getElem?_eq_some_iff.1 hb).1
 have hbl:i<β.length:=by rw [h.len]; exact hil
 obtain⟨arr,cl,h1,h2,h3,h4,h5⟩:=h.blk i β[i] _ (by simp [hbl]) hb
 obtain⟨L',h6,h7⟩:=Zfi _ h4 L rfl
 obtain⟨E,g1,g2,g3,g4⟩:=Zf9 _ _ h7
 refine⟨E,cl,⟨fun x hx=>?_,by rw [g1]; exact h3,by rw [g2]; exact h6,?_⟩,h.re hb (fun _ _ _=>Iff.rfl) (fun _=>rfl) (fun _=>rfl) fun e he _=>?_⟩
 ·have:x.1∈arr.toList.map (·.born):=by rw [← g1]; exact List.mem_map_of_mem hx
  obtain⟨m,hm,hmb⟩:=List.mem_map.1 this
  rw [← hmb]; exact h2 m hm
 ·rw [List.map_map] at h5
  exact h5
 ·have:e=β[i]:=by rw [List.getElem?_eq_getElem hbl] at he; simpa using he.symm
  subst this
  exact⟨arr,h1,g3,g4 _ _ _⟩
theorem RelB.closeM {c:Ctx} {β:List Bnd} {a:Act} {w:World} (h:RelB G c β st H a w) {i:Nat} {E:List (Nat × K × V)} {cl:Nat} {L:List (K × V)} (hb:H[i]? = some (.map (E.map (entT kv vv)) cl)) (hE:FmOk kv E cl L) :
  RelB G c β st (H.set i (.fm (L.map (entF kv vv)))) a w:=
 h.re hb (fun _ _ _=>Iff.rfl) (fun _=>rfl) (fun _=>rfl) fun e _ hbk=>by
  obtain⟨arr,h1,h2,h3⟩:=hbk
  obtain⟨g1,g2⟩:=Ze0 _ _ _ _ _ h2 h3
  refine⟨arr,cl,h1,fun x hx=>?_,by rw [g1]; exact hE.nd,by rw [g2]; exact hE.perm.map _,by rw [List.map_map]; exact hE.keys⟩
  have:x.born∈E.map (·.1):=by rw [← g1]; exact List.mem_map_of_mem hx
  obtain⟨y,hy,hyb⟩:=List.mem_map.1 this
  rw [← hyb]; exact hE.lt y hy
theorem OpW.fm {i:Nat} {L L':List (K × V)} {p:PV} (hb:H[i]? = some (.fm (L.map (entF kv vv))))
  (h:∀ E cl,FmOk kv E cl L→∃ E' cl',FmOk kv E' cl' L'∧OpW P G n0 o st (H.set i (.map (E.map (entT kv vv)) cl)) p (H.set i (.map (E'.map (entT kv vv)) cl'))):OpW P G n0 o st H p (H.set i (.fm (L'.map (entF kv vv)))):=by
 intro c a w β h0 hr
 have hil:=(List.getElem?_eq_some_iff.1 hb).1
 obtain⟨E,cl,hE,hr1⟩:=hr.openM hb
 obtain⟨E',cl',hE',hop⟩:=h E cl hE
 refine Z5 (hop c a w β h0 hr1) fun v w' ⟨β',h1,h2⟩=>⟨β',?_,?_⟩
 ·have:=h1.closeM (i:=i) (List.getElem?_set_self hil) hE'
  rwa [List.set_set] at this
 ·have hs:=Zdq (c:=c) (β:=β') (w:=w') (i:=i) (k':=.fm (L'.map (entF kv vv))) (List.getElem?_set_self hil:(H.set i (.map (E'.map (entT kv vv)) cl'))[i]? = _) (fun _ _ _=>Iff.rfl)
  rw [List.set_set] at hs
  rw [hs]; exact h2
structure KeyOk (P:Program) (kt:TypeId) (kv:K→Value) (eqk:K→K→Bool):Prop where
 chk:∀ a,chkK P 20 kt (kv a)=true
 cmp:∀ a b,flatEq P 50 kt (kv a) (kv b)=some (eqk a b)
 now:∃ kind,P.underlying kt=some kind∧((∀ a b,Instr.sameNow kind (kv a) (kv b)=none)∨∀ a b,Instr.sameNow kind (kv a) (kv b)=some (eqk a b))
 bits:∀ a,Instr.sameBits 10000 (kv a) (kv a)=true
 eq:∀ a b,eqk a b=true ↔ a=b
theorem KeyOk.inj (h:KeyOk P kt kv eqk) {a b:K} (hab:kv a=kv b):a=b:=by
 have h1:=h.cmp a a
 rw [(h.eq a a).2 rfl] at h1
 have h2:=h.cmp a b
 rw [← hab,h1,Option.some.injEq] at h2
 exact(h.eq a b).1 h2.symm
theorem Zdd {kind:TypeDesc} (hn:∀ a b,Instr.sameNow kind (kv a) (kv b)=some (eqk a b)) (a:K):∀(ks:List K) (i:Nat),findN kind (kv a) (ks.map kv) i=some ((ks.findIdx? (eqk a)).map (· + i))
 | [],i=>rfl
 | k :: ks,i=>by
  rw [List.map_cons,findN,hn,List.findIdx?_cons]
  cases eqk a k with
  | true=>simp
  | false=>
   simp only [Zdd hn a ks (i + 1),Bool.false_eq_true,if_false,Option.map_map]
   congr 2
   funext j
   simp only [Function.comp]; omega
theorem Zde (hc:∀ a b,flatEq P 50 kt (kv a) (kv b)=some (eqk a b)) (a:K):∀(ks:List K) (i:Nat),findA P kt (kv a) (ks.map kv) i=some ((ks.findIdx? (eqk a)).map (· + i))
 | [],i=>rfl
 | k :: ks,i=>by
  rw [List.map_cons,findA,hc,List.findIdx?_cons]
  cases eqk a k with
  | true=>simp
  | false=>
   simp only [Zde hc a ks (i + 1),Bool.false_eq_true,if_false,Option.map_map]
   congr 2
   funext j
   simp only [Function.comp]; omega
theorem Zb3 (h:KeyOk P kt kv eqk) (a:K) (ks:List K):findx P kt (kv a) (ks.map kv)=some (ks.findIdx? (eqk a)):=by
 obtain⟨kind,h1,h2⟩:=h.now
 unfold findx
 rw [h1]
 simp only
 rcases h2 with h2 | h2
 ·cases ks with
  | nil=>rfl
  | cons k ks=>
   have:findN kind (kv a) ((k :: ks).map kv) 0=none:=by rw [List.map_cons,findN,h2]
   rw [this]
   have h3:=Zde h.cmp a (k :: ks) 0
   simp only [Nat.add_zero,Option.map_id',List.map_cons] at h3
   simp only [List.map_cons]
   rw [h3]
 ·simp [Zdd h2 a ks 0]
def mget (eqk:K→K→Bool) (L:List (K × V)) (a:K):Option V:=(L.find? fun x=>eqk a x.1).map (·.2)
def mput (eqk:K→K→Bool) (L:List (K × V)) (a:K) (v:V):List (K × V):=if L.any (fun x=>eqk a x.1) then L.map (fun x=>if eqk a x.1 then (a,v) else x) else L++[(a,v)]
def mdel (eqk:K→K→Bool) (L:List (K × V)) (a:K):List (K × V):=L.filter fun x=>!eqk a x.1
theorem Zgs {p:K × V→Bool} {L L':List (K × V)} (hp:L.Perm L') (hu:∀ x∈L,∀ y∈L,p x=true→p y=true→x=y):L.find? p=L'.find? p:=by
 cases h:L.find? p with
 | none=>
  rw [List.find?_eq_none] at h
  exact(List.find?_eq_none.2 fun x hx=>h x (hp.mem_iff.2 hx)).symm
 | some x=>
  have hx:=List.mem_of_find?_eq_some h
  have hpx:=List.find?_some h
  cases h':L'.find? p with
  | none=>
   rw [List.find?_eq_none] at h'
   exact absurd hpx (h' x (hp.mem_iff.1 hx))
  | some y=>rw [hu x hx y (hp.mem_iff.2 (List.mem_of_find?_eq_some h')) hpx (List.find?_some h')]
theorem Zgt (h:KeyOk P kt kv eqk) {L:List (K × V)} (hk:(L.map fun x=>kv x.1).Nodup) (a:K):∀ x∈L,∀ y∈L,eqk a x.1=true→eqk a y.1=true→x=y:=by
 intro x hx y hy h1 h2
 have e1:=(h.eq _ _).1 h1
 have e2:=(h.eq _ _).1 h2
 obtain⟨i,hi⟩:=List.mem_iff_getElem?.1 hx
 obtain⟨j,hj⟩:=List.mem_iff_getElem?.1 hy
 have hij:i=j:=by
  refine(List.getElem?_inj (by rw [List.length_map]; exact(List.getElem?_eq_some_iff.1 hi).1) hk).1 ?_
  rw [List.getElem?_map,List.getElem?_map,hi,hj]
  simp [← e1,← e2]
 subst hij
 rw [hi] at hj
 simpa using hj
theorem Zgu (h:KeyOk P kt kv eqk) {L L':List (K × V)} (hp:L.Perm L') (hk:(L.map fun x=>kv x.1).Nodup) (a:K):mget eqk L a=mget eqk L' a:=by
 unfold mget
 rw [Zgs hp (Zgt h hk a)]
theorem FmOk.keysE {E:List (Nat × K × V)} {cl:Nat} {L:List (K × V)} (h:FmOk kv E cl L):((E.map (·.2)).map fun x=>kv x.1).Nodup:=(h.perm.map _).nodup_iff.2 h.keys
theorem Zb0 (a:K):∀(E:List (Nat × K × V)),match (E.map (·.2.1)).findIdx? (eqk a) with
  | some j=>∃ x,E[j]? = some x∧eqk a x.2.1=true∧mget eqk (E.map (·.2)) a=some x.2.2
  | none=>mget eqk (E.map (·.2)) a=none∧∀ x∈E,eqk a x.2.1=false
 | []=>⟨rfl,by simp⟩
 | x :: E=>by
  have ih:=Zb0 a E
  rw [List.map_cons,List.findIdx?_cons]
  cases hx:eqk a x.2.1 with
  | true=>exact⟨x,rfl,hx,by simp [mget,hx]⟩
  | false=>
   simp only [Bool.false_eq_true,if_false]
   cases hj:(E.map (·.2.1)).findIdx? (eqk a) with
   | none=>
    rw [hj] at ih
    refine⟨?_,fun y hy=>?_⟩
    ·have:=ih.1
     simpa [mget,hx] using this
    ·rcases List.mem_cons.1 hy with rfl | hy
     ·exact hx
     ·exact ih.2 y hy
   | some j=>
    rw [hj] at ih
    obtain⟨y,h1,h2,h3⟩:=ih
    refine⟨y,by simpa using h1,h2,?_⟩
    simpa [mget,hx] using h3
theorem Ze1 (h:KeyOk P kt kv eqk) (a:K) (v:V):∀(E:List (Nat × K × V)) (j:Nat) (x:Nat × K × V),((E.map (·.2)).map fun x=>kv x.1).Nodup→E[j]? = some x→eqk a x.2.1=true→E.set j (x.1,a,v)=E.map (fun y=>if eqk a y.2.1 then (y.1,a,v) else y)
 | [],j,x,_,hj,_=>by simp at hj
 | y :: E,0,x,hn,hj,hx=>by
  simp only [List.getElem?_cons_zero,Option.some.injEq] at hj
  subst hj
  simp only [List.map_cons,List.nodup_cons] at hn
  rw [List.set_cons_zero,List.map_cons,if_pos hx]
  congr 1
  have hid:E=E.map (fun z=>z):=(List.map_id' E).symm
  conv=>lhs; rw [hid]
  refine List.map_congr_left fun z hz=>?_
  rw [if_neg]
  intro hz'
  have e1:=(h.eq _ _).1 hz'
  have e2:=(h.eq _ _).1 hx
  exact hn.1 (List.mem_map.2 ⟨z.2,List.mem_map_of_mem hz,by rw [← e1,← e2]⟩)
 | y :: E,j + 1,x,hn,hj,hx=>by
  simp only [List.map_cons,List.nodup_cons] at hn
  rw [List.getElem?_cons_succ] at hj
  rw [List.set_cons_succ,List.map_cons,Ze1 h a v E j x hn.2 hj hx,if_neg]
  intro hy
  have e1:=(h.eq _ _).1 hy
  have e2:=(h.eq _ _).1 hx
  exact hn.1 (List.mem_map.2 ⟨x.2,List.mem_map_of_mem (List.mem_of_getElem? hj),by rw [← e1,← e2]⟩)
theorem Zdf (h:KeyOk P kt kv eqk) (a:K):∀(E:List (Nat × K × V)) (j:Nat) (x:Nat × K × V),((E.map (·.2)).map fun x=>kv x.1).Nodup→E[j]? = some x→eqk a x.2.1=true→E.eraseIdx j=E.filter (fun y=>!eqk a y.2.1)
 | [],j,x,_,hj,_=>by simp at hj
 | y :: E,0,x,hn,hj,hx=>by
  simp only [List.getElem?_cons_zero,Option.some.injEq] at hj
  subst hj
  simp only [List.map_cons,List.nodup_cons] at hn
  rw [List.eraseIdx_cons_zero,List.filter_cons,hx]
  simp only [Bool.not_true,Bool.false_eq_true,if_false]
  refine(List.filter_eq_self.2 fun z hz=>?_).symm
  cases hz':eqk a z.2.1 with
  | false=>rfl
  | true=>
   have e1:=(h.eq _ _).1 hz'
   have e2:=(h.eq _ _).1 hx
   exact absurd (List.mem_map.2 ⟨z.2,List.mem_map_of_mem hz,by rw [← e1,← e2]⟩) hn.1
 | y :: E,j + 1,x,hn,hj,hx=>by
  simp only [List.map_cons,List.nodup_cons] at hn
  rw [List.getElem?_cons_succ] at hj
  have hy:eqk a y.2.1=false:=by
   cases hy:eqk a y.2.1 with
   | false=>rfl
   | true=>
    have e1:=(h.eq _ _).1 hy
    have e2:=(h.eq _ _).1 hx
    exact absurd (List.mem_map.2 ⟨x.2,List.mem_map_of_mem (List.mem_of_getElem? hj),by rw [← e1,← e2]⟩) hn.1
  rw [List.eraseIdx_cons_succ,Zdf h a E j x hn.2 hj hx,List.filter_cons,hy]
  rfl
theorem Zci (E:List (Nat × K × V)):(E.map (entT kv vv)).map (·.2.1)=(E.map (·.2.1)).map kv:=by
 rw [List.map_map,List.map_map]; rfl
theorem Zfr (h:KeyOk P kt kv eqk) {e:TypeId} {E:List (Nat × K × V)} {cl:Nat} {L:List (K × V)} (hE:FmOk kv E cl L) (ok:Bool) (a:K) {zv:V} (hz:zeroP P e=some (.sc (vv zv))) :
  lookx P kt e ok (kv a) (E.map (entT kv vv))=some (lres ok (.sc (vv ((mget eqk L a).getD zv))) (mget eqk L a).isSome):=by
 unfold lookx
 rw [h.chk,Zci,Zb3 h]
 have hi:=Zb0 (eqk:=eqk) a E
 have hm:=Zgu h hE.perm hE.keysE a
 simp only [if_true]
 cases hj:(E.map (·.2.1)).findIdx? (eqk a) with
 | none=>
  rw [hj] at hi
  rw [← hm,hi.1,hz]
  rfl
 | some j=>
  rw [hj] at hi
  obtain⟨x,h1,_,h3⟩:=hi
  simp only
  rw [List.getElem?_map,h1,← hm,h3]
  rfl
theorem Zgd (h:KeyOk P kt kv eqk) {L:List (K × V)} (hk:(L.map fun x=>kv x.1).Nodup) (a:K) (v:V):((mput eqk L a v).map fun x=>kv x.1).Nodup:=by
 unfold mput
 split
 ·have:(L.map (fun x=>if eqk a x.1 then (a,v) else x)).map (fun x=>kv x.1)=L.map fun x=>kv x.1:=by
   rw [List.map_map]
   refine List.map_congr_left fun x _=>?_
   simp only [Function.comp]
   split
   ·rename_i hx; rw [(h.eq _ _).1 hx]
   ·rfl
  rw [this]; exact hk
 ·rename_i hn
  rw [List.map_append,List.nodup_append]
  refine⟨hk,by simp,fun x hx y hy=>?_⟩
  simp only [List.map_cons,List.map_nil,List.mem_singleton] at hy
  subst hy
  obtain⟨z,hz,rfl⟩:=List.mem_map.1 hx
  intro e
  exact hn (List.any_eq_true.2 ⟨z,hz,(h.eq _ _).2 (h.inj e).symm⟩)
theorem Zgv {L L':List (K × V)} (hp:L.Perm L') (a:K) (v:V):(mput eqk L a v).Perm (mput eqk L' a v):=by
 unfold mput
 have:L.any (fun x=>eqk a x.1)=L'.any (fun x=>eqk a x.1):=by
  rw [Bool.eq_iff_iff,List.any_eq_true,List.any_eq_true]
  exact⟨fun⟨x,h1,h2⟩=>⟨x,hp.mem_iff.1 h1,h2⟩,fun⟨x,h1,h2⟩=>⟨x,hp.mem_iff.2 h1,h2⟩⟩
 rw [this]
 split
 ·exact hp.map _
 ·exact hp.append_right _
theorem Zge (h:KeyOk P kt kv eqk) {E:List (Nat × K × V)} {cl:Nat} {L:List (K × V)} (hE:FmOk kv E cl L) (a:K) (v:V) :
  ∃ E' cl',putx P kt (kv a) (.sc (vv v)) (E.map (entT kv vv)) cl=some (E'.map (entT kv vv),cl')∧FmOk kv E' cl' (mput eqk L a v):=by
 unfold putx
 rw [h.chk,Zci,Zb3 h]
 have hi:=Zb0 (eqk:=eqk) a E
 have hnd:=Zgd h hE.keys a v
 have hpp:=Zgv (eqk:=eqk) hE.perm a v
 simp only [if_true]
 cases hj:(E.map (·.2.1)).findIdx? (eqk a) with
 | none=>
  rw [hj] at hi
  refine⟨E++[(cl,a,v)],cl + 1,by simp only [List.map_append]; rfl,⟨fun x hx=>?_,?_,?_,hnd⟩⟩
  ·rcases List.mem_append.1 hx with hx | hx
   ·have:=hE.lt x hx; omega
   ·rw [List.mem_singleton.1 hx]; simp
  ·rw [List.map_append,List.nodup_append]
   refine⟨hE.nd,by simp,fun x hx y hy=>?_⟩
   simp only [List.map_cons,List.map_nil,List.mem_singleton] at hy
   subst hy
   obtain⟨z,hz,rfl⟩:=List.mem_map.1 hx
   have:=hE.lt z hz
   omega
  ·refine List.Perm.trans ?_ hpp
   rw [List.map_append]
   unfold mput
   rw [if_neg]
   ·exact List.Perm.refl _
   ·intro hany
    obtain⟨z,hz,hz'⟩:=List.any_eq_true.1 hany
    obtain⟨y,hy,rfl⟩:=List.mem_map.1 hz
    rw [hi.2 y hy] at hz'; cases hz'
 | some j=>
  rw [hj] at hi
  obtain⟨x,h1,h2,_⟩:=hi
  have e2:=(h.eq _ _).1 h2
  refine⟨E.set j (x.1,a,v),cl,?_,?_⟩
  ·simp only
   rw [List.getElem?_map,h1]
   simp only [Option.map_some]
   rw [show (entT kv vv x).2.1=kv a by rw [e2]; rfl,h.bits,if_pos rfl,List.map_set]
   rfl
  ·rw [Ze1 h a v E j x hE.keysE h1 h2]
   refine⟨fun y hy=>?_,?_,?_,hnd⟩
   ·obtain⟨z,hz,rfl⟩:=List.mem_map.1 hy
    have:=hE.lt z hz
    split <;> exact this
   ·have:(E.map (fun y=>if eqk a y.2.1 then (y.1,a,v) else y)).map (·.1)=E.map (·.1):=by
     rw [List.map_map]
     refine List.map_congr_left fun y _=>?_
     simp only [Function.comp]
     split <;> rfl
    rw [this]; exact hE.nd
   ·refine List.Perm.trans ?_ hpp
    unfold mput
    rw [if_pos (List.any_eq_true.2 ⟨x.2,List.mem_map_of_mem (List.mem_of_getElem? h1),h2⟩),List.map_map,List.map_map]
    refine List.Perm.of_eq (List.map_congr_left fun y _=>?_)
    simp only [Function.comp]
    split <;> rfl
theorem Zcj (h:KeyOk P kt kv eqk) {E:List (Nat × K × V)} {cl:Nat} {L:List (K × V)} (hE:FmOk kv E cl L) (a:K) :
  delx P kt (kv a) (E.map (entT kv vv))=some ((E.filter fun y=>!eqk a y.2.1).map (entT kv vv))∧FmOk kv (E.filter fun y=>!eqk a y.2.1) cl (mdel eqk L a):=by
 constructor
 ·unfold delx
  rw [h.chk,Zci,Zb3 h]
  have hi:=Zb0 (eqk:=eqk) a E
  simp only [if_true]
  cases hj:(E.map (·.2.1)).findIdx? (eqk a) with
  | none=>
   rw [hj] at hi
   simp only
   rw [List.filter_eq_self.2 fun y hy=>by rw [hi.2 y hy]; rfl]
  | some j=>
   rw [hj] at hi
   obtain⟨x,h1,h2,_⟩:=hi
   simp only
   rw [← Zdf h a E j x hE.keysE h1 h2,Zad]
 ·refine⟨fun x hx=>hE.lt x (List.mem_filter.1 hx).1,(List.filter_sublist.map _).nodup hE.nd,?_,(List.filter_sublist.map _).nodup hE.keys⟩
  unfold mdel
  have:(E.filter fun y=>!eqk a y.2.1).map (·.2)=(E.map (·.2)).filter fun x=>!eqk a x.1:=by
   rw [List.filter_map]; rfl
  rw [this]
  exact hE.perm.filter _
end typed
end
end Go.AM
namespace Go.AM
section
variable {P:Program} {G:Glob} {n0 nt:Nat} {o:Oper} {st:St} {H:List Blk} {Q:Exit→St→List Blk→Prop}
variable {K V:Type} {kv:K→Value} {vv:V→Value} {eqk:K→K→Bool} {kt:TypeId}
theorem OpW.re {p:PV} {H1:List Blk} {i:Nat} {k k':Blk} (h:OpW P G n0 o st H p H1) (hk:H1[i]? = some k) (hf:∀ e b hi,k'.free e b hi ↔ k.free e b hi) (hat:∀ e,k'.at e=k.at e) (hin:k.isIn=true→k'.isIn=true)
  (hblk:∀ S β w base e,BlkR S β w base i e k→BlkR S β w base i e k'):OpW P G n0 o st H p (H1.set i k'):=fun c a w β h0 hr=>
 Z5 (h c a w β h0 hr) fun v w' ⟨β',h1,h2⟩=>⟨β',h1.re hk hf hat hin fun e _=>hblk _ _ _ _ e,by rw [Zdq hk hf]; exact h2⟩
def Hnd.mkM:Hnd P G where
 run o _ H:=match o.op with
  | .makeMap _ none=>some ⟨.mp H.length,H++[.fm []],[],[]⟩
  | _=>none
 sound:=by
  intro n0 o st H x hr _
  split at hr
  ·rename_i t ho
   simp only [Option.some.injEq] at hr; subst hr
   have h:=(OpT.makeMap (P:=P) (G:=G) (n0:=n0) (st:=st) (H:=H) ho).weak.re (i:=H.length) (k:=.map [] 0) (k':=.fm []) (by simp) (fun _ _ _=>Iff.rfl) (fun _=>rfl) (fun _=>rfl) (fun S β w base e hb=>by
    obtain⟨arr,h1,h2,_⟩:=hb
    have ha:arr.toList=[]:=by simpa using h2
    exact⟨arr,0,h1,by rw [ha]; simp,by rw [ha]; simp,by rw [ha]; simp,by simp⟩)
   have e:(H++[Blk.map [] 0]).set H.length (.fm [])=H++[.fm []]:=by
    rw [List.set_append_right _ _ (Nat.le_refl _),Nat.sub_self]; rfl
   rw [e] at h
   exact h
  ·cases hr
def Hnd.lookM (hK:KeyOk P kt kv eqk) (vv:V→Value) (zv:V) (L:List (K × V)) (a:K):Hnd P G where
 run o st H:=match o.op with
  | .lookup t x y ok=>match P.underlying t,opd G st x,opd G st y with
   | some (.map k e),some (.mp i),some (.sc key)=>match H[i]?,zeroP P e with
    | some (.fm l),some (.sc z)=>if Nat.beq k kt then some ⟨lres ok (.sc (vv ((mget eqk L a).getD zv))) (mget eqk L a).isSome,H,[.kvs l,.v key,.v z],[.kvs (L.map (entF kv vv)),.v (kv a),.v (vv zv)]⟩ else none
    | _,_=>none
   | _,_,_=>none
  | _=>none
 sound:=by
  intro n0 o st H x hr he
  split at hr
  ·rename_i t x y ok ho
   split at hr
   ·rename_i k e i key hu hx hy
    split at hr
    ·rename_i l z hb hz
     split at hr
     ·rename_i hk
      have hk:=Nat.eq_of_beq_eq_true hk
      subst hk
      simp only [Option.some.injEq] at hr; subst hr
      simp only [List.cons.injEq,T.kvs.injEq,T.v.injEq,and_true] at he
      obtain⟨rfl,rfl,rfl⟩:=he
      have hil:=(List.getElem?_eq_some_iff.1 hb).1
      have key:=OpW.fm (P:=P) (G:=G) (n0:=n0) (o:=o) (st:=st) (H:=H) (i:=i) (L:=L) (L':=L) (p:=lres ok (.sc (vv ((mget eqk L a).getD zv))) (mget eqk L a).isSome) hb fun E cl hE=>
       ⟨E,cl,hE,(OpT.lookup ho hu hx hy (List.getElem?_set_self hil) (Zfr hK hE ok a hz)).weak⟩
      have e:H.set i (.fm (L.map (entF kv vv)))=H:=by
       apply List.ext_getElem?
       intro j
       by_cases hji:i=j
       ·subst hji; rw [List.getElem?_set_self hil,hb]
       ·rw [List.getElem?_set_ne hji]
      rwa [e] at key
     ·cases hr
    ·cases hr
   ·cases hr
  ·cases hr
def Hnd.putM (hK:KeyOk P kt kv eqk) (vv:V→Value) (L:List (K × V)) (a:K) (v:V):Hnd P G where
 run o st H:=match o.op with
  | .mapUpdate t x y z=>match P.underlying t,opd G st x,opd G st y,opd G st z with
   | some (.map k _),some (.mp i),some (.sc key),some p=>match H[i]? with
    | some (.fm l)=>if Nat.beq k kt then some ⟨.sc undef,H.set i (.fm ((mput eqk L a v).map (entF kv vv))),[.kvs l,.v key,.p p],[.kvs (L.map (entF kv vv)),.v (kv a),.p (.sc (vv v))]⟩ else none
    | _=>none
   | _,_,_,_=>none
  | _=>none
 sound:=by
  intro n0 o st H x hr he
  split at hr
  ·rename_i t x y z ho
   split at hr
   ·rename_i k e i key p hu hx hy hz
    split at hr
    ·rename_i l hb
     split at hr
     ·rename_i hk
      have hk:=Nat.eq_of_beq_eq_true hk
      subst hk
      simp only [Option.some.injEq] at hr; subst hr
      simp only [List.cons.injEq,T.kvs.injEq,T.v.injEq,T.p.injEq,and_true] at he
      obtain⟨rfl,rfl,rfl⟩:=he
      have hil:=(List.getElem?_eq_some_iff.1 hb).1
      refine OpW.fm hb fun E cl hE=>?_
      obtain⟨E',cl',h1,h2⟩:=Zge (vv:=vv) hK hE a v
      refine⟨E',cl',h2,?_⟩
      have:=(OpT.mapUpdate (n0:=n0) (.inl ho) hu hx hy hz (List.getElem?_set_self hil:(H.set i (.map (E.map (entT kv vv)) cl))[i]? = _) h1).weak
      rwa [List.set_set] at this
     ·cases hr
    ·cases hr
   ·cases hr
  ·cases hr
def Hnd.delM (hK:KeyOk P kt kv eqk) (vv:V→Value) (L:List (K × V)) (a:K):Hnd P G where
 run o st H:=match o.op with
  | .call cl=>match cl with
   | { callee:=.builtin .delete,args:=⟨[x,y]⟩,argTypes:=⟨[T0,_]⟩ }=>match P.underlying T0,opd G st x,opd G st y with
    | some (.map k _),some (.mp i),some (.sc key)=>match H[i]? with
     | some (.fm l)=>if Nat.beq k kt then some ⟨.sc (.tuple #[]),H.set i (.fm ((mdel eqk L a).map (entF kv vv))),[.kvs l,.v key],[.kvs (L.map (entF kv vv)),.v (kv a)]⟩ else none
     | _=>none
    | _,_,_=>none
   | _=>none
  | _=>none
 sound:=by
  intro n0 o st H x hr he
  split at hr
  ·rename_i cl ho
   split at hr
   ·rename_i x y T0 U
    split at hr
    ·rename_i k e i key hu hx hy
     split at hr
     ·rename_i l hb
      split at hr
      ·rename_i hk
       have hk:=Nat.eq_of_beq_eq_true hk
       subst hk
       simp only [Option.some.injEq] at hr; subst hr
       simp only [List.cons.injEq,T.kvs.injEq,T.v.injEq,and_true] at he
       obtain⟨rfl,rfl⟩:=he
       have hil:=(List.getElem?_eq_some_iff.1 hb).1
       refine OpW.fm hb fun E cl hE=>?_
       obtain⟨h1,h2⟩:=Zcj (vv:=vv) hK hE a
       refine⟨_,cl,h2,?_⟩
       have:=(OpT.delete (n0:=n0) ho rfl hu hx hy (List.getElem?_set_self hil:(H.set i (.map (E.map (entT kv vv)) cl))[i]? = _) h1).weak
       rwa [List.set_set] at this
      ·cases hr
     ·cases hr
    ·cases hr
   ·cases hr
  ·cases hr
def Hnd.delE (hK:KeyOk P kt kv eqk) (vv:V→Value) {E:List (Nat × K × V)} {c:Nat} {L:List (K × V)} (hE:FmOk kv E c L) (a:K):Hnd P G where
 run o st H:=match o.op with
  | .call cl=>match cl with
   | { callee:=.builtin .delete,args:=⟨[x,y]⟩,argTypes:=⟨[T0,_]⟩ }=>match P.underlying T0,opd G st x,opd G st y with
    | some (.map k _),some (.mp i),some (.sc key)=>match H[i]? with
     | some (.map es ck)=>if Nat.beq k kt then some ⟨.sc (.tuple #[]),H.set i (.map ((E.filter fun y=>!eqk a y.2.1).map (entT kv vv)) ck),[.es es,.v key],[.es (E.map (entT kv vv)),.v (kv a)]⟩ else none
     | _=>none
    | _,_,_=>none
   | _=>none
  | _=>none
 sound:=by
  intro n0 o st H x hr he
  split at hr
  ·rename_i cl ho
   split at hr
   ·rename_i x y T0 U
    split at hr
    ·rename_i k e i key hu hx hy
     split at hr
     ·rename_i es ck hb
      split at hr
      ·rename_i hk
       have hk:=Nat.eq_of_beq_eq_true hk
       subst hk
       simp only [Option.some.injEq] at hr; subst hr
       simp only [List.cons.injEq,T.es.injEq,T.v.injEq,and_true] at he
       obtain⟨rfl,rfl⟩:=he
       exact(OpT.delete (n0:=n0) ho rfl hu hx hy hb (Zcj (vv:=vv) hK hE a).1).weak
      ·cases hr
     ·cases hr
    ·cases hr
   ·cases hr
  ·cases hr
def Hnd.lenM (kv:K→Value) (vv:V→Value) (L:List (K × V)):Hnd P G where
 run o st H:=match o.op with
  | .call cl=>match cl with
   | { callee:=.builtin .len,args:=⟨[x]⟩,argTypes:=⟨[T0]⟩ }=>match P.underlying T0,opd G st x with
    | some (.map _ _),some (.mp i)=>match H[i]? with
     | some (.fm l)=>some ⟨.sc (.int .i64 L.length),H,[.kvs l],[.kvs (L.map (entF kv vv))]⟩
     | _=>none
    | _,_=>none
   | _=>none
  | _=>none
 sound:=by
  intro n0 o st H x hr he
  split at hr
  ·rename_i cl ho
   split at hr
   ·rename_i x T0
    split at hr
    ·rename_i k e i hu hx
     split at hr
     ·rename_i l hb
      simp only [Option.some.injEq] at hr; subst hr
      simp only [List.cons.injEq,T.kvs.injEq,and_true] at he
      subst he
      have hil:=(List.getElem?_eq_some_iff.1 hb).1
      have key:=OpW.fm (P:=P) (G:=G) (n0:=n0) (o:=o) (st:=st) (H:=H) (i:=i) (L:=L) (L':=L) (p:=.sc (.int .i64 L.length)) hb fun E cl0 hE=>⟨E,cl0,hE,by
       have:=(OpT.lenMap (n0:=n0) ho rfl hu hx (List.getElem?_set_self hil:(H.set i (.map (E.map (entT kv vv)) cl0))[i]? = _)).weak
       have e:(E.map (entT kv vv)).length=L.length:=by rw [List.length_map,← hE.perm.length_eq,List.length_map]
       rwa [e] at this⟩
      have e:H.set i (.fm (L.map (entF kv vv)))=H:=by
       apply List.ext_getElem?
       intro j
       by_cases hji:i=j
       ·subst hji; rw [List.getElem?_set_self hil,hb]
       ·rw [List.getElem?_set_ne hji]
      rwa [e] at key
     ·cases hr
    ·cases hr
   ·cases hr
  ·cases hr
def Hnd.rngE:Hnd P G where
 run o st H:=match o.op with
  | .range t x=>match P.underlying t,opd G st x with
   | some (.map _ _),some (.mp i)=>match H[i]? with
    | some (.map _ ck)=>some ⟨.ptr H.length 0,H++[.iter (some i) ck [] ck],[],[]⟩
    | _=>none
   | _,_=>none
  | _=>none
 sound:=by
  intro n0 o st H x hr _
  split at hr
  ·rename_i t x ho
   split at hr
   ·rename_i k e i hu hx
    split at hr
    ·rename_i es ck hb
     simp only [Option.some.injEq] at hr; subst hr
     exact(OpT.rangeMap ho hu hx hb).weak
    ·cases hr
   ·cases hr
  ·cases hr
theorem Zgf (S:List Nat):∀(E:List (Nat × K × V)) (x:Nat × K × V),x∈E→(E.map (·.1)).Nodup→entx (E.map (entT kv vv)) (S++[x.1])=some (.tup [.sc (kv x.2.1),.sc (vv x.2.2)]):=by
 intro E x hx hn
 have key:∀ E:List (Nat × K × V),x∈E→(E.map (·.1)).Nodup→(E.map (entT kv vv)).find? (fun y=>Nat.beq y.1 x.1)=some (entT kv vv x):=by
  intro E
  induction E with
  | nil=>intro h; cases h
  | cons y E ih=>
   intro hx hn
   rw [List.map_cons,List.nodup_cons] at hn
   rw [List.map_cons,List.find?_cons]
   rcases List.mem_cons.1 hx with rfl | hx
   ·rw [show Nat.beq (entT kv vv x).1 x.1=true from Nat.beq_refl _]
   ·have:Nat.beq (entT kv vv y).1 x.1=false:=by
     cases hb:Nat.beq (entT kv vv y).1 x.1 with
     | false=>rfl
     | true=>exact absurd (List.mem_map.2 ⟨x,hx,(Nat.eq_of_beq_eq_true hb).symm⟩) hn.1
    rw [this]
    exact ih hx hn.2
 unfold entx
 rw [List.getLast?_append]
 simp only [List.getLast?_singleton,Option.some_or]
 rw [key E hx hn]
 rfl
def Hnd.entE (vv:V→Value) {E:List (Nat × K × V)} {c:Nat} {L:List (K × V)} (hE:FmOk kv E c L) (S:List Nat) {x:Nat × K × V} (hx:x∈E):Hnd P G where
 run o st H:=match o.op with
  | .entry it=>match opd G st it with
   | some (.ptr q 0)=>match H[q]? with
    | some (.iter (some k) _ seen ck)=>match H[k]? with
     | some (.map es ck')=>some ⟨.tup [.sc (kv x.2.1),.sc (vv x.2.2)],H,[.es es,.ns seen,.n ck'],[.es (E.map (entT kv vv)),.ns (S++[x.1]),.n ck]⟩
     | _=>none
    | _=>none
   | _=>none
  | _=>none
 sound:=by
  intro n0 o st H y hr he
  split at hr
  ·rename_i it ho
   split at hr
   ·rename_i q hq
    split at hr
    ·rename_i k since seen ck hb
     split at hr
     ·rename_i es ck' hk
      simp only [Option.some.injEq] at hr; subst hr
      simp only [List.cons.injEq,T.es.injEq,T.ns.injEq,T.n.injEq,and_true] at he
      obtain⟨rfl,rfl,rfl⟩:=he
      exact(OpT.entry ho hq hb hk (Zgf S E x hx hE.nd)).weak
     ·cases hr
    ·cases hr
   ·cases hr
  ·cases hr
theorem Zfj (w:World) (ty:TypeId) (bi bm since:Nat) (seen:Array Nat) (es:Array MapEntry) (clock:Nat) (hi:w.heap[bi]? = some (.mapIter (some bm) since seen clock)) (hb:w.heap[bm]? = some (.map es clock)) (hold:∀ x∈es.toList,x.born<since) (hsc:since≤clock) :
  ((∀ x∈es.toList,seen.contains x.born=true)∧(Instr.next (.pointer (some ⟨bi,0,none⟩)) false ty).run P w=.ok (.tuple #[.bool false]) w) ∨
  ∃ e∈es.toList,seen.contains e.born=false∧∃ w1:World,(w1=w∨w1=w.drew)∧(Instr.next (.pointer (some ⟨bi,0,none⟩)) false ty).run P w=.ok (.tuple #[.bool true,e.key,e.val]) { w1 with heap:=w1.heap.setIfInBounds bi (.mapIter (some bm) since (seen.push e.born) clock) }:=by
 simp only [Instr.next,getObj,Sem.run_bind,Sem.run,hi,hb,Result.andThen,next_test_false seen es since clock hold hsc,Bool.false_eq_true,if_false]
 have hmem:∀ x∈(Array.filter (fun e=>!seen.contains e.born) es).toList,x.born<since:=fun x hx=>hold x (by simp at hx ⊢; exact hx.1)
 have hsub:∀ x∈(Array.filter (fun e=>!seen.contains e.born) es).toList,x∈es.toList∧seen.contains x.born=false:=fun x hx=>by
  rw [Array.toList_filter,List.mem_filter] at hx
  exact⟨hx.1,by simpa using hx.2⟩
 have hnone:(Array.filter (fun e=>!seen.contains e.born) es).size=0→∀ x∈es.toList,seen.contains x.born=true:=fun h0 x hx=>by
  cases hc:seen.contains x.born with
  | true=>rfl
  | false=>
   have h1:x∈(Array.filter (fun e=>!seen.contains e.born) es).toList:=by
    rw [Array.toList_filter,List.mem_filter]
    exact⟨hx,by rw [hc]; rfl⟩
   have h2:(Array.filter (fun e=>!seen.contains e.born) es).toList=[]:=List.eq_nil_of_length_eq_zero (by rw [Array.length_toList]; exact h0)
   rw [h2] at h1; cases h1
 generalize Array.filter (fun e=>!seen.contains e.born) es=L at hmem hsub hnone ⊢
 have e1:L.filter (fun x=>decide (x.born<since))=L:=Array.filter_eq_self.2 (fun x hx=>by simpa using hmem x (by simpa using hx))
 have e2:L.filter (fun x=>decide (x.born ≥ since))=#[]:=by
  rw [Array.filter_eq_empty_iff]
  intro x hx
  have:=hmem x (by simpa using hx)
  simp
  omega
 simp only [e1,e2,Array.append_empty]
 by_cases h0:L.size=0
 ·left
  refine⟨hnone h0,?_⟩
  have:L=#[]:=Array.eq_empty_of_size_eq_zero h0
  subst this
  simp [choose,Sem.run,Question.forced]
 ·right
  have hne:L.isEmpty=false:=by simp [Array.isEmpty,h0]
  simp only [hne,Bool.false_eq_true,if_false,Array.empty_append,Array.size_map]
  have hch:∃(j:Nat) (w1:World),j<L.size∧(w1=w∨w1=w.drew)∧(choose (Question.mapNext L.size)).run P w=.ok j w1:=by
   by_cases hf:L.size≤1
   ·exact⟨0,w,by omega,.inl rfl,by simp [choose,Sem.run,Question.forced,hf]⟩
   ·exact⟨_,w.drew,Nat.mod_lt _ (by omega),.inr rfl,by
     simp only [choose,Sem.run,Question.forced,decide_eq_true_eq,hf,if_false,Question.cut]
     rfl⟩
  obtain⟨j,w1,hj,hal,hrun⟩:=hch
  have hLj:=hsub L[j] (by simp)
  refine⟨L[j],hLj.1,hLj.2,w1,hal,?_⟩
  have hi1:w1.heap[bi]? = some (.mapIter (some bm) since seen clock):=by
   rcases hal with rfl | rfl
   ·exact hi
   ·exact hi
  have hset:∀(o':Obj),(setObj bi o').run P w1=.ok () { w1 with heap:=w1.heap.setIfInBounds bi o' }:=fun o'=>by simp [setObj,Sem.run,hi1]
  simp only [hrun,Array.getElem?_map,Array.getElem?_eq_getElem hj,Option.map_some,Sem.run_bind,hset,Result.andThen]
  rfl
def nextShape (nt:Nat) (ops:Array Oper):Option (Nat × Nat × Nat):=match ops with
 | ⟨[o0,o1]⟩=>match o0.op,o0.dst,o0.guard,o1.op,o1.dst,o1.guard with
  | .next (.tmp it) false,some t,none,.extract (.tmp t') 0,some b,none=>if Nat.beq t t' && Nat.blt t nt && Nat.blt b nt && !Nat.beq t it && !Nat.beq b it && !Nat.beq b t then some (it,t,b) else none
  | _,_,_,_,_,_=>none
 | _=>none
theorem Zbv (st:St) (k:Nat) (p:PV):(st.put k p).get k=some p:=by simp [St.put,St.get]
def headV (r:PV):PV→Prop
 | .tup (x :: _)=>x=r
 | .sc (.tuple us)=>∃ u,us[0]? = some u∧r=.sc u
 | _=>False
theorem AWP.nextM {id:Nat} {ops:Array Oper} {it t b q i ck:Nat} {es:List Ent} {seen:List Nat} (hsh:nextShape nt ops=some (it,t,b)) (hit:st.get it=some (.ptr q 0)) (hq:H[q]? = some (.iter (some i) ck seen ck)) (hi:H[i]? = some (.map es ck))
  (hlt:∀ x∈es,x.1<ck)
  (over:(∀ x∈es,x.1∈seen)→Q .normal ((st.put t (.sc (.tuple #[.bool false]))).put b (.sc (.bool false))) H)
  (step:∀ x∈es,x.1 ∉ seen→Q .normal ((st.put t (.tup [.sc (.bool true),.sc x.2.1,x.2.2])).put b (.sc (.bool true))) (H.set q (.iter (some i) ck (seen++[x.1]) ck))):AWP P G n0 nt (.region id ops false) Q st H:=by
 unfold nextShape at hsh
 split at hsh
 ·rename_i o0 o1
  split at hsh
  ·rename_i it' t1 t2 b' ho0 hd0 hg0 ho1 hd1 hg1
   split at hsh
   ·rename_i hc
    simp only [Bool.and_eq_true,Bool.not_eq_true'] at hc
    obtain⟨⟨⟨⟨⟨c1,c2⟩,c3⟩,c4⟩,c5⟩,c6⟩:=hc
    have c1:=Nat.eq_of_beq_eq_true c1
    subst c1
    have c2:t1<nt:=Nat.le_of_ble_eq_true c2
    have c3:b'<nt:=Nat.le_of_ble_eq_true c3
    simp only [Option.some.injEq,Prod.mk.injEq] at hsh
    obtain⟨rfl,rfl,rfl⟩:=hsh
    refine AWP.region (l:=[0,1]) rfl ?_
    have rest:∀(p r:PV) (H':List Blk),headV r p→Q .normal ((st.put t1 p).put b' r) H'→AOps P G n0 nt #[o0,o1] [1] Q (st.put t1 p) H':=by
     intro p r H' hp hQ
     have hx:opd G (st.put t1 p) (.tmp t1)=some p:=Zbv st t1 p
     have hop:OpW P G n0 o1 (st.put t1 p) H' r H':=by
      unfold headV at hp
      split at hp
      ·rename_i x xs
       subst hp
       exact(OpT.extract ho1 hx rfl).weak
      ·rename_i us
       obtain⟨u,h1,rfl⟩:=hp
       refine(OpT.value fun c a w β _ hr=>?_:OpT P G n0 o1 _ H' (.sc u) H').weak
       have:=hr.opd hx
       simp only [VR] at this
       exact⟨u,by simp [execOp,ho1,this,Instr.extract,h1,Result.andThen],by simp only [VR]⟩
      ·exact hp.elim
     refine AOps.cons (o:=o1) rfl (by simpa [dstOk,hd1] using c3) (by simp [wantA,hg1]) hop (AOps.nil ?_)
     rw [hd1]; exact hQ
    intro c a w β h0 h1 hr
    have hw:wantA #[o0,o1] st o0=some true:=by simp [wantA,hg0]
    simp only [wpOps,show (#[o0,o1]:Array Oper)[0]? = some o0 from rfl,Za1 hr hw,if_true]
    refine .inl ?_
    have g1:=hr.opd (x:=.tmp it') (p:=.ptr q 0) hit
    simp only [VR] at g1
    obtain⟨e,he,hv⟩:=g1
    obtain⟨mm,h2,_,f,hf,rfl⟩:=hr.blk q e _ he hq
    obtain⟨arr,h3,h4,h5⟩:=hr.blk i f _ hf hi
    have hborn:arr.toList.map (·.born)=es.map (·.1):=by
     have:=congrArg (List.map Prod.fst) h4
     simpa [Function.comp_def] using this
    have hold:∀ x∈arr.toList,x.born<ck:=fun x hx=>by
     have:x.born∈es.map (·.1):=by rw [← hborn]; exact List.mem_map_of_mem hx
     obtain⟨y,hy,hyb⟩:=List.mem_map.1 this
     rw [← hyb]; exact hlt y hy
    have hcon:∀ n,seen.toArray.contains n=true ↔ n∈seen:=fun n=>by simp
    refine Za7 (K:=fun v w'=>∃ β' p r H',RelB G c β' st H' a w'∧VR (stab c β' H' w') β' w' p v∧headV r p∧Q .normal ((st.put t1 p).put b' r) H') ?_ fun v w' ⟨β',p,r,H',k1,k2,k3,k4⟩=>?_
    ·rcases Zfj (P:=P) w o0.type e.b f.b ck seen.toArray arr ck h2 h3 hold (Nat.le_refl _) with ⟨g2,g3⟩ | ⟨m,g2,g3,w1,g4,g5⟩
     ·have hex:(execOp a.eval o0).run P w=.ok (.value (.tuple #[.bool false])) w:=by simp [execOp,ho0,hv,g3]
      simp only [wpv,hex]
      refine⟨β,.sc (.tuple #[.bool false]),.sc (.bool false),H,hr,by simp only [VR],⟨_,rfl,rfl⟩,over fun x hx=>?_⟩
      have:x.1∈arr.toList.map (·.born):=by rw [hborn]; exact List.mem_map_of_mem hx
      obtain⟨y,hy,hyb⟩:=List.mem_map.1 this
      rw [← hyb]; exact(hcon _).1 (g2 y hy)
     ·have hex:(execOp a.eval o0).run P w=.ok (.value (.tuple #[.bool true,m.key,m.val])) { w1 with heap:=w1.heap.setIfInBounds e.b (.mapIter (some f.b) ck (seen.toArray.push m.born) ck) }:=by simp [execOp,ho0,hv,g5]
      simp only [wpv,hex]
      have hr1:RelB G c β st H a w1:=by
       rcases g4 with rfl | rfl
       ·exact hr
       ·exact hr.drew
      have hs1:stab c β H w1=stab c β H w:=by rcases g4 with rfl | rfl <;> rfl
      have h21:w1.heap[e.b]? = some (.mapIter (some f.b) ck seen.toArray ck):=by rcases g4 with rfl | rfl <;> exact h2
      obtain⟨j,hj⟩:=List.mem_iff_getElem?.1 g2
      have hjl:j<es.length:=by
       have:=congrArg List.length h4
       simp only [List.length_map] at this
       have:=(List.getElem?_eq_some_iff.1 hj).1
       omega
      have hje:es[j]? = some es[j]:=by simp [hjl]
      obtain⟨q1,q2⟩:=Zej h4 hj hje
      obtain⟨u,q3,q4⟩:=VRs.get _ _ h5 j es[j].2.2 (by rw [List.getElem?_map,hje]; rfl)
      rw [List.getElem?_map,hj] at q3
      simp only [Option.map_some,Option.some.injEq] at q3
      have gs:=hr1.setM (k':=.iter (some i) ck (seen++[m.born]) ck) he hq rfl rfl (fun h=>by cases h) (.mapIter (some f.b) ck (seen.toArray.push m.born) ck) h21 (fun _ _ _ h=>by cases h)
       (fun S' w' _ hw=>⟨some f.b,by rw [hw]; simp,by obtain⟨_,_,hlt',_⟩:=hr.blk q e _ he hq; exact hlt',f,hf,rfl⟩)
      refine⟨β,.tup [.sc (.bool true),.sc es[j].2.1,es[j].2.2],.sc (.bool true),_,gs.1,?_,rfl,?_⟩
      ·simp only [VR]
       refine⟨_,rfl,?_⟩
       show VRs _ _ _ [.sc (.bool true),.sc es[j].2.1,es[j].2.2] [.bool true,m.key,m.val]
       simp only [VRs,VR,and_true,true_and]
       refine⟨q2,?_⟩
       rw [q3]
       exact VR.ext_all gs.2 (BExt.refl _ _) (by
        rw [hs1]
        rcases g4 with rfl | rfl
        ·exact q4
        ·exact VR.ext_all (Ext.drew w) (BExt.refl _ _) q4)
      ·rw [q1]
       exact step es[j] (by simp) fun hin=>by
        have:=(hcon m.born).2 (by rw [q1]; exact hin)
        rw [g3] at this; cases this
    ·have hput:=k1.put k2 o0.dst (by rw [h1]; exact Zao (by simpa [dstOk,hd0] using c2))
     rw [hd0] at hput ⊢
     exact rest p r H' k3 k4 c _ w' β' h0 h1 hput
   ·cases hsh
  ·cases hsh
 ·cases hsh
def mfold {X σ ε:Type} (B:X→σ→Option (ε ⊕ σ)):List X→σ→Option (ε ⊕ σ)
 | [],s=>some (.inr s)
 | x :: l,s=>(B x s).bind fun o=>match o with
  | .inl e=>some (.inl e)
  | .inr s'=>mfold B l s'
theorem Zgg {X σ ε:Type} {B:X→σ→Option (ε ⊕ σ)} {x:X} {l:List X} {s:σ} (h:(mfold B (x :: l) s).isSome=true):∃ o,B x s=some o:=by
 cases hb:B x s with
 | none=>simp [mfold,hb] at h
 | some o=>exact⟨o,rfl⟩
def keepsE (E E':List (Nat × K × V)) (n:Nat):Prop:=E'=E∨∃ p:Nat × K × V→Bool,E'=E.filter p∧∀ z∈E,z.1 ≠ n→p z=true
def remOf (E:List (Nat × K × V)) (S:List Nat):List (K × V):=(E.filter fun x=>!(S.contains x.1)).map (·.2)
theorem Zdg {E E':List (Nat × K × V)} {S:List Nat} {n:Nat} (h:keepsE E E' n):remOf E' (S++[n])=remOf E (S++[n]):=by
 rcases h with rfl | ⟨p,rfl,hp⟩
 ·rfl
 ·unfold remOf
  rw [List.filter_filter]
  congr 1
  refine List.filter_congr fun z hz=>?_
  by_cases hn:z.1=n
  ·have:(S++[n]).contains z.1=true:=by simp [hn]
   rw [this]; cases p z <;> rfl
  ·rw [hp z hz hn]; simp
theorem Zeb {S:List Nat} {x:Nat × K × V}:∀ {E:List (Nat × K × V)},x∈E→x.1 ∉ S→(E.map (·.1)).Nodup→(remOf E S).Perm (x.2 :: remOf E (S++[x.1]))
 | [],h,_,_=>by cases h
 | y :: E,h,hs,hn=>by
  rw [List.map_cons,List.nodup_cons] at hn
  have same:∀ E:List (Nat × K × V),x.1 ∉ E.map (·.1)→remOf E (S++[x.1])=remOf E S:=fun E hE=>by
   unfold remOf
   congr 1
   refine List.filter_congr fun z hz=>?_
   have hne:z.1 ≠ x.1:=fun e=>hE (by rw [← e]; exact List.mem_map_of_mem hz)
   have:(S++[x.1]).contains z.1=S.contains z.1:=by
    rw [Bool.eq_iff_iff]; simp [hne]
   rw [this]
  rcases List.mem_cons.1 h with rfl | h
  ·have h1:remOf (x :: E) S=x.2 :: remOf E S:=by
    unfold remOf
    rw [List.filter_cons,if_pos (by simpa using hs)]; rfl
   have h2:remOf (x :: E) (S++[x.1])=remOf E (S++[x.1]):=by
    unfold remOf
    rw [List.filter_cons,if_neg (by simp)]
   rw [h1,h2,same E hn.1]
  ·have ih:=Zeb h hs hn.2
   have hne:y.1 ≠ x.1:=fun e=>hn.1 (by rw [e]; exact List.mem_map_of_mem h)
   have hc:(S++[x.1]).contains y.1=S.contains y.1:=by
    rw [Bool.eq_iff_iff]; simp [hne]
   unfold remOf at ih ⊢
   rw [List.filter_cons,List.filter_cons,hc]
   cases S.contains y.1 with
   | true=>simpa using ih
   | false=>
    simp only [Bool.not_false,if_true,List.map_cons]
    exact(ih.cons _).trans (.swap _ _ _)
def roundM {σ ε:Type} (kv:K→Value) (vv:V→Value) (M:σ→List (K × V)) (stf:σ→St) (Hf:σ→Blk→Blk→List Blk) (Qe:ε→Exit→St→List Blk→Prop) (i cl:Nat) (S:List Nat) (E:List (Nat × K × V)) (n:Nat) (o:ε ⊕ σ) (e:Exit) (st:St) (H:List Blk):Prop:=match o with
 | .inl y=>Qe y e st H
 | .inr s=>e=.normal∧∃ E',FmOk kv E' cl (M s)∧keepsE E E' n∧st=stf s∧H=Hf s (.map (E'.map (entT kv vv)) cl) (.iter (some i) cl (S++[n]) cl)
def overM {σ ε:Type} (kv:K→Value) (vv:V→Value) (M:σ→List (K × V)) (stf:σ→St) (Hf:σ→Blk→Blk→List Blk) (Qe:ε→Exit→St→List Blk→Prop) (i cl:Nat) (o:ε ⊕ σ) (e:Exit) (st:St) (H:List Blk):Prop:=match o with
 | .inl y=>Qe y e st H
 | .inr s=>e=.normal∧∃ E' S',FmOk kv E' cl (M s)∧st=stf s∧H=Hf s (.map (E'.map (entT kv vv)) cl) (.iter (some i) cl S' cl)
theorem AWP.rangeM {id r:Nat} {ops:Array Oper} {body:Code} {it t b i q cl:Nat} {σ ε:Type} (B:K × V→σ→Option (ε ⊕ σ)) (M:σ→List (K × V)) (stf:σ→St) (Hf:σ→Blk→Blk→List Blk) (Qe:ε→Exit→St→List Blk→Prop) {L:List (K × V)} {s0:σ} {E0:List (Nat × K × V)}
  (hsh:nextShape nt ops=some (it,t,b)) (hit:∀ s,(stf s).get it=some (.ptr q 0)) (hi:∀ s x y,(Hf s x y)[i]? = some x) (hq:∀ s x y,(Hf s x y)[q]? = some y) (hset:∀ s x y z,(Hf s x y).set q z=Hf s x z)
  (hdr:∀ s p r,((((stf s).put t p).put b r).pick ((stf s).map (·.1)))=stf s)
  (hQe:∀ y e st H,Qe y e st H→e ≠ .normal∧e ≠ .exit id) (hE0:FmOk kv E0 cl L) (hM:M s0=L) (hall:∀ l',l'.Perm L→(mfold B l' s0).isSome=true)
  (round:∀ E S (x:Nat × K × V) s o,B x.2 s=some o→x∈E→FmOk kv E cl (M s)→AWP P G n0 nt body (LeQ G n0 nt (roundM kv vv M stf Hf Qe i cl S E x.1 o)) (stf s) (Hf s (.map (E.map (entT kv vv)) cl) (.iter (some i) cl (S++[x.1]) cl))) :
  AWP P G n0 nt (.block id (.loop (.seq (.region r ops false) (.seq (.cond (.tmp b) .skip (.exit id)) body)))) (fun e st H=>∃ l':List (K × V),l'.Perm L∧∃ o,mfold B l' s0=some o∧overM kv vv M stf Hf Qe i cl o e st H)
   (stf s0) (Hf s0 (.map (E0.map (entT kv vv)) cl) (.iter (some i) cl [] cl)):=by
 refine AWP.bround (fun n st H=>∃(don:List (K × V)) (E:List (Nat × K × V)) (S:List Nat) (s:σ),n=(remOf E S).length∧(don++remOf E S).Perm L∧(∀ l',mfold B (don++l') s0=mfold B l' s)∧FmOk kv E cl (M s)∧st=stf s∧H=Hf s (.map (E.map (entT kv vv)) cl) (.iter (some i) cl S cl)) (remOf E0 []).length
  ⟨[],E0,[],s0,rfl,?_,fun _=>rfl,by rw [hM]; exact hE0,rfl,rfl⟩ ?_
 ·have:remOf E0 []=E0.map (·.2):=by
   unfold remOf
   rw [List.filter_eq_self.2 fun _ _=>by simp]
  rw [List.nil_append,this]
  exact hE0.perm
 ·rintro n st H ⟨don,E,S,s,rfl,hp,hf,hE,rfl,rfl⟩
  refine AWP.seq ?_
  refine AWP.nextM hsh (hit s) (hq _ _ _) (hi _ _ _) (fun x hx=>?_) (fun hover=>?_) (fun x hx hns=>?_)
  ·obtain⟨y,hy,rfl⟩:=List.mem_map.1 hx
   exact hE.lt y hy
  ·refine AWP.seq (AWP.cond (b:=false) (Zbv _ _ _) (fun h=>by cases h) fun _=>AWP.pick (hdr s _ _) (AWP.exit ?_))
   simp only [seqQ,roundQ,Nat.beq_refl]
   have hrem:remOf E S=[]:=by
    unfold remOf
    rw [List.map_eq_nil_iff,List.filter_eq_nil_iff]
    intro y hy
    have:=hover (entT kv vv y) (List.mem_map_of_mem hy)
    simpa [entT] using this
   rw [hrem,List.append_nil] at hp
   have h1:=hf []
   rw [List.append_nil] at h1
   exact⟨don,hp,.inr s,h1,rfl,E,S,hE,rfl,rfl⟩
  ·obtain⟨y,hy,rfl⟩:=List.mem_map.1 hx
   have hstep:=Zeb hy hns hE.nd
   have hp1:(don++y.2 :: remOf E (S++[y.1])).Perm L:=(hstep.symm.append_left don).trans hp
   have h1:=hall _ hp1
   rw [hf] at h1
   obtain⟨o,ho⟩:=Zgg h1
   refine AWP.seq (AWP.cond (b:=true) (Zbv _ _ _) (fun _=>AWP.skip ?_) fun h=>by cases h)
   refine AWP.pick (hdr s _ _) ?_
   rw [hset]
   refine AWP.mid _ (round E S y s o ho hy hE) fun e st H hq=>?_
   unfold roundM at hq
   cases o with
   | inl z=>
    obtain⟨n1,n2⟩:=hQe z e st H hq
    have fin:∃ l':List (K × V),l'.Perm L∧∃ o,mfold B l' s0=some o∧overM kv vv M stf Hf Qe i cl o e st H:=
     ⟨_,hp1,.inl z,by rw [hf,mfold,ho]; rfl,hq⟩
    cases e with
    | normal=>exact absurd rfl n1
    | exit j=>
     simp only [roundQ]
     split
     ·rename_i hj
      exact absurd (by rw [Nat.eq_of_beq_eq_true hj]) n2
     ·exact fin
    | ret=>exact fin
    | goto l=>exact fin
    | panic ch=>exact fin
    | outgrown=>exact fin
   | inr s'=>
    obtain⟨rfl,E',g1,g2,rfl,rfl⟩:=hq
    refine LeQ.of ⟨(remOf E' (S++[y.1])).length,?_,don++[y.2],E',S++[y.1],s',rfl,?_,fun l'=>?_,g1,rfl,rfl⟩
    ·rw [Zdg g2,hstep.length_eq]; simp
    ·rw [Zdg g2,List.append_assoc]; exact hp1
    ·rw [List.append_assoc,hf,List.singleton_append,mfold,ho]; rfl
end
end Go.AM
namespace Go.AM
section
variable {P:Program} {G:Glob} {n0 nt:Nat} {o:Oper} {st:St} {H:List Blk} {Q:Exit→St→List Blk→Prop}
variable {K V:Type} {kv:K→Value} {vv:V→Value} {eqk:K→K→Bool} {kt:TypeId}
open Classical in
noncomputable def allp {X R:Type} (L:List X) (f:List X→Option R):Option R:=if h:∃ r,∀ l',l'.Perm L→f l'=some r then some h.choose else none
theorem allpb {X R:Type} {L:List X} {f:List X→Option R} {r:R} (h:allp L f=some r):∀ l',l'.Perm L→f l'=some r:=by
 unfold allp at h
 split at h
 ·rename_i hx
  simp only [Option.some.injEq] at h
  rw [← h]; exact hx.choose_spec
 ·cases h
theorem Zhb {X R:Type} {L:List X} {f:List X→Option R} {r:R} (h:∀ l',l'.Perm L→f l'=some r):allp L f=some r:=by
 have hx:∃ r,∀ l',l'.Perm L→f l'=some r:=⟨r,h⟩
 unfold allp
 rw [dif_pos hx,← hx.choose_spec L (List.Perm.refl _)]
 exact h L (List.Perm.refl _)
theorem overb {α γ:Type} {x:Option α} {f:α→Option γ} {r:γ} {a:α} (ha:x=some a) (h:x.bind f=some r):f a=some r:=by subst ha; exact h
theorem isb {α γ:Type} {x:Option α} {f:α→Option γ} {r:γ} (h:x.bind f=some r):x.isSome=true:=by
 cases x with
 | none=>cases h
 | some a=>rfl
theorem iteb {γ:Type} {c:Prop} [Decidable c] {a b:Option γ} {r:γ} (h:(if c then a else b)=some r):(c∧a=some r)∨(¬c∧b=some r):=by
 split at h
 ·exact .inl ⟨‹_›,h⟩
 ·exact .inr ⟨‹_›,h⟩
theorem AWP.openM {x:Code} (kv:K→Value) (vv:V→Value) (L:List (K × V)) (i:Nat) (h:∀ E cl,FmOk kv E cl L→AWP P G n0 nt x Q st (H.set i (.map (E.map (entT kv vv)) cl))) (hb:H[i]? = some (.fm (L.map (entF kv vv))):=by kernel_rfl):AWP P G n0 nt x Q st H:=fun c a w β h0 h1 hr=>
 let ⟨E,cl,h2,h3⟩:=hr.openM hb
 h E cl h2 c a w β h0 h1 h3
theorem Le.closeM {i:Nat} {E:List (Nat × K × V)} {cl:Nat} {L:List (K × V)} (hE:FmOk kv E cl L) (hb:H[i]? = some (.map (E.map (entT kv vv)) cl)):Le G n0 nt st H st (H.set i (.fm (L.map (entF kv vv)))):=fun _ _ _ β _ _ hr=>⟨β,hr.closeM hb hE⟩
theorem AWP.closeM {x:Code} (vv:V→Value) {E:List (Nat × K × V)} {cl:Nat} {L:List (K × V)} (i:Nat) (hE:FmOk kv E cl L) (h:AWP P G n0 nt x Q st (H.set i (.fm (L.map (entF kv vv))))) (hb:H[i]? = some (.map (E.map (entT kv vv)) cl):=by kernel_rfl):AWP P G n0 nt x Q st H:=AWP.le (Le.closeM hE hb) h
theorem LeQ.closeM {e:Exit} (vv:V→Value) {E:List (Nat × K × V)} {cl:Nat} {L:List (K × V)} (i:Nat) (hE:FmOk kv E cl L) (h:LeQ G n0 nt Q e st (H.set i (.fm (L.map (entF kv vv))))) (hb:H[i]? = some (.map (E.map (entT kv vv)) cl):=by kernel_rfl):LeQ G n0 nt Q e st H:=LeQ.le (Le.closeM hE hb) h
theorem farN {m:Nat}:([]:List Blk).all (Blk.farOk m)=true:=rfl
theorem farC {m:Nat} {k:Blk} {l:List Blk} (h:Blk.farOk m k=true) (hs:l.all (Blk.farOk m)=true):(k :: l).all (Blk.farOk m)=true:=by
 rw [List.all_cons,h,hs]; rfl
theorem farM {m cl:Nat} {E:List (Nat × K × V)} {l:List Blk} (hs:l.all (Blk.farOk m)=true):(.map (E.map (entT kv vv)) cl :: l).all (Blk.farOk m)=true:=by
 refine farC ?_ hs
 show PV.idss (fun j=>decide (j<m)) ((E.map (entT kv vv)).map (·.2.2))=true
 induction E with
 | nil=>rfl
 | cons x E ih=>simp only [List.map_cons,PV.idss,ih,Bool.and_true]; rfl
def Hnd.ptrNil:Hnd P G where
 run o st H:=match o.op with
  | .binOp op t x y _=>match P.underlying t,opd G st x,opd G st y with
   | some (.pointer _),some (.ptr _ _),some (.sc (.pointer none))=>match op with
    | .eql=>some ⟨.sc (.bool false),H,[],[]⟩
    | .neq=>some ⟨.sc (.bool true),H,[],[]⟩
    | _=>none
   | _,_,_=>none
  | _=>none
 sound:=by
  intro n0 o st H z hr _
  split at hr
  ·rename_i op t x y t' ho
   split at hr
   ·rename_i e i off hu hx hy
    cases op with
    | eql=>simp only [Option.some.injEq] at hr; subst hr; exact(OpT.ptrNil ho hu hx trivial hy).weak
    | neq=>simp only [Option.some.injEq] at hr; subst hr; exact(OpT.ptrNotNil ho hu hx trivial hy).weak
    | _=>cases hr
   ·cases hr
  ·cases hr
def isStr (P:Program) (t:TypeId):Bool:=match P.underlying t with
 | some (.struct _)=>true
 | _=>false
def isInt (P:Program) (t:TypeId):Bool:=match P.underlying t with
 | some (.int _)=>true
 | _=>false
def Value.prim:Value→Bool
 | .bool _=>true
 | .int _ _=>true
 | _=>false
theorem Zcr {v:Value} (h:Value.prim v=true) (n:Nat):Instr.sameBits n v v=true:=by
 unfold Value.prim at h
 split at h
 ·simp [Instr.sameBits]
 ·simp [Instr.sameBits]
 ·cases h
theorem Zb6 (n:Nat):∀(l:List Value),l.all Value.prim=true→(l.zip l).all (fun x=>Instr.sameBits n x.1 x.2)=true
 | [],_=>rfl
 | v :: l,h=>by
  simp only [List.all_cons,Bool.and_eq_true] at h
  simp only [List.zip_cons_cons,List.all_cons,Zcr h.1 n,Zb6 n l h.2,Bool.and_self]
theorem Zfk {l:List Value} (h:l.all Value.prim=true):Instr.sameBits 10000 (.agg ⟨l⟩) (.agg ⟨l⟩)=true:=by
 show Instr.sameBits (9999 + 1) (.agg ⟨l⟩) (.agg ⟨l⟩)=true
 simp only [Instr.sameBits,beq_self_eq_true,Bool.true_and]
 exact Zb6 9999 l h
theorem KeyOk.struct {vs:K→List Value} (h:isStr P kt=true) (chk:∀ a,chkK P 20 kt (.agg ⟨vs a⟩)=true) (cmp:∀ a b,flatEq P 50 kt (.agg ⟨vs a⟩) (.agg ⟨vs b⟩)=some (eqk a b)) (hp:∀ a,(vs a).all Value.prim=true) (eq:∀ a b,eqk a b=true ↔ a=b):KeyOk P kt (fun a=>.agg ⟨vs a⟩) eqk:=by
 refine⟨chk,cmp,?_,fun a=>Zfk (hp a),eq⟩
 unfold isStr at h
 split at h
 ·rename_i fs hf
  exact⟨_,hf,.inl fun _ _=>rfl⟩
 ·cases h
theorem KeyOk.int {k:IntKind} (h:isInt P kt=true) (chk:∀ a,chkK P 20 kt (.int k a)=true) (cmp:∀ a b:Int,flatEq P 50 kt (.int k a) (.int k b)=some (a == b)):KeyOk P kt (fun a:Int=>.int k a) (fun a b=>a == b):=by
 refine⟨chk,cmp,?_,fun a=>Zcr rfl _,fun a b=>by simp⟩
 unfold isInt at h
 split at h
 ·rename_i k' hf
  exact⟨_,hf,.inr fun a b=>by simp [Instr.sameNow]⟩
 ·cases h
theorem roundM.mk {σ ε:Type} {M:σ→List (K × V)} {stf:σ→St} {Hf:σ→Blk→Blk→List Blk} {Qe:ε→Exit→St→List Blk→Prop} {i cl:Nat} {S:List Nat} {E E':List (Nat × K × V)} {n:Nat} {s:σ} {L:List (K × V)} (hE:FmOk kv E' cl L) (hk:keepsE E E' n) (hL:L=M s:=by kernel_rfl)
  (hst:st=stf s:=by kernel_rfl) (hH:H=Hf s (.map (E'.map (entT kv vv)) cl) (.iter (some i) cl (S++[n]) cl):=by kernel_rfl):roundM kv vv M stf Hf Qe i cl S E n (.inr s) .normal st H:=⟨rfl,E',by rw [← hL]; exact hE,hk,hst,hH⟩
theorem roundM.ret {σ ε:Type} {M:σ→List (K × V)} {stf:σ→St} {Hf:σ→Blk→Blk→List Blk} {Qe:ε→Exit→St→List Blk→Prop} {i cl:Nat} {S:List Nat} {E:List (Nat × K × V)} {n:Nat} {y:ε} {e:Exit} (h:Qe y e st H):roundM kv vv M stf Hf Qe i cl S E n (.inl y) e st H:=h
theorem keepsE.del (h:KeyOk P kt kv eqk) {E:List (Nat × K × V)} {cl:Nat} {L:List (K × V)} (hE:FmOk kv E cl L) {x:Nat × K × V} (hx:x∈E):keepsE E (E.filter fun y=>!eqk x.2.1 y.2.1) x.1:=by
 refine .inr ⟨_,rfl,fun z hz hne=>?_⟩
 cases hq:eqk x.2.1 z.2.1 with
 | false=>rfl
 | true=>
  exfalso
  have e1:=(h.eq _ _).1 hq
  obtain⟨i,hi⟩:=List.mem_iff_getElem?.1 hx
  obtain⟨j,hj⟩:=List.mem_iff_getElem?.1 hz
  have hij:i=j:=by
   refine(List.getElem?_inj (by rw [List.length_map,List.length_map]; exact(List.getElem?_eq_some_iff.1 hi).1) hE.keysE).1 ?_
   simp only [List.getElem?_map,hi,hj,Option.map_some,e1]
  subst hij
  rw [hi] at hj
  simp only [Option.some.injEq] at hj
  exact hne (by rw [hj])
theorem AWP.rangeQ {id r:Nat} {ops:Array Oper} {body:Code} {it t b i q cl:Nat} {σ ε:Type} {B:K × V→σ→Option (ε ⊕ σ)} {M:σ→List (K × V)} {stf:σ→St} {Hf:σ→Blk→Blk→List Blk} {Qe:ε→Exit→St→List Blk→Prop} {L:List (K × V)} {si_:σ} {Ei_:List (Nat × K × V)}
  (hsh:nextShape nt ops=some (it,t,b)) (hit:∀ s,(stf s).get it=some (.ptr q 0)) (hi:∀ s x y,(Hf s x y)[i]? = some x) (hq:∀ s x y,(Hf s x y)[q]? = some y) (hset:∀ s x y z,(Hf s x y).set q z=Hf s x z)
  (hdr:∀ s p r,((((stf s).put t p).put b r).pick ((stf s).map (·.1)))=stf s)
  (hQe:∀ y e st H,Qe y e st H→e ≠ .normal∧e ≠ .exit id) (hE0:FmOk kv Ei_ cl L) (hM:M si_=L) (hall:∀ l',l'.Perm L→(mfold B l' si_).isSome=true)
  (hst:st=stf si_) (hH:H=Hf si_ (.map (Ei_.map (entT kv vv)) cl) (.iter (some i) cl [] cl))
  (round:∀ E S (x:Nat × K × V) s o,B x.2 s=some o→x∈E→FmOk kv E cl (M s)→AWP P G n0 nt body (LeQ G n0 nt (roundM kv vv M stf Hf Qe i cl S E x.1 o)) (stf s) (Hf s (.map (E.map (entT kv vv)) cl) (.iter (some i) cl (S++[x.1]) cl)))
  (k:∀ l' o,l'.Perm L→mfold B l' si_=some o→∀ e st H,overM kv vv M stf Hf Qe i cl o e st H→Q e st H) :
  AWP P G n0 nt (.block id (.loop (.seq (.region r ops false) (.seq (.cond (.tmp b) .skip (.exit id)) body)))) Q st H:=by
 subst hst hH
 exact(AWP.rangeM B M stf Hf Qe hsh hit hi hq hset hdr hQe hE0 hM hall round).mono fun e st H ⟨l',hp,o,ho,h⟩=>k l' o hp ho e st H h
def Hnd.callS {f:FuncId} {fn:Func} {args0:List PV} {H0 H1:List Blk} {p1:PV} (hfn:P.funcs[f]? = some fn) (σ:List Nat) (ws:List Ow) (hc:ACall P G f args0 H0 (fun q K=>q=p1∧K=H1)):Hnd P G where
 run o st H:=match o.op with
  | .call cl=>match cl.callee with
   | .value x=>match opd G st x,opdL G st cl.args.toList with
    | some px,some ps=>match wkArgs P H false fn.params.toList ps ws with
     | some (qs,l,r)=>
      if fn.body.isNone=false∧(fn.name == "runtime.NumGoroutine")=false∧σ.Pairwise (·<·)∧H0.all Blk.isCells=true then
       some ⟨p1.ren (renId σ H.length),setAll σ (H1.map (Blk.ren (renId σ H.length))) H,.p px :: .ps qs :: .bs (H0.map (fun k=>some (k.ren (renId σ H.length)))) :: l,
        .p (.sc (.func (.func f) #[] #[])) :: .ps (PV.rens (renId σ H.length) args0) :: .bs (σ.map (H[·]?)) :: r⟩
      else none
     | _=>none
    | _,_=>none
   | _=>none
  | _=>none
 sound:=by
  intro n0 o st H x h he
  suffices hT:OpT P G n0 o st H x.p x.H from hT.weak
  split at h
  ·rename_i cl ho
   split at h
   ·rename_i x hcl
    split at h
    ·rename_i px ps hx hps
     split at h
     ·rename_i qs l r hw
      split at h
      ·rename_i hcond
       obtain⟨c1,c2,c3,c4⟩:=hcond
       simp only [Option.some.injEq] at h
       subst h
       simp only [List.cons.injEq,T.p.injEq,T.ps.injEq,T.bs.injEq] at he
       obtain⟨h1,h2,h3,h4⟩:=he
       subst h1
       exact OpT.call (caps:=[]) ho hcl (.inl ⟨hx,rfl⟩) hfn c1 c2 (Zai _ _ hps) (by rw [List.append_nil]; exact Za0 _ _ _ _ hw h4) h2 c3 c4 h3 hc rfl rfl
      ·cases h
     ·cases h
    ·cases h
   ·cases h
  ·cases h
variable {α:Type}
end
end Go.AM
set_option maxRecDepth 100000
namespace Go.AM
open Go
structure Arr5 (α:Type) where
 x0:α
 x1:α
 x2:α
 x3:α
 x4:α
def Arr5.get {α:Type} (a:Arr5 α) (i:Int):α:=if i=0 then a.x0 else if i=1 then a.x1 else if i=2 then a.x2 else if i=3 then a.x3 else a.x4
def Arr5.set {α:Type} (a:Arr5 α) (i:Int) (v:α):Arr5 α:=if i=0 then { a with x0:=v } else if i=1 then { a with x1:=v } else if i=2 then { a with x2:=v } else if i=3 then { a with x3:=v } else { a with x4:=v }
def Zec (x:(Arr5 Int)):List PV:=[.sc (.int .u32 x.x0),.sc (.int .u32 x.x1),.sc (.int .u32 x.x2),.sc (.int .u32 x.x3),.sc (.int .u32 x.x4)]
structure Zc where
 Src:Int
 Dst:Int
 Proto:Int
 SrcPort:Int
 DstPort:Int
def Zh (x:Zc):List PV:=[.sc (.int .u32 x.Src),.sc (.int .u32 x.Dst),.sc (.int .u8 x.Proto),.sc (.int .u16 x.SrcPort),.sc (.int .u16 x.DstPort)]
def Zbg (x:Zc):List Value:=[.int .u32 x.Src,.int .u32 x.Dst,.int .u8 x.Proto,.int .u16 x.SrcPort,.int .u16 x.DstPort]
def Z1 (x:Zc):PV:=.sc (.agg ⟨Zbg x⟩)
def Zd (x:Zc):Value:=.agg ⟨Zbg x⟩
def Ze (x y:Zc):Bool:=((x.Src == y.Src) && ((x.Dst == y.Dst) && ((x.Proto == y.Proto) && ((x.SrcPort == y.SrcPort) && ((x.DstPort == y.DstPort) && true)))))
def Zi:Zc:=Zc.mk (0:Int) (0:Int) (0:Int) (0:Int) (0:Int)
structure Za where
 Real:Zc
 Sent:Zc
 Delivered:Zc
 From:Int
 To:Int
 Waypoint:Bool
 Class:ByteArray
 State:Int
 Expires:Int
def Zf (x:Za):List PV:=[.sc (.int .u32 x.Real.Src),.sc (.int .u32 x.Real.Dst),.sc (.int .u8 x.Real.Proto),.sc (.int .u16 x.Real.SrcPort),.sc (.int .u16 x.Real.DstPort),.sc (.int .u32 x.Sent.Src),.sc (.int .u32 x.Sent.Dst),.sc (.int .u8 x.Sent.Proto),.sc (.int .u16 x.Sent.SrcPort),.sc (.int .u16 x.Sent.DstPort),.sc (.int .u32 x.Delivered.Src),.sc (.int .u32 x.Delivered.Dst),.sc (.int .u8 x.Delivered.Proto),.sc (.int .u16 x.Delivered.SrcPort),.sc (.int .u16 x.Delivered.DstPort),.sc (.int .i64 x.From),.sc (.int .i64 x.To),.sc (.bool x.Waypoint),.sc (.string x.Class),.sc (.int .i64 x.State),.sc (.int .i64 x.Expires)]
def Zbh (x:Za):List Value:=[.int .u32 x.Real.Src,.int .u32 x.Real.Dst,.int .u8 x.Real.Proto,.int .u16 x.Real.SrcPort,.int .u16 x.Real.DstPort,.int .u32 x.Sent.Src,.int .u32 x.Sent.Dst,.int .u8 x.Sent.Proto,.int .u16 x.Sent.SrcPort,.int .u16 x.Sent.DstPort,.int .u32 x.Delivered.Src,.int .u32 x.Delivered.Dst,.int .u8 x.Delivered.Proto,.int .u16 x.Delivered.SrcPort,.int .u16 x.Delivered.DstPort,.int .i64 x.From,.int .i64 x.To,.bool x.Waypoint,.string x.Class,.int .i64 x.State,.int .i64 x.Expires]
def Z2 (x:Za):PV:=.sc (.agg ⟨Zbh x⟩)
def Zb (x:Za):Value:=.agg ⟨Zbh x⟩
def Zg:Za:=Za.mk Zi Zi Zi (0:Int) (0:Int) false ByteArray.empty (0:Int) (0:Int)
instance:Inhabited Za:=⟨Zg⟩
structure Zfs where
 f_l:(List Int)
 f_i:Int
structure Z9 where
 Lo:Int
 Hi:Int
abbrev ZB:=Arr5 Z9
abbrev ZL:=List (Arr5 Z9)
structure Zhe where
 Match:(Arr5 Z9)
 Addr:Int
 Ports:Z9
def Ze2:(Arr5 Int):=Arr5.mk 4294967295 4294967295 255 65535 65535
abbrev ZI:Int→Int:=IntKind.wrap .i64
end Go.AM
set_option maxRecDepth 100000
namespace Go.AM
open Go
noncomputable section
def Zal:Option Bool:=
 some true
def Zz (a:Int):Option (Int × (List (Zc × Za))):=
 (some (decide (a<(1:Int)))).bind fun b=>
 if (b || (decide (a > (64:Int))))=true then
  none
 else
  some (a,([]:(List (Zc × Za))))
def Zae (b:Int) (a:Int):Option Int:=
 if (IntKind.wrap .u64 a) ≠ 0 then
 some (IntKind.wrap .i64 (Int.tmod (IntKind.wrap .u64 b) (IntKind.wrap .u64 a)))
 else none
def Zm (d:Int):(Zc × Za)→((List (Zc × Za)) × Int)→Option (Empty ⊕ ((List (Zc × Za)) × Int))
 | a,(b,c)=>
  if (decide (a.2.Expires≤d))=true then
   some (.inr ((mdel Ze b a.1),(IntKind.wrap .i64 (c + (1:Int)))))
  else
   some (.inr (b,c))
def Zl (j:Int) (a:(List (Zc × Za))) (b:Int):Option (Int × (List (Zc × Za))):=
 allp a (fun c=>(mfold (Zm b) c (a,(0:Int))).bind fun(d:Empty ⊕ ((List (Zc × Za)) × Int))=>match d with
 | .inl f=>(by cases f)
 | .inr (g,i)=>
   some (i,g))
def Zy (a:Za):Option Int:=
 if (a.Real.Proto != (6:Int))=true then
  some (60:Int)
 else
  if (a.State == (2:Int))=true then
   some (600:Int)
  else
   if (a.State == (3:Int))=true then
    some (10:Int)
   else
    some (30:Int)
def Zu (g:Int) (f:(List (Zc × Za))) (a:Za) (b:Int):Option (List (Zc × Za)):=
 (Zy a).bind fun c=>
 (if (decide (b≤(IntKind.wrap .i64 ((9223372036854775807:Int) - c))))=true then
  some ({ a with Expires:=(IntKind.wrap .i64 (b + c)) }:Za)
 else
  some ({ a with Expires:=(9223372036854775807:Int) }:Za)).bind fun d=>
  some (mput Ze f d.Real d)
def Zaf (a:Int):Option Unit:=
 (some (decide (a<(1:Int)))).bind fun b=>
 if (b || (decide (a > (64:Int))))=true then
  some ()
 else
  none
def Z0 (a:Za):Option Bool:=
 some (a.From != (-1:Int))
def Zk (c:Int) (a:(List (Zc × Za))) (b:Zc) (d:Bool):Option (Za × Int):=
 (some (!d)).bind fun f=>
 (if f=true then
  (some (!(mget Ze a b).isSome)).bind fun g=>
  (if g=true then some true else
   (Z0 ((mget Ze a b).getD Zg)).bind fun i=>
   some (!i)
   ).bind fun j=>
  some j
  else some false).bind fun k=>
 if k=true then
  some ((Za.mk Zi Zi Zi (0:Int) (0:Int) false ByteArray.empty (0:Int) (0:Int)),(16:Int))
 else
  if (mget Ze a b).isSome=true then
   some (((mget Ze a b).getD Zg),(0:Int))
  else
   if (decide ((List.length a:Int) ≥ c))=true then
    some ((Za.mk Zi Zi Zi (0:Int) (0:Int) false ByteArray.empty (0:Int) (0:Int)),(9:Int))
   else
    some ((Za.mk b Zi Zi (-1:Int) (-1:Int) false ByteArray.empty (1:Int) (0:Int)),(0:Int))
def Zs (c:Int) (j:(List (Zc × Za))) (d:Int) (g:Zc) (b:Zc) (k:ByteArray) (l:Bool) (i:Int):Option (Int × (List (Zc × Za))):=
 (Zl c j i).bind fun a=>
 if (decide (d<(0:Int)))=true then
  some ((1:Int),a.2)
 else
  (some ((mget Ze a.2 b).isSome)).bind fun m=>
  (some (m && (((mget Ze a.2 b).getD Zg).From != (-1:Int)))).bind fun n=>
  (if n=true then
   (some (((mget Ze a.2 b).getD Zg).From != d)).bind fun o=>
   some (o || (!(Ze (((mget Ze a.2 b).getD Zg).Sent) g)))
   else some false).bind fun p=>
  if p=true then
   some ((12:Int),a.2)
  else
   (Zk c a.2 b l).bind fun f=>
   if (f.2 != (0:Int))=true then
    some (f.2,a.2)
   else
    (Zu c a.2 ({ ({ ({ f.1 with From:=d }:Za) with Sent:=g }:Za) with Class:=k }:Za) i).bind fun q=>
    some ((0:Int),q)
def Zp (c:Int) (g:(List (Zc × Za))) (b:Zc) (d:Int) (f:Int) (i:Bool):Option (List (Zc × Za)):=
 (Zl c g f).bind fun a=>
 if (!(mget Ze a.2 b).isSome)=true then
  some a.2
 else
  (if ((bAnd .i64 d (4:Int)) != (0:Int))=true then
   some (.inr (mdel Ze a.2 b))
  else
   if ((bAnd .i64 d (1:Int)) != (0:Int))=true then
    some (.inl ({ ((mget Ze a.2 b).getD Zg) with State:=(3:Int) }:Za))
   else
    (some i).bind fun j=>
    if (j && (((mget Ze a.2 b).getD Zg).State == (1:Int)))=true then
     some (.inl ({ ((mget Ze a.2 b).getD Zg) with State:=(2:Int) }:Za))
    else
     some (.inl ((mget Ze a.2 b).getD Zg))).bind fun(k:(Za ⊕ (List (Zc × Za))))=>
  match k with
  | .inl l=>
    (Zu c a.2 l f).bind fun m=>
    some m
  | .inr n=>
    some n
def Zw (a:Int) (b:(List (Zc × Za))) (c:Zc) (d:Int) (f:Int):Option (List (Zc × Za)):=
 (Zp a b c d f true).bind fun g=>
 some g
def Zt (a:Int) (b:(List (Zc × Za))) (c:Zc) (d:Int) (f:Int):Option (List (Zc × Za)):=
 (Zp a b c d f false).bind fun g=>
 some g
def Zq (c:Int) (d:(List (Zc × Za))) (b:Zc) (f:Int):Option (Za × Bool × (List (Zc × Za))):=
 (Zl c d f).bind fun a=>
 some (((mget Ze a.2 b).getD Zg),(mget Ze a.2 b).isSome,a.2)
def Zx (a:Int) (m:Bool) (n:Bool) (b:Int) (o:Int):Option Bool:=
 (some (decide (b<(0:Int)))).bind fun p=>
 if (p || (decide (b > (1099511627776:Int))))=true then
  (Zal).bind fun q=>
  some q
 else
  if (Zz (2:Int)).isSome=true then
   (Zz (2:Int)).bind fun c=>
   (Zs c.1 c.2 (0:Int) (Zc.mk (1:Int) (2:Int) a (0:Int) (0:Int)) (Zc.mk (1:Int) (2:Int) a (0:Int) (0:Int)) ByteArray.empty true b).bind fun d=>
   if (d.1 != (0:Int))=true then
    some false
   else
    (if (a == (6:Int))=true then
     some (30:Int)
    else
     some (60:Int)).bind fun f=>
     (if m=true then
      (Zw c.1 d.2 (Zc.mk (1:Int) (2:Int) a (0:Int) (0:Int)) (0:Int) b).bind fun g=>
      if (a == (6:Int))=true then
       some (g,(600:Int))
      else
       some (g,f)
     else
      some (d.2,f)).bind fun r=>
     match r with
     | (i,j)=>
      (if n=true then
       (Zt c.1 i (Zc.mk (1:Int) (2:Int) a (0:Int) (0:Int)) (1:Int) b).bind fun k=>
       if (a == (6:Int))=true then
        some (k,(10:Int))
       else
        some (k,j)
      else
       some (i,j)).bind fun s=>
      match s with
      | (t,u)=>
       (Zae o (700:Int)).bind fun l=>
       (Zq c.1 t (Zc.mk (1:Int) (2:Int) a (0:Int) (0:Int)) (IntKind.wrap .i64 (b + l))).bind fun v=>
       (some (v.2.1 == (decide (l<u)))).bind fun w=>
       (if w=true then
        (Zal).bind fun x=>
        some x
        else some false).bind fun y=>
       some y
  else
   (Zaf (2:Int)).bind fun _=>
   some false
end
end Go.AM
set_option maxRecDepth 100000
namespace Go.Proofs
end Go.Proofs
namespace Go.AM
open Go Go.Proofs
theorem Zv:KeyOk Tryd.prog 41 Zd Ze:=KeyOk.struct (vs:=Zbg) (by kernel_rfl) (fun _=>by kernel_rfl) (fun _ _=>by kernel_rfl) (fun _=>by kernel_rfl) (fun a b=>⟨fun h=>by cases a; cases b; simpa [Ze] using h,fun h=>by subst h; simp [Ze]⟩)
end Go.AM
set_option maxRecDepth 1000000
namespace Go.AM
open Go Go.Proofs
def glob:Glob:=[(0,Zec Ze2)]
def T0:Tab:=[]
theorem T0_ok:T0.ok Tryd.prog glob:=Tab.nil
def T1:Tab:=(60,[.sc (.agg #[.int .u32 1,.int .u32 2,.int .u8 17,.int .u16 3,.int .u16 4])],.sc (.agg #[.int .u32 1,.int .u32 1,.int .u32 2,.int .u32 2,.int .u32 17,.int .u32 17,.int .u32 3,.int .u32 3,.int .u32 4,.int .u32 4])) :: T0
theorem T1_ok:T1.ok Tryd.prog glob:=Tab.cons T0_ok 100000 (by kernel_rfl)
def T2:Tab:=(39,[.sl 21 [[.sc (.int .u32 1),.sc (.int .u32 2),.sc (.int .u8 17),.sc (.int .u16 3),.sc (.int .u16 4),.sc (.int .u32 0),.sc (.int .u32 0),.sc (.int .u8 0),.sc (.int .u16 0),.sc (.int .u16 0),.sc (.int .u32 1),.sc (.int .u32 2),.sc (.int .u8 17),.sc (.int .u16 3),.sc (.int .u16 4),.sc (.int .i64 (-1)),.sc (.int .i64 1),.sc (.bool false),.sc (.string (ByteArray.mk #[])),.sc (.int .i64 1),.sc (.int .i64 130)]],.sc (.func (.func 40) #[] #[])],.tup []) :: T1
theorem T2_ok:T2.ok Tryd.prog glob:=Tab.cons T1_ok 100000 (by kernel_rfl)
def T3:Tab:=(17,[],.sc (.bool true)) :: T2
theorem T3_ok:T3.ok Tryd.prog glob:=Tab.cons T2_ok 100000 (by kernel_rfl)
end Go.AM
set_option maxRecDepth 100000
namespace Go.AM
open Go Go.Proofs
def Zed (r:Bool):PV→List Blk→Prop:=fun p K=>p=(vb r)∧K=[]
theorem Zb1 (r:Bool) (hF:Zal=some r):ACall Tryd.prog glob 17 [] [] (Zed r):=by
 have hr:=someb hF
 subst hr
 exact(T3_ok _ (List.mem_cons.2 (.inl rfl))).1
def Zc2 (r:(Int × (List (Zc × Za)))):PV→List Blk→Prop:=fun p K=>p=(.tup [(.ptr 1 0),(i64 (0:Int))])∧K=[.fm (List.map (entF Zd Zb) r.2),.cells [(i64 r.1),(.mp 0)]]
theorem Zc3 (a:Int) (r:(Int × (List (Zc × Za)))) (hF:Zz a=some r):ACall Tryd.prog glob 6 [(i64 a)] [] (Zc2 r):=by
 refine ACall.body Tryd.func6 rfl (by kernel_rfl) ?_
 unfold Zz at hF
 refine AWP.seq (AWP.rg0 [] [(0,(i64 a))] (AWP.seq (AWP.seq ?_)))
 obtain⟨c,b,hF⟩:=bindb hF
 replace b:=someb b
 refine AWP.to [(0,(i64 a)),(9,(vb (c || (decide (a > (64:Int))))))] [] ?_ ?_
 ·cases c with
  | false=>
   exact AWP.rgT [(2,.bool b)]
  | true=>
   exact AWP.rgT [(2,.bool b)]
 refine AWP.cif hF (fun d hF=>?_) (fun d hF=>?_)
 ·refine AWP.seq (AWP.rg0 [] [(2,(.sc (.pointer none))),(3,(i64 (2:Int)))] (AWP.ret ?_))
  exact noneb hF
 ·refine AWP.skip (AWP.seq (AWP.rg [(1,.mkM)] [(2,(.ptr 1 0)),(3,(i64 (0:Int)))] [.fm (List.map (entF Zd Zb) ([]:(List (Zc × Za)))),.cells [(i64 a),(.mp 0)]] (AWP.ret ?_)))
  have hr:=someb hF
  subst hr
  exact(FnQ.f0 2 (.inr rfl))
def Zbx (a:Int) (r:(Int × (List (Zc × Za)))):PV→List Blk→Prop:=fun p K=>p=(i64 r.1)∧K=[.fm (List.map (entF Zd Zb) r.2),.cells [(i64 a),(.mp 0)]]
theorem Z7 (d:Int) (g:(List (Zc × Za))) (a:Int) (r:(Int × (List (Zc × Za)))) (hF:Zl d g a=some r):ACall Tryd.prog glob 24 [(.ptr 1 0),(i64 a)] [.fm (List.map (entF Zd Zb) g),.cells [(i64 d),(.mp 0)]] (Zbx d r):=by
 refine ACall.body Tryd.func24 rfl (by kernel_rfl) ?_
 unfold Zl at hF
 refine AWP.seq (AWP.rg0 [] [(0,(.ptr 1 0)),(1,(i64 a))] (AWP.seq (AWP.seq (AWP.rg0 [(1,.ptrNil)] [(0,(.ptr 1 0)),(1,(i64 a)),(9,(vb false))] ?_))))
 refine AWP.cF ?_
 refine AWP.skip (AWP.seq (AWP.rg0 [] [(0,(.ptr 1 0)),(1,(i64 a)),(5,(i64 (0:Int)))] (AWP.seq (AWP.seq ?_))))
 refine AWP.openM Zd Zb g 0 (fun u c w=>?_)
 refine AWP.rg [(4,.rngE)] [(0,(.ptr 1 0)),(1,(i64 a)),(5,(i64 (0:Int))),(14,(.ptr 2 0))] [.map (List.map (entT Zd Zb) u) c,.cells [(i64 d),(.mp 0)],.iter (some 0) c [] c] ?_
 have o:=allpb hF
 clear hF
 refine AWP.kp [0,1,5,14] 3 ?_ (hfar:=(farM (farC (by kernel_rfl) (farC (by kernel_rfl) farN))))
 refine AWP.mid (fun e st H=>∃ m,∃(k:Empty ⊕ ((List (Zc × Za)) × Int)),m.Perm g∧mfold (Zm a) m (g,(0:Int))=some k∧overM Zd Zb (fun(s_:((List (Zc × Za)) × Int))=>s_.1) (fun(s_:((List (Zc × Za)) × Int))=>[(0,(.ptr 1 0)),(1,(i64 a)),(5,(i64 s_.2)),(14,(.ptr 2 0))]) (fun(s_:((List (Zc × Za)) × Int)) (x_ y_:Blk)=>[x_,.cells [(i64 d),(.mp 0)],y_]) (fun(_:Empty) _ _ _=>False) 0 c k e st H) ?_ ?_
 ·refine AWP.rangeQ (it:=14) (t:=15) (b:=16) (i:=0) (q:=2) (cl:=c) (kv:=Zd) (vv:=Zb) (B:=Zm a) (M:=(fun(s_:((List (Zc × Za)) × Int))=>s_.1)) (stf:=(fun(s_:((List (Zc × Za)) × Int))=>[(0,(.ptr 1 0)),(1,(i64 a)),(5,(i64 s_.2)),(14,(.ptr 2 0))])) (Hf:=(fun(s_:((List (Zc × Za)) × Int)) (x_ y_:Blk)=>[x_,.cells [(i64 d),(.mp 0)],y_])) (Qe:=(fun(_:Empty) _ _ _=>False)) (L:=g) (si_:=(g,(0:Int))) (Ei_:=u) (by kernel_rfl) (fun _=>rfl) (fun _ _ _=>rfl) (fun _ _ _=>rfl) (fun _ _ _ _=>rfl) (fun _ _ _=>rfl) (fun y_ _ _ _ _=>(by cases y_)) w rfl (fun l_ h_=>isb (o l_ h_)) rfl rfl ?_ (fun l_ o_ h1_ h2_ e st H h3_=>LeQ.of ⟨l_,o_,h1_,h2_,h3_⟩)
  rintro p n ⟨s,f⟩ ⟨x,j⟩ k hF v l
  rw [Zm] at hF
  show AWP _ _ _ _ _ _ [(0,(.ptr 1 0)),(1,(i64 a)),(5,(i64 j)),(14,(.ptr 2 0))] [.map (List.map (entT Zd Zb) p) c,.cells [(i64 d),(.mp 0)],.iter (some 0) c (n++[s]) c]
  refine AWP.block (AWP.seq (AWP.rg [(0,.entE Zb l n v)] [(0,(.ptr 1 0)),(1,(i64 a)),(5,(i64 j)),(6,(.ptr 3 0)),(7,(.ptr 4 0)),(14,(.ptr 2 0))] [.map (List.map (entT Zd Zb) p) c,.cells [(i64 d),(.mp 0)],.iter (some 0) c (n++[s]) c,.cells (Zh f.1),.cells (Zf f.2)] (AWP.seq (AWP.rg0 [] [(0,(.ptr 1 0)),(1,(i64 a)),(5,(i64 j)),(6,(.ptr 3 0)),(14,(.ptr 2 0)),(23,(vb (decide (f.2.Expires≤a))))] ?_))))
  refine AWP.cif hF (fun z hF=>?_) (fun z hF=>?_)
  ·refine AWP.seq (AWP.dr [(5,.delE Zv Zb l f.1)] 6 [] [5] [] [(0,(.ptr 1 0)),(1,(i64 a)),(5,(i64 j)),(14,(.ptr 2 0))] [.map (List.map (entT Zd Zb) (List.filter (fun y=>!Ze f.1 y.2.1) p)) c,.cells [(i64 d),(.mp 0)],.iter (some 0) c (n++[s]) c,.cells (Zh f.1),.cells (Zf f.2)] (AWP.rg0 [] [(0,(.ptr 1 0)),(1,(i64 a)),(5,(i64 (ZI (j + (1:Int))))),(14,(.ptr 2 0))] (LeQ.start ?_)))
   refine LeQ.pk [0,1,5,14] 3 ?_ (hfar:=(farM (farC (by kernel_rfl) (farC (by kernel_rfl) farN))))
   have hr:=someb hF
   subst hr
   exact roundM.mk ((Zcj (vv:=Zb) Zv l f.1).2) (keepsE.del Zv l v)
  ·refine AWP.skip (LeQ.start ?_)
   refine LeQ.pk [0,1,5,14] 3 ?_ (hfar:=(farM (farC (by kernel_rfl) (farC (by kernel_rfl) farN))))
   have hr:=someb hF
   subst hr
   exact roundM.mk l (.inl rfl)
 ·rintro e st H ⟨m,k,a0,a1,a2⟩
  have hF:=overb a1 (o m a0)
  clear o
  obtain a3 | ⟨x,j⟩:=k
  ·exact (by cases a3)
  ·obtain⟨rfl,a5,a6,a4,rfl,rfl⟩:=a2
   refine AWP.closeM Zb 0 a4 ?_
   refine AWP.seq (AWP.rg0 [] [(4,(i64 j))] (AWP.ret ?_))
   have hr:=someb hF
   subst hr
   exact(FnQ.f0 2 (.inr rfl))
def Zbc (r:Bool):PV→List Blk→Prop:=fun p K=>p=(vb r)∧K=[]
theorem Zbd (a:Za) (r:Bool) (hF:Z0 a=some r):ACall Tryd.prog glob 42 [(Z2 a)] [] (Zbc r):=by
 refine ACall.body Tryd.func42 rfl (by kernel_rfl) ?_
 unfold Z0 at hF
 refine AWP.seq (AWP.rg [] [(1,(.ptr 0 0))] [.cells (Zf a)] (AWP.seq (AWP.rg0 [] [(2,(vb (a.From != (-1:Int))))] (AWP.ret ?_))))
 have hr:=someb hF
 subst hr
 exact(FnQ.f0 0 (.inr rfl))
def Zag (a:Int) (b:(List (Zc × Za))) (r:(Za × Int)):PV→List Blk→Prop:=fun p K=>p=(.tup [(Z2 r.1),(i64 r.2)])∧K=[.fm (List.map (entF Zd Zb) b),.cells [(i64 a),(.mp 0)]]
theorem Zah (c:Int) (a:(List (Zc × Za))) (b:Zc) (i:Bool) (r:(Za × Int)) (hF:Zk c a b i=some r):ACall Tryd.prog glob 29 [(.ptr 1 0),(Z1 b),(vb i),(.sc (.func (.func 42) #[] #[]))] [.fm (List.map (entF Zd Zb) a),.cells [(i64 c),(.mp 0)]] (Zag c a r):=by
 refine ACall.body Tryd.func29 rfl (by kernel_rfl) ?_
 unfold Zk at hF
 refine AWP.seq (AWP.rg [] [(0,(.ptr 1 0)),(2,(vb i)),(3,(.sc (.func (.func 42) #[] #[]))),(5,(.ptr 2 0)),(8,(.ptr 3 0))] [.fm (List.map (entF Zd Zb) a),.cells [(i64 c),(.mp 0)],.cells (Zh b),.cells (Zf Zg)] (AWP.seq (AWP.dr [(5,.lookM Zv Zb Zg a b)] 11 [] [9,10] [] [(0,(.ptr 1 0)),(2,(vb i)),(3,(.sc (.func (.func 42) #[] #[]))),(5,(.ptr 2 0)),(8,(.ptr 3 0)),(10,(.ptr 4 0)),(11,(vb (mget Ze a b).isSome))] [.fm (List.map (entF Zd Zb) a),.cells [(i64 c),(.mp 0)],.cells (Zh b),.cells (Zf Zg),.cells (Zf ((mget Ze a b).getD Zg))] (AWP.seq (AWP.block (AWP.seq ?_))))))
 obtain⟨m,f,hF⟩:=bindb hF
 replace f:=someb f
 obtain⟨n,k,hF⟩:=bindb hF
 refine AWP.to [(0,(.ptr 1 0)),(5,(.ptr 2 0)),(8,(.ptr 3 0)),(10,(.ptr 4 0)),(11,(vb (mget Ze a b).isSome)),(21,(vb n))] [.fm (List.map (entF Zd Zb) a),.cells [(i64 c),(.mp 0)],.cells (Zh b),.cells (Zf Zg),.cells (Zf ((mget Ze a b).getD Zg))] ?_ ?_
 ·cases m with
  | false=>
   have o:=someb (ifF k rfl)
   subst o
   exact AWP.rgT [(2,.bool f)]
  | true=>
   have d:=ifT k rfl
   obtain⟨p,j,d⟩:=bindb d
   replace j:=someb j
   obtain⟨x,l,d⟩:=bindb d
   replace d:=someb d
   subst d
   cases p with
   | false=>
    have g:=ifF l rfl
    obtain⟨q,s,g⟩:=bindb g
    replace g:=someb g
    subst g
    exact AWP.rgT [(2,.bool f),(5,.bool j),(8,.call Tryd.func42 [] (Zbd ((mget Ze a b).getD Zg) q s))]
   | true=>
    have t:=someb (ifT l rfl)
    subst t
    exact AWP.rgT [(2,.bool f),(5,.bool j)]
 refine AWP.cif hF (fun u hF=>?_) (fun u hF=>?_)
 ·refine AWP.seq (AWP.rg [] [(8,(.ptr 3 0)),(9,(i64 (16:Int)))] [.fm (List.map (entF Zd Zb) a),.cells [(i64 c),(.mp 0)],.cells (Zh b),.cells (Zf (Za.mk Zi Zi Zi (0:Int) (0:Int) false ByteArray.empty (0:Int) (0:Int))),.cells (Zf ((mget Ze a b).getD Zg))] (AWP.ret ?_))
  have hr:=someb hF
  subst hr
  exact(FnQ.f0 2 (.inr rfl))
 ·refine AWP.seq (AWP.rg0 [] [(0,(.ptr 1 0)),(5,(.ptr 2 0)),(8,(.ptr 3 0)),(10,(.ptr 4 0)),(35,(vb (mget Ze a b).isSome))] ?_)
  refine AWP.cif hF (fun v hF=>?_) (fun v hF=>?_)
  ·refine AWP.seq (AWP.rg [] [(8,(.ptr 3 0)),(9,(i64 (0:Int)))] [.fm (List.map (entF Zd Zb) a),.cells [(i64 c),(.mp 0)],.cells (Zh b),.cells (Zf ((mget Ze a b).getD Zg)),.cells (Zf ((mget Ze a b).getD Zg))] (AWP.ret ?_))
   have hr:=someb hF
   subst hr
   exact(FnQ.f0 2 (.inr rfl))
  ·refine AWP.seq (AWP.dr [(4,.lenM Zd Zb a)] 11 [] [] [] [(5,(.ptr 2 0)),(8,(.ptr 3 0)),(38,(vb (decide ((List.length a:Int) ≥ c))))] [.fm (List.map (entF Zd Zb) a),.cells [(i64 c),(.mp 0)],.cells (Zh b),.cells (Zf Zg),.cells (Zf ((mget Ze a b).getD Zg))] ?_)
   refine AWP.cif hF (fun w hF=>?_) (fun w hF=>?_)
   ·refine AWP.seq (AWP.rg [] [(8,(.ptr 3 0)),(9,(i64 (9:Int)))] [.fm (List.map (entF Zd Zb) a),.cells [(i64 c),(.mp 0)],.cells (Zh b),.cells (Zf (Za.mk Zi Zi Zi (0:Int) (0:Int) false ByteArray.empty (0:Int) (0:Int))),.cells (Zf ((mget Ze a b).getD Zg))] (AWP.ret ?_))
    have hr:=someb hF
    subst hr
    exact(FnQ.f0 2 (.inr rfl))
   ·refine AWP.skip (AWP.seq (AWP.rg [] [(8,(.ptr 3 0)),(9,(i64 (0:Int)))] [.fm (List.map (entF Zd Zb) a),.cells [(i64 c),(.mp 0)],.cells (Zh b),.cells (Zf (Za.mk b Zi Zi (-1:Int) (-1:Int) false ByteArray.empty (1:Int) (0:Int))),.cells (Zf ((mget Ze a b).getD Zg))] (AWP.ret ?_)))
    have hr:=someb hF
    subst hr
    exact(FnQ.f0 2 (.inr rfl))
def Zck (r:Int):PV→List Blk→Prop:=fun p K=>p=(i64 r)∧K=[]
theorem Zcl (a:Za) (r:Int) (hF:Zy a=some r):ACall Tryd.prog glob 49 [(Z2 a)] [] (Zck r):=by
 refine ACall.body Tryd.func49 rfl (by kernel_rfl) ?_
 unfold Zy at hF
 refine AWP.seq (AWP.rg [] [(1,(.ptr 0 0))] [.cells (Zf a)] (AWP.seq (AWP.seq (AWP.rg0 [] [(1,(.ptr 0 0)),(6,(vb (a.Real.Proto != (6:Int))))] ?_))))
 refine AWP.cif hF (fun b hF=>?_) (fun b hF=>?_)
 ·refine AWP.seq (AWP.rg0 [] [(2,(i64 (60:Int)))] (AWP.ret ?_))
  have hr:=someb hF
  subst hr
  exact(FnQ.f0 0 (.inr rfl))
 ·refine AWP.skip (AWP.seq (AWP.seq (AWP.rg0 [] [(8,(i64 a.State))] (AWP.block (AWP.seq (AWP.rg0 [] [(8,(i64 a.State)),(9,(vb (a.State == (2:Int))))] ?_))))))
  refine AWP.cif hF (fun c hF=>?_) (fun c hF=>?_)
  ·refine AWP.seq (AWP.rg0 [] [(2,(i64 (600:Int)))] (AWP.ret ?_))
   have hr:=someb hF
   subst hr
   exact(FnQ.f0 0 (.inr rfl))
  ·refine AWP.seq (AWP.rg0 [] [(11,(vb (a.State == (3:Int))))] ?_)
   refine AWP.cif hF (fun d hF=>?_) (fun d hF=>?_)
   ·refine AWP.seq (AWP.rg0 [] [(2,(i64 (10:Int)))] (AWP.ret ?_))
    have hr:=someb hF
    subst hr
    exact(FnQ.f0 0 (.inr rfl))
   ·refine AWP.skip (AWP.seq (AWP.rg0 [] [(2,(i64 (30:Int)))] (AWP.ret ?_)))
    have hr:=someb hF
    subst hr
    exact(FnQ.f0 0 (.inr rfl))
def Zb7 (a:Int) (r:(List (Zc × Za))):PV→List Blk→Prop:=fun p K=>p=(.tup [])∧K=[.fm (List.map (entF Zd Zb) r),.cells [(i64 a),(.mp 0)]]
theorem Zay (a:Int) (b:(List (Zc × Za))) (d:Za) (c:Int) (r:(List (Zc × Za))) (hF:Zu a b d c=some r):ACall Tryd.prog glob 32 [(.ptr 1 0),(Z2 d),(i64 c)] [.fm (List.map (entF Zd Zb) b),.cells [(i64 a),(.mp 0)]] (Zb7 a r):=by
 refine ACall.body Tryd.func32 rfl (by kernel_rfl) ?_
 unfold Zu at hF
 refine AWP.seq (AWP.rg [] [(0,(.ptr 1 0)),(2,(i64 c)),(4,(.ptr 2 0))] [.fm (List.map (entF Zd Zb) b),.cells [(i64 a),(.mp 0)],.cells (Zf d)] (AWP.seq ?_))
 obtain⟨f,i,hF⟩:=bindb hF
 refine AWP.rg0 [(1,.call Tryd.func49 [] (Zcl d f i))] [(0,(.ptr 1 0)),(2,(i64 c)),(4,(.ptr 2 0)),(6,(i64 f))] (AWP.seq (AWP.rg [] [(0,(.ptr 1 0)),(2,(i64 c)),(4,(.ptr 2 0)),(6,(i64 f))] [.fm (List.map (entF Zd Zb) b),.cells [(i64 a),(.mp 0)],.cells (Zf ({ d with Expires:=(9223372036854775807:Int) }:Za))] ?_))
 obtain⟨g,j,hF⟩:=bindb hF
 refine AWP.seq ?_
 refine AWP.mid (fun e st H=>e=.normal∧st=[(0,(.ptr 1 0)),(4,(.ptr 2 0))]∧H=[.fm (List.map (entF Zd Zb) b),.cells [(i64 a),(.mp 0)],.cells (Zf g)]) ?_ ?_
 ·clear hF
  have hF:=j
  refine AWP.seq (AWP.rg0 [] [(0,(.ptr 1 0)),(2,(i64 c)),(4,(.ptr 2 0)),(6,(i64 f)),(13,(vb (decide (c≤(ZI ((9223372036854775807:Int) - f))))))] ?_)
  refine AWP.cif hF (fun k hF=>?_) (fun k hF=>?_)
  ·refine AWP.rg [] [(0,(.ptr 1 0)),(4,(.ptr 2 0))] [.fm (List.map (entF Zd Zb) b),.cells [(i64 a),(.mp 0)],.cells (Zf ({ d with Expires:=(ZI (c + f)) }:Za))] (LeQ.start (LeQ.pk [0,4] 3 ?_))
   have hr:=someb hF
   subst hr
   exact⟨rfl,by kernel_rfl,by kernel_rfl⟩
  ·refine AWP.skip (LeQ.start (LeQ.pk [0,4] 3 ?_))
   have hr:=someb hF
   subst hr
   exact⟨rfl,by kernel_rfl,by kernel_rfl⟩
 ·rintro _ _ _ ⟨rfl,rfl,rfl⟩
  refine AWP.dr [(7,.putM Zv Zb b g.Real g)] 7 [] [] [] [] [.fm (List.map (entF Zd Zb) (mput Ze b g.Real g)),.cells [(i64 a),(.mp 0)],.cells (Zf g)] ?_
  have hr:=someb hF
  subst hr
  exact(FnQ.f0 2 (.inl rfl))
def Zbj (a:Int) (r:(Int × (List (Zc × Za)))):PV→List Blk→Prop:=fun p K=>p=(i64 r.1)∧K=[.fm (List.map (entF Zd Zb) r.2),.cells [(i64 a),(.mp 0)]]
theorem Zbk (d:Int) (o:(List (Zc × Za))) (c:Int) (i:Zc) (a:Zc) (f:ByteArray) (j:Bool) (g:Int) (r:(Int × (List (Zc × Za)))) (hF:Zs d o c i a f j g=some r):ACall Tryd.prog glob 18 [(.ptr 1 0),(i64 c),(Z1 i),(Z1 a),(vstr f),(vb j),(i64 g)] [.fm (List.map (entF Zd Zb) o),.cells [(i64 d),(.mp 0)]] (Zbj d r):=by
 refine ACall.body Tryd.func18 rfl (by kernel_rfl) ?_
 unfold Zs at hF
 refine AWP.seq (AWP.rg [] [(0,(.ptr 1 0)),(1,(i64 c)),(4,(vstr f)),(5,(vb j)),(6,(i64 g)),(9,(.ptr 2 0)),(10,(.ptr 3 0))] [.fm (List.map (entF Zd Zb) o),.cells [(i64 d),(.mp 0)],.cells (Zh i),.cells (Zh a)] (AWP.seq (AWP.seq (AWP.rg0 [(1,.ptrNil)] [(0,(.ptr 1 0)),(1,(i64 c)),(4,(vstr f)),(5,(vb j)),(6,(i64 g)),(9,(.ptr 2 0)),(10,(.ptr 3 0)),(20,(vb false))] ?_))))
 refine AWP.cF ?_
 refine AWP.skip (AWP.seq ?_)
 obtain⟨b,t,hF⟩:=bindb hF
 refine AWP.rg [(2,.callS Tryd.func24 [0,1] [] (Z7 d o g b t))] [(0,(.ptr 1 0)),(1,(i64 c)),(4,(vstr f)),(5,(vb j)),(6,(i64 g)),(9,(.ptr 2 0)),(10,(.ptr 3 0))] [.fm (List.map (entF Zd Zb) b.2),.cells [(i64 d),(.mp 0)],.cells (Zh i),.cells (Zh a)] (AWP.seq (AWP.seq (AWP.rg0 [] [(0,(.ptr 1 0)),(1,(i64 c)),(4,(vstr f)),(5,(vb j)),(6,(i64 g)),(9,(.ptr 2 0)),(10,(.ptr 3 0)),(25,(vb (decide (c<(0:Int)))))] ?_)))
 refine AWP.cif hF (fun u hF=>?_) (fun u hF=>?_)
 ·refine AWP.seq (AWP.rg0 [] [(14,(i64 (1:Int)))] (AWP.ret ?_))
  have hr:=someb hF
  subst hr
  exact(FnQ.f0 2 (.inr rfl))
 ·refine AWP.skip (AWP.seq (AWP.seq (AWP.dr [(5,.lookM Zv Zb Zg b.2 a)] 11 [] [9,10] [] [(0,(.ptr 1 0)),(1,(i64 c)),(4,(vstr f)),(5,(vb j)),(6,(i64 g)),(9,(.ptr 2 0)),(10,(.ptr 3 0)),(15,(.ptr 4 0)),(16,(vb (mget Ze b.2 a).isSome))] [.fm (List.map (entF Zd Zb) b.2),.cells [(i64 d),(.mp 0)],.cells (Zh i),.cells (Zh a),.cells (Zf ((mget Ze b.2 a).getD Zg))] (AWP.seq ?_))))
  obtain⟨v,l,hF⟩:=bindb hF
  replace l:=someb l
  obtain⟨w,m,hF⟩:=bindb hF
  replace m:=someb m
  obtain⟨x,q,hF⟩:=bindb hF
  refine AWP.to [(0,(.ptr 1 0)),(1,(i64 c)),(4,(vstr f)),(5,(vb j)),(6,(i64 g)),(9,(.ptr 2 0)),(10,(.ptr 3 0)),(52,(vb x))] [.fm (List.map (entF Zd Zb) b.2),.cells [(i64 d),(.mp 0)],.cells (Zh i),.cells (Zh a),.cells (Zf ((mget Ze b.2 a).getD Zg))] ?_ ?_
  ·cases v with
   | false=>
    subst m
    have y:=someb (ifF q rfl)
    subst y
    exact AWP.rgT [(1,.bool l)]
   | true=>
    cases w with
    | false=>
     have z:=someb (ifF q rfl)
     subst z
     exact AWP.rgT [(1,.bool l),(6,.bool m)]
    | true=>
     have n:=ifT q rfl
     obtain⟨a0,p,n⟩:=bindb n
     replace p:=someb p
     replace n:=someb n
     subst n
     cases a0 with
     | false=>
      exact AWP.rgT [(1,.bool l),(6,.bool m),(11,.bool p)]
     | true=>
      exact AWP.rgT [(1,.bool l),(6,.bool m),(11,.bool p)]
  refine AWP.cif hF (fun a1 hF=>?_) (fun a1 hF=>?_)
  ·refine AWP.seq (AWP.rg0 [] [(14,(i64 (12:Int)))] (AWP.ret ?_))
   have hr:=someb hF
   subst hr
   exact(FnQ.f0 2 (.inr rfl))
  ·refine AWP.skip (AWP.seq ?_)
   obtain⟨k,a2,hF⟩:=bindb hF
   refine AWP.rg [(3,.callS Tryd.func29 [0,1] [] (Zah d b.2 a j k a2))] [(0,(.ptr 1 0)),(1,(i64 c)),(4,(vstr f)),(6,(i64 g)),(9,(.ptr 2 0)),(17,(.ptr 5 0)),(18,(i64 k.2))] [.fm (List.map (entF Zd Zb) b.2),.cells [(i64 d),(.mp 0)],.cells (Zh i),.cells (Zh a),.cells (Zf ((mget Ze b.2 a).getD Zg)),.cells (Zf k.1)] (AWP.seq (AWP.seq (AWP.rg0 [] [(0,(.ptr 1 0)),(1,(i64 c)),(4,(vstr f)),(6,(i64 g)),(9,(.ptr 2 0)),(17,(.ptr 5 0)),(18,(i64 k.2)),(61,(vb (k.2 != (0:Int))))] ?_)))
   refine AWP.cif hF (fun a3 hF=>?_) (fun a3 hF=>?_)
   ·refine AWP.seq (AWP.rg0 [] [(14,(i64 k.2))] (AWP.ret ?_))
    have hr:=someb hF
    subst hr
    exact(FnQ.f0 2 (.inr rfl))
   ·refine AWP.skip (AWP.seq (AWP.dr [] 7 [] [4,6] [] [(0,(.ptr 1 0)),(6,(i64 g)),(17,(.ptr 5 0))] [.fm (List.map (entF Zd Zb) b.2),.cells [(i64 d),(.mp 0)],.cells (Zh i),.cells (Zh a),.cells (Zf ((mget Ze b.2 a).getD Zg)),.cells (Zf ({ ({ ({ k.1 with From:=c }:Za) with Sent:=i }:Za) with Class:=f }:Za))] (AWP.seq ?_)))
    obtain⟨s,a4,hF⟩:=bindb hF
    refine AWP.rg [(3,.callS Tryd.func32 [0,1] [] (Zay d b.2 ({ ({ ({ k.1 with From:=c }:Za) with Sent:=i }:Za) with Class:=f }:Za) g s a4))] [] [.fm (List.map (entF Zd Zb) s),.cells [(i64 d),(.mp 0)],.cells (Zh i),.cells (Zh a),.cells (Zf ((mget Ze b.2 a).getD Zg)),.cells (Zf ({ ({ ({ k.1 with From:=c }:Za) with Sent:=i }:Za) with Class:=f }:Za))] (AWP.seq (AWP.rg0 [] [(14,(i64 (0:Int)))] (AWP.ret ?_)))
    have hr:=someb hF
    subst hr
    exact(FnQ.f0 2 (.inr rfl))
def Zam (a:Int) (r:(List (Zc × Za))):PV→List Blk→Prop:=fun p K=>p=(.tup [])∧K=[.fm (List.map (entF Zd Zb) r),.cells [(i64 a),(.mp 0)]]
abbrev Zbw (a:Int) (r:(List (Zc × Za))):Exit→St→List Blk→Prop:=FnQ Tryd.prog Tryd.f43.results 2 (Zam a r)
theorem Zan (c:Int) (j:(List (Zc × Za))) (a:Zc) (f:Int) (d:Int) (g:Bool) (r:(List (Zc × Za))) (hF:Zp c j a f d g=some r):ACall Tryd.prog glob 43 [(.ptr 1 0),(Z1 a),(i64 f),(i64 d),(vb g)] [.fm (List.map (entF Zd Zb) j),.cells [(i64 c),(.mp 0)]] (Zam c r):=by
 refine ACall.body Tryd.func43 rfl (by kernel_rfl) ?_
 unfold Zp at hF
 refine AWP.seq (AWP.rg [] [(0,(.ptr 1 0)),(2,(i64 f)),(3,(i64 d)),(4,(vb g)),(6,(.ptr 2 0))] [.fm (List.map (entF Zd Zb) j),.cells [(i64 c),(.mp 0)],.cells (Zh a)] (AWP.seq (AWP.seq (AWP.rg0 [(1,.ptrNil)] [(0,(.ptr 1 0)),(2,(i64 f)),(3,(i64 d)),(4,(vb g)),(6,(.ptr 2 0)),(13,(vb false))] ?_))))
 refine AWP.cF ?_
 refine AWP.skip (AWP.seq ?_)
 obtain⟨b,o,hF⟩:=bindb hF
 refine AWP.rg [(2,.callS Tryd.func24 [0,1] [] (Z7 c j d b o))] [(0,(.ptr 1 0)),(2,(i64 f)),(3,(i64 d)),(4,(vb g)),(6,(.ptr 2 0))] [.fm (List.map (entF Zd Zb) b.2),.cells [(i64 c),(.mp 0)],.cells (Zh a)] (AWP.seq (AWP.dr [(5,.lookM Zv Zb Zg b.2 a)] 11 [] [9,10] [] [(0,(.ptr 1 0)),(2,(i64 f)),(3,(i64 d)),(4,(vb g)),(6,(.ptr 2 0)),(10,(.ptr 3 0)),(11,(vb (mget Ze b.2 a).isSome))] [.fm (List.map (entF Zd Zb) b.2),.cells [(i64 c),(.mp 0)],.cells (Zh a),.cells (Zf ((mget Ze b.2 a).getD Zg))] (AWP.seq (AWP.seq (AWP.rg0 [] [(0,(.ptr 1 0)),(2,(i64 f)),(3,(i64 d)),(4,(vb g)),(6,(.ptr 2 0)),(10,(.ptr 3 0)),(27,(vb (!(mget Ze b.2 a).isSome)))] ?_)))))
 refine AWP.cif hF (fun p hF=>?_) (fun p hF=>?_)
 ·refine AWP.ret ?_
  have hr:=someb hF
  subst hr
  exact(FnQ.f0 2 (.inr rfl))
 ·refine AWP.skip ?_
  obtain⟨l,q,hF⟩:=bindb hF
  refine AWP.seq ?_
  refine AWP.mid (fun e st H=>(e=.normal∧∃ i,l=(.inl i)∧st=[(0,(.ptr 1 0)),(3,(i64 d)),(10,(.ptr 3 0))]∧H=[.fm (List.map (entF Zd Zb) b.2),.cells [(i64 c),(.mp 0)],.cells (Zh a),.cells (Zf i)])∨(e=.ret∧∃ r,l=(.inr r)∧Zbw c r e st H)) ?_ ?_
  ·clear hF
   have hF:=q
   refine AWP.block (AWP.seq (AWP.rg0 [] [(0,(.ptr 1 0)),(2,(i64 f)),(3,(i64 d)),(4,(vb g)),(6,(.ptr 2 0)),(10,(.ptr 3 0)),(28,(vb ((bAnd .i64 f (4:Int)) != (0:Int))))] ?_))
   refine AWP.cif hF (fun s hF=>?_) (fun s hF=>?_)
   ·refine AWP.seq (AWP.dr [(5,.delM Zv Zb b.2 a)] 6 [] [5] [] [] [.fm (List.map (entF Zd Zb) (mdel Ze b.2 a)),.cells [(i64 c),(.mp 0)],.cells (Zh a),.cells (Zf ((mget Ze b.2 a).getD Zg))] (AWP.ret ?_))
    exact LeQ.of (.inr ⟨rfl,(mdel Ze b.2 a),(someb hF).symm,(FnQ.f0 2 (.inr rfl))⟩)
   ·refine AWP.seq (AWP.rg0 [] [(0,(.ptr 1 0)),(3,(i64 d)),(4,(vb g)),(10,(.ptr 3 0)),(37,(vb ((bAnd .i64 f (1:Int)) != (0:Int))))] ?_)
    refine AWP.cif hF (fun t hF=>?_) (fun t hF=>?_)
    ·refine AWP.rg [] [(0,(.ptr 1 0)),(3,(i64 d)),(10,(.ptr 3 0))] [.fm (List.map (entF Zd Zb) b.2),.cells [(i64 c),(.mp 0)],.cells (Zh a),.cells (Zf ({ ((mget Ze b.2 a).getD Zg) with State:=(3:Int) }:Za))] (LeQ.start (LeQ.pk [0,3,10] 4 ?_))
     exact(.inl ⟨rfl,({ ((mget Ze b.2 a).getD Zg) with State:=(3:Int) }:Za),(someb hF).symm,by kernel_rfl,by kernel_rfl⟩)
    ·refine AWP.seq ?_
     obtain⟨m,k,hF⟩:=bindb hF
     replace k:=someb k
     refine AWP.to [(0,(.ptr 1 0)),(3,(i64 d)),(10,(.ptr 3 0)),(42,(vb (m && (((mget Ze b.2 a).getD Zg).State == (1:Int)))))] [.fm (List.map (entF Zd Zb) b.2),.cells [(i64 c),(.mp 0)],.cells (Zh a),.cells (Zf ((mget Ze b.2 a).getD Zg))] ?_ ?_
     ·cases m with
      | false=>
       exact AWP.rgT [(1,.bool k)]
      | true=>
       exact AWP.rgT [(1,.bool k)]
     refine AWP.cif hF (fun u hF=>?_) (fun u hF=>?_)
     ·refine AWP.rg [] [(0,(.ptr 1 0)),(3,(i64 d)),(10,(.ptr 3 0))] [.fm (List.map (entF Zd Zb) b.2),.cells [(i64 c),(.mp 0)],.cells (Zh a),.cells (Zf ({ ((mget Ze b.2 a).getD Zg) with State:=(2:Int) }:Za))] (LeQ.start (LeQ.pk [0,3,10] 4 ?_))
      exact(.inl ⟨rfl,({ ((mget Ze b.2 a).getD Zg) with State:=(2:Int) }:Za),(someb hF).symm,by kernel_rfl,by kernel_rfl⟩)
     ·refine AWP.skip (LeQ.start (LeQ.pk [0,3,10] 4 ?_))
      exact(.inl ⟨rfl,((mget Ze b.2 a).getD Zg),(someb hF).symm,by kernel_rfl,by kernel_rfl⟩)
  ·rintro _ _ _ (⟨rfl,i,rfl,rfl,rfl⟩ | ⟨rfl,w,rfl,hq⟩)
   ·obtain⟨n,v,hF⟩:=bindb hF
    refine AWP.rg [(3,.callS Tryd.func32 [0,1] [] (Zay c b.2 i d n v))] [] [.fm (List.map (entF Zd Zb) n),.cells [(i64 c),(.mp 0)],.cells (Zh a),.cells (Zf i)] ?_
    have hr:=someb hF
    subst hr
    exact(FnQ.f0 2 (.inl rfl))
   ·have hr:=someb hF
    subst hr
    exact hq
def Zby (a:Int) (r:(List (Zc × Za))):PV→List Blk→Prop:=fun p K=>p=(.tup [])∧K=[.fm (List.map (entF Zd Zb) r),.cells [(i64 a),(.mp 0)]]
theorem Zbz (a:Int) (c:(List (Zc × Za))) (b:Zc) (d:Int) (f:Int) (r:(List (Zc × Za))) (hF:Zw a c b d f=some r):ACall Tryd.prog glob 19 [(.ptr 1 0),(Z1 b),(i64 d),(i64 f)] [.fm (List.map (entF Zd Zb) c),.cells [(i64 a),(.mp 0)]] (Zby a r):=by
 refine ACall.body Tryd.func19 rfl (by kernel_rfl) ?_
 unfold Zw at hF
 refine AWP.seq (AWP.rg [] [(0,(.ptr 1 0)),(2,(i64 d)),(3,(i64 f)),(5,(.ptr 2 0))] [.fm (List.map (entF Zd Zb) c),.cells [(i64 a),(.mp 0)],.cells (Zh b)] ?_)
 obtain⟨g,i,hF⟩:=bindb hF
 refine AWP.rg [(4,.callS Tryd.func43 [0,1] [] (Zan a c b d f true g i))] [] [.fm (List.map (entF Zd Zb) g),.cells [(i64 a),(.mp 0)],.cells (Zh b)] ?_
 have hr:=someb hF
 subst hr
 exact(FnQ.f0 2 (.inl rfl))
def Zbl (a:Int) (r:(List (Zc × Za))):PV→List Blk→Prop:=fun p K=>p=(.tup [])∧K=[.fm (List.map (entF Zd Zb) r),.cells [(i64 a),(.mp 0)]]
theorem Zbm (a:Int) (c:(List (Zc × Za))) (b:Zc) (d:Int) (f:Int) (r:(List (Zc × Za))) (hF:Zt a c b d f=some r):ACall Tryd.prog glob 20 [(.ptr 1 0),(Z1 b),(i64 d),(i64 f)] [.fm (List.map (entF Zd Zb) c),.cells [(i64 a),(.mp 0)]] (Zbl a r):=by
 refine ACall.body Tryd.func20 rfl (by kernel_rfl) ?_
 unfold Zt at hF
 refine AWP.seq (AWP.rg [] [(0,(.ptr 1 0)),(2,(i64 d)),(3,(i64 f)),(5,(.ptr 2 0))] [.fm (List.map (entF Zd Zb) c),.cells [(i64 a),(.mp 0)],.cells (Zh b)] ?_)
 obtain⟨g,i,hF⟩:=bindb hF
 refine AWP.rg [(4,.callS Tryd.func43 [0,1] [] (Zan a c b d f false g i))] [] [.fm (List.map (entF Zd Zb) g),.cells [(i64 a),(.mp 0)],.cells (Zh b)] ?_
 have hr:=someb hF
 subst hr
 exact(FnQ.f0 2 (.inl rfl))
def Zfl (r:Int):PV→List Blk→Prop:=fun p K=>p=(i64 r)∧K=[]
theorem Zfm (a:Int) (b:Int) (r:Int) (hF:Zae a b=some r):ACall Tryd.prog glob 9 [(i64 a),(i64 b)] [] (Zfl r):=by
 refine ACall.body Tryd.func9 rfl (by kernel_rfl) ?_
 unfold Zae at hF
 refine AWP.seq (AWP.rg0 [] [(0,(i64 a)),(1,(i64 b))] (AWP.seq ?_))
 obtain⟨c,hF⟩:=chkb hF
 refine AWP.rg0 [(4,.rem c)] [(4,(i64 (ZI (Int.tmod (IntKind.wrap .u64 a) (IntKind.wrap .u64 b)))))] (AWP.ret ?_)
 have hr:=someb hF
 subst hr
 exact(FnQ.f0 0 (.inr rfl))
def Zb4 (a:Int) (r:(Za × Bool × (List (Zc × Za)))):PV→List Blk→Prop:=fun p K=>p=(.tup [(Z2 r.1),(vb r.2.1)])∧K=[.fm (List.map (entF Zd Zb) r.2.2),.cells [(i64 a),(.mp 0)]]
theorem Zb5 (c:Int) (f:(List (Zc × Za))) (a:Zc) (d:Int) (r:(Za × Bool × (List (Zc × Za)))) (hF:Zq c f a d=some r):ACall Tryd.prog glob 21 [(.ptr 1 0),(Z1 a),(i64 d)] [.fm (List.map (entF Zd Zb) f),.cells [(i64 c),(.mp 0)]] (Zb4 c r):=by
 refine ACall.body Tryd.func21 rfl (by kernel_rfl) ?_
 unfold Zq at hF
 refine AWP.seq (AWP.rg [] [(0,(.ptr 1 0)),(2,(i64 d)),(4,(.ptr 2 0)),(6,(.ptr 3 0))] [.fm (List.map (entF Zd Zb) f),.cells [(i64 c),(.mp 0)],.cells (Zh a),.cells (Zf Zg)] (AWP.seq (AWP.seq (AWP.rg0 [(1,.ptrNil)] [(0,(.ptr 1 0)),(2,(i64 d)),(4,(.ptr 2 0)),(6,(.ptr 3 0)),(11,(vb false))] ?_))))
 refine AWP.cF ?_
 refine AWP.skip (AWP.seq ?_)
 obtain⟨b,g,hF⟩:=bindb hF
 refine AWP.rg [(2,.callS Tryd.func24 [0,1] [] (Z7 c f d b g))] [(0,(.ptr 1 0)),(4,(.ptr 2 0)),(6,(.ptr 3 0))] [.fm (List.map (entF Zd Zb) b.2),.cells [(i64 c),(.mp 0)],.cells (Zh a),.cells (Zf Zg)] (AWP.seq (AWP.dr [(5,.lookM Zv Zb Zg b.2 a)] 11 [] [9,10] [] [(6,(.ptr 3 0)),(8,(.ptr 4 0)),(9,(vb (mget Ze b.2 a).isSome))] [.fm (List.map (entF Zd Zb) b.2),.cells [(i64 c),(.mp 0)],.cells (Zh a),.cells (Zf Zg),.cells (Zf ((mget Ze b.2 a).getD Zg))] (AWP.seq (AWP.rg [] [(6,(.ptr 3 0)),(7,(vb (mget Ze b.2 a).isSome))] [.fm (List.map (entF Zd Zb) b.2),.cells [(i64 c),(.mp 0)],.cells (Zh a),.cells (Zf ((mget Ze b.2 a).getD Zg)),.cells (Zf ((mget Ze b.2 a).getD Zg))] (AWP.ret ?_)))))
 have hr:=someb hF
 subst hr
 exact(FnQ.f0 2 (.inr rfl))
def Zb8 (r:Unit):PV→List Blk→Prop:=fun p K=>p=(.tup [(.sc (.pointer none)),(i64 (2:Int))])∧K=[]
theorem Zb9 (a:Int) (r:Unit) (hF:Zaf a=some r):ACall Tryd.prog glob 6 [(i64 a)] [] (Zb8 r):=by
 refine ACall.body Tryd.func6 rfl (by kernel_rfl) ?_
 unfold Zaf at hF
 refine AWP.seq (AWP.rg0 [] [(0,(i64 a))] (AWP.seq (AWP.seq ?_)))
 obtain⟨c,b,hF⟩:=bindb hF
 replace b:=someb b
 refine AWP.to [(0,(i64 a)),(9,(vb (c || (decide (a > (64:Int))))))] [] ?_ ?_
 ·cases c with
  | false=>
   exact AWP.rgT [(2,.bool b)]
  | true=>
   exact AWP.rgT [(2,.bool b)]
 refine AWP.cif hF (fun d hF=>?_) (fun d hF=>?_)
 ·refine AWP.seq (AWP.rg0 [] [(2,(.sc (.pointer none))),(3,(i64 (2:Int)))] (AWP.ret ?_))
  have hr:=someb hF
  subst hr
  exact(FnQ.f0 0 (.inr rfl))
 ·refine AWP.skip (AWP.seq (AWP.rg [(1,.mkM)] [(2,(.ptr 1 0)),(3,(i64 (0:Int)))] [.fm (List.map (entF Zd Zb) ([]:(List (Zc × Za)))),.cells [(i64 a),(.mp 0)]] (AWP.ret ?_)))
  exact noneb hF
def Zbe (r:Bool):PV→List Blk→Prop:=fun p K=>p=(vb r)∧K=[]
theorem Zbf (a:Int) (g:Bool) (d:Bool) (b:Int) (c:Int) (r:Bool) (hF:Zx a g d b c=some r):ACall Tryd.prog glob 4 [(u8 a),(vb g),(vb d),(i64 b),(i64 c)] [] (Zbe r):=by
 refine ACall.body Tryd.func4 rfl (by kernel_rfl) ?_
 unfold Zx at hF
 refine AWP.seq (AWP.rg0 [] [(0,(u8 a)),(1,(vb g)),(2,(vb d)),(3,(i64 b)),(4,(i64 c))] (AWP.seq (AWP.seq ?_)))
 obtain⟨w,p,hF⟩:=bindb hF
 replace p:=someb p
 refine AWP.to [(0,(u8 a)),(1,(vb g)),(2,(vb d)),(3,(i64 b)),(4,(i64 c)),(23,(vb (w || (decide (b > (1099511627776:Int))))))] [] ?_ ?_
 ·cases w with
  | false=>
   exact AWP.rgT [(2,.bool p)]
  | true=>
   exact AWP.rgT [(2,.bool p)]
 refine AWP.cif hF (fun z hF=>?_) (fun z hF=>?_)
 ·refine AWP.seq ?_
  obtain⟨x,a0,hF⟩:=bindb hF
  refine AWP.rg0 [(0,.call Tryd.func17 [] (Zb1 x a0))] [(10,(vb x))] (AWP.ret ?_)
  have hr:=someb hF
  subst hr
  exact(FnQ.f0 0 (.inr rfl))
 ·refine AWP.skip (AWP.seq (AWP.rg [] [(0,(u8 a)),(1,(vb g)),(2,(vb d)),(3,(i64 b)),(4,(i64 c)),(11,(.ptr 0 0))] [.cells (Zh (Zc.mk (1:Int) (2:Int) a (0:Int) (0:Int)))] (AWP.seq ?_)))
  rcases iteb hF with ⟨_,hF⟩ | ⟨_,hF⟩
  ·obtain⟨f,a1,hF⟩:=bindb hF
   refine AWP.rg [(0,.call Tryd.func6 [] (Zc3 (2:Int) f a1))] [(0,(u8 a)),(1,(vb g)),(2,(vb d)),(3,(i64 b)),(4,(i64 c)),(11,(.ptr 0 0)),(12,(.ptr 2 0)),(13,(i64 (0:Int)))] [.cells (Zh (Zc.mk (1:Int) (2:Int) a (0:Int) (0:Int))),.fm (List.map (entF Zd Zb) f.2),.cells [(i64 f.1),(.mp 1)]] (AWP.seq (AWP.seq ?_))
   obtain⟨j,a2,hF⟩:=bindb hF
   refine AWP.rg [(4,.ptrNil),(11,.callS Tryd.func18 [1,2] [] (Zbk f.1 f.2 (0:Int) (Zc.mk (1:Int) (2:Int) a (0:Int) (0:Int)) (Zc.mk (1:Int) (2:Int) a (0:Int) (0:Int)) ByteArray.empty true b j a2))] [(0,(u8 a)),(1,(vb g)),(2,(vb d)),(3,(i64 b)),(4,(i64 c)),(11,(.ptr 0 0)),(12,(.ptr 2 0)),(44,(vb (j.1 != (0:Int))))] [.cells (Zh (Zc.mk (1:Int) (2:Int) a (0:Int) (0:Int))),.fm (List.map (entF Zd Zb) j.2),.cells [(i64 f.1),(.mp 1)]] ?_
   refine AWP.cif hF (fun a3 hF=>?_) (fun a3 hF=>?_)
   ·refine AWP.seq (AWP.rg0 [] [(10,(vb false))] (AWP.ret ?_))
    have hr:=someb hF
    subst hr
    exact(FnQ.f0 0 (.inr rfl))
   ·refine AWP.skip (AWP.seq (AWP.rg0 [] [(0,(u8 a)),(1,(vb g)),(2,(vb d)),(3,(i64 b)),(4,(i64 c)),(11,(.ptr 0 0)),(12,(.ptr 2 0)),(14,(i64 (60:Int)))] ?_))
    obtain⟨k,a4,hF⟩:=bindb hF
    refine AWP.seq ?_
    refine AWP.mid (fun e st H=>e=.normal∧st=[(0,(u8 a)),(1,(vb g)),(2,(vb d)),(3,(i64 b)),(4,(i64 c)),(11,(.ptr 0 0)),(12,(.ptr 2 0)),(14,(i64 k))]∧H=[.cells (Zh (Zc.mk (1:Int) (2:Int) a (0:Int) (0:Int))),.fm (List.map (entF Zd Zb) j.2),.cells [(i64 f.1),(.mp 1)]]) ?_ ?_
    ·clear hF
     have hF:=a4
     refine AWP.seq (AWP.rg0 [] [(0,(u8 a)),(1,(vb g)),(2,(vb d)),(3,(i64 b)),(4,(i64 c)),(11,(.ptr 0 0)),(12,(.ptr 2 0)),(14,(i64 (60:Int))),(46,(vb (a == (6:Int))))] ?_)
     refine AWP.cif hF (fun a5 hF=>?_) (fun a5 hF=>?_)
     ·refine AWP.rg0 [] [(0,(u8 a)),(1,(vb g)),(2,(vb d)),(3,(i64 b)),(4,(i64 c)),(11,(.ptr 0 0)),(12,(.ptr 2 0)),(14,(i64 (30:Int)))] (LeQ.start (LeQ.pk [0,1,2,3,4,11,12,14] 3 ?_))
      have hr:=someb hF
      subst hr
      exact⟨rfl,by kernel_rfl,by kernel_rfl⟩
     ·refine AWP.skip (LeQ.start (LeQ.pk [0,1,2,3,4,11,12,14] 3 ?_))
      have hr:=someb hF
      subst hr
      exact⟨rfl,by kernel_rfl,by kernel_rfl⟩
    ·rintro _ _ _ ⟨rfl,rfl,rfl⟩
     obtain⟨a6,a7,hF⟩:=bindb hF
     refine AWP.seq ?_
     refine AWP.mid (fun e st H=>(e=.normal∧∃ m,∃ i,a6=(m,i)∧st=[(0,(u8 a)),(2,(vb d)),(3,(i64 b)),(4,(i64 c)),(11,(.ptr 0 0)),(12,(.ptr 2 0)),(14,(i64 i))]∧H=[.cells (Zh (Zc.mk (1:Int) (2:Int) a (0:Int) (0:Int))),.fm (List.map (entF Zd Zb) m),.cells [(i64 f.1),(.mp 1)]])) ?_ ?_
     ·clear hF
      have hF:=a7
      refine AWP.seq (AWP.rg0 [] [(0,(u8 a)),(2,(vb d)),(3,(i64 b)),(4,(i64 c)),(11,(.ptr 0 0)),(12,(.ptr 2 0)),(14,(i64 k)),(47,(vb g))] ?_)
      refine AWP.cif hF (fun a8 hF=>?_) (fun a8 hF=>?_)
      ·refine AWP.seq ?_
       obtain⟨q,a9,hF⟩:=bindb hF
       refine AWP.rg [(3,.callS Tryd.func19 [1,2] [] (Zbz f.1 j.2 (Zc.mk (1:Int) (2:Int) a (0:Int) (0:Int)) (0:Int) b q a9))] [(0,(u8 a)),(2,(vb d)),(3,(i64 b)),(4,(i64 c)),(11,(.ptr 0 0)),(12,(.ptr 2 0)),(14,(i64 k))] [.cells (Zh (Zc.mk (1:Int) (2:Int) a (0:Int) (0:Int))),.fm (List.map (entF Zd Zb) q),.cells [(i64 f.1),(.mp 1)]] (AWP.seq (AWP.rg0 [] [(0,(u8 a)),(2,(vb d)),(3,(i64 b)),(4,(i64 c)),(11,(.ptr 0 0)),(12,(.ptr 2 0)),(14,(i64 k)),(53,(vb (a == (6:Int))))] ?_))
       refine AWP.cif hF (fun b0 hF=>?_) (fun b0 hF=>?_)
       ·refine AWP.rg0 [] [(0,(u8 a)),(2,(vb d)),(3,(i64 b)),(4,(i64 c)),(11,(.ptr 0 0)),(12,(.ptr 2 0)),(14,(i64 (600:Int)))] (LeQ.start (LeQ.pk [0,2,3,4,11,12,14] 3 ?_))
        exact⟨rfl,q,(600:Int),(someb hF).symm,by kernel_rfl,by kernel_rfl⟩
       ·refine AWP.skip (LeQ.start (LeQ.pk [0,2,3,4,11,12,14] 3 ?_))
        exact⟨rfl,q,k,(someb hF).symm,by kernel_rfl,by kernel_rfl⟩
      ·refine AWP.skip (LeQ.start (LeQ.pk [0,2,3,4,11,12,14] 3 ?_))
       exact⟨rfl,j.2,k,(someb hF).symm,by kernel_rfl,by kernel_rfl⟩
     ·rintro _ _ _ ⟨rfl,m,i,rfl,rfl,rfl⟩
      obtain⟨b1,b2,hF⟩:=bindb hF
      refine AWP.seq ?_
      refine AWP.mid (fun e st H=>(e=.normal∧∃ s,∃ n,b1=(s,n)∧st=[(3,(i64 b)),(4,(i64 c)),(11,(.ptr 0 0)),(12,(.ptr 2 0)),(14,(i64 n))]∧H=[.cells (Zh (Zc.mk (1:Int) (2:Int) a (0:Int) (0:Int))),.fm (List.map (entF Zd Zb) s),.cells [(i64 f.1),(.mp 1)]])) ?_ ?_
      ·clear hF
       have hF:=b2
       refine AWP.seq (AWP.rg0 [] [(0,(u8 a)),(3,(i64 b)),(4,(i64 c)),(11,(.ptr 0 0)),(12,(.ptr 2 0)),(14,(i64 i)),(54,(vb d))] ?_)
       refine AWP.cif hF (fun b3 hF=>?_) (fun b3 hF=>?_)
       ·refine AWP.seq ?_
        obtain⟨t,b4,hF⟩:=bindb hF
        refine AWP.rg [(3,.callS Tryd.func20 [1,2] [] (Zbm f.1 m (Zc.mk (1:Int) (2:Int) a (0:Int) (0:Int)) (1:Int) b t b4))] [(0,(u8 a)),(3,(i64 b)),(4,(i64 c)),(11,(.ptr 0 0)),(12,(.ptr 2 0)),(14,(i64 i))] [.cells (Zh (Zc.mk (1:Int) (2:Int) a (0:Int) (0:Int))),.fm (List.map (entF Zd Zb) t),.cells [(i64 f.1),(.mp 1)]] (AWP.seq (AWP.rg0 [] [(3,(i64 b)),(4,(i64 c)),(11,(.ptr 0 0)),(12,(.ptr 2 0)),(14,(i64 i)),(60,(vb (a == (6:Int))))] ?_))
        refine AWP.cif hF (fun b5 hF=>?_) (fun b5 hF=>?_)
        ·refine AWP.rg0 [] [(3,(i64 b)),(4,(i64 c)),(11,(.ptr 0 0)),(12,(.ptr 2 0)),(14,(i64 (10:Int)))] (LeQ.start (LeQ.pk [3,4,11,12,14] 3 ?_))
         exact⟨rfl,t,(10:Int),(someb hF).symm,by kernel_rfl,by kernel_rfl⟩
        ·refine AWP.skip (LeQ.start (LeQ.pk [3,4,11,12,14] 3 ?_))
         exact⟨rfl,t,i,(someb hF).symm,by kernel_rfl,by kernel_rfl⟩
       ·refine AWP.skip (LeQ.start (LeQ.pk [3,4,11,12,14] 3 ?_))
        exact⟨rfl,m,i,(someb hF).symm,by kernel_rfl,by kernel_rfl⟩
      ·rintro _ _ _ ⟨rfl,s,n,rfl,rfl,rfl⟩
       refine AWP.seq ?_
       obtain⟨u,b6,hF⟩:=bindb hF
       refine AWP.rg0 [(1,.call Tryd.func9 [] (Zfm c (700:Int) u b6))] [(3,(i64 b)),(11,(.ptr 0 0)),(12,(.ptr 2 0)),(14,(i64 n)),(15,(i64 u))] (AWP.seq ?_)
       obtain⟨l,b7,hF⟩:=bindb hF
       refine AWP.rg [(5,.callS Tryd.func21 [1,2] [] (Zb5 f.1 s (Zc.mk (1:Int) (2:Int) a (0:Int) (0:Int)) (ZI (b + u)) l b7))] [(14,(i64 n)),(15,(i64 u)),(17,(vb l.2.1))] [.cells (Zh (Zc.mk (1:Int) (2:Int) a (0:Int) (0:Int))),.fm (List.map (entF Zd Zb) l.2.2),.cells [(i64 f.1),(.mp 1)],.cells (Zf l.1)] (AWP.seq ?_)
       obtain⟨b8,v,hF⟩:=bindb hF
       replace v:=someb v
       obtain⟨b9,y,hF⟩:=bindb hF
       refine AWP.to [(10,(vb b9))] [.cells (Zh (Zc.mk (1:Int) (2:Int) a (0:Int) (0:Int))),.fm (List.map (entF Zd Zb) l.2.2),.cells [(i64 f.1),(.mp 1)],.cells (Zf l.1)] ?_ ?_
       ·cases b8 with
        | false=>
         have c0:=someb (ifF y rfl)
         subst c0
         exact AWP.rgT [(5,.bool v)]
        | true=>
         have o:=ifT y rfl
         obtain⟨c1,c2,o⟩:=bindb o
         replace o:=someb o
         subst o
         exact AWP.rgT [(5,.bool v),(6,.call Tryd.func17 [] (Zb1 c1 c2))]
       refine AWP.ret ?_
       have hr:=someb hF
       subst hr
       exact(FnQ.f0 0 (.inr rfl))
  ·obtain⟨c3,c4,hF⟩:=bindb hF
   refine AWP.rg0 [(0,.call Tryd.func6 [] (Zb9 (2:Int) c3 c4))] [(0,(u8 a)),(1,(vb g)),(2,(vb d)),(3,(i64 b)),(4,(i64 c)),(11,(.ptr 0 0)),(12,(.sc (.pointer none))),(13,(i64 (2:Int)))] (AWP.seq (AWP.seq (AWP.rg0 [] [(0,(u8 a)),(1,(vb g)),(2,(vb d)),(3,(i64 b)),(4,(i64 c)),(11,(.ptr 0 0)),(12,(.sc (.pointer none))),(44,(vb true))] ?_)))
   refine AWP.cT ?_
   refine AWP.seq (AWP.rg0 [] [(10,(vb false))] (AWP.ret ?_))
   have hr:=someb hF
   subst hr
   exact(FnQ.f0 0 (.inr rfl))
end Go.AM
set_option maxRecDepth 100000
namespace Go.AM
open Go
def Ok {α:Type} (x:Option α) (p:α→Prop):Prop:=∃ r,x=some r∧p r
theorem Ok.bind {α γ:Type} {x:Option α} {p:α→Prop} {f:α→Option γ} {q:γ→Prop} (h:Ok x p) (k:∀ v,p v→Ok (f v) q):Ok (x.bind f) q:=by
 obtain⟨v,rfl,hv⟩:=h
 exact k v hv
theorem Ok.ret {α:Type} {r:α} {p:α→Prop} (h:p r):Ok (some r) p:=⟨r,rfl,h⟩
theorem Ok.chk {α:Type} {c:Prop} [Decidable c] {x:Option α} {p:α→Prop} (hc:c) (h:Ok x p):Ok (if c then x else none) p:=by rw [if_pos hc]; exact h
theorem Ok.mono {α:Type} {x:Option α} {p q:α→Prop} (h:Ok x p) (k:∀ v,p v→q v):Ok x q:=by
 obtain⟨v,h1,h2⟩:=h
 exact⟨v,h1,k v h2⟩
theorem Ok.get {α:Type} {x:Option α} {p:α→Prop} (h:Ok x p) {r:α} (e:x=some r):p r:=by
 obtain⟨v,h1,h2⟩:=h
 rw [h1] at e; cases e; exact h2
theorem Ok.eq {α:Type} {x:Option α} {r:α} (h:Ok x (·=r)):x=some r:=by
 obtain⟨v,h1,rfl⟩:=h; exact h1
theorem Ok.of_eq {α:Type} {x:Option α} {r:α} (h:x=some r):Ok x (·=r):=⟨r,h,rfl⟩
theorem wi64 {x:Int} (h0:-9223372036854775808≤x) (h1:x<9223372036854775808):IntKind.wrap .i64 x=x:=by
 simp only [IntKind.wrap,IntKind.bits,IntKind.signed]
 simp
 omega
theorem wu64 {x:Int} (h0:0≤x) (h1:x<18446744073709551616):IntKind.wrap .u64 x=x:=by
 simp only [IntKind.wrap,IntKind.bits,IntKind.signed]
 simp
 omega
theorem Zgh (x:Int):0≤IntKind.wrap .u64 x∧IntKind.wrap .u64 x<18446744073709551616:=by
 simp only [IntKind.wrap,IntKind.bits,IntKind.signed]
 simp
 omega
structure TOk (t:Zfs):Prop where
 h0:0≤t.f_i
 h1:t.f_i≤t.f_l.length
 h2:(t.f_l.length:Int)<9223372036854775808
theorem Mod_ok {x n:Int} (h1:1≤n) (h2:n<9223372036854775808):Ok (Zae x n) fun v=>0≤v∧v<n:=by
 unfold Zae
 have hn:IntKind.wrap .u64 n=n:=wu64 (by omega) (by omega)
 rw [hn]
 have hx:=Zgh x
 have h3:0≤Int.tmod (IntKind.wrap .u64 x) n:=Int.tmod_nonneg _ hx.1
 have h4:Int.tmod (IntKind.wrap .u64 x) n<n:=Int.tmod_lt_of_pos _ (by omega)
 refine Ok.chk (by omega) (Ok.ret ?_)
 rw [wi64 (by omega) (by omega)]
 exact⟨h3,h4⟩
structure ROk (top:Int) (r:Z9):Prop where
 h0:0≤r.Lo
 h1:r.Lo≤r.Hi
 h2:r.Hi≤top
structure RIn (r:Z9):Prop where
 h0:0≤r.Lo
 h1:r.Lo<4294967296
 h2:0≤r.Hi
 h3:r.Hi<4294967296
structure BOk (b:Arr5 Z9):Prop where
 h0:ROk 4294967295 b.x0
 h1:ROk 4294967295 b.x1
 h2:ROk 255 b.x2
 h3:ROk 65535 b.x3
 h4:ROk 65535 b.x4
structure BIn (b:Arr5 Z9):Prop where
 h0:RIn b.x0
 h1:RIn b.x1
 h2:RIn b.x2
 h3:RIn b.x3
 h4:RIn b.x4
theorem BIn.get {b:Arr5 Z9} (h:BIn b) (k:Int):RIn (b.get k):=by
 unfold Arr5.get
 split
 ·exact h.h0
 split
 ·exact h.h1
 split
 ·exact h.h2
 split
 ·exact h.h3
 ·exact h.h4
theorem BIn.set {b:Arr5 Z9} (h:BIn b) {r:Z9} (hr:RIn r) (k:Int):BIn (b.set k r):=by
 unfold Arr5.set
 split
 ·exact⟨hr,h.h1,h.h2,h.h3,h.h4⟩
 split
 ·exact⟨h.h0,hr,h.h2,h.h3,h.h4⟩
 split
 ·exact⟨h.h0,h.h1,hr,h.h3,h.h4⟩
 split
 ·exact⟨h.h0,h.h1,h.h2,hr,h.h4⟩
 ·exact⟨h.h0,h.h1,h.h2,h.h3,hr⟩
end Go.AM
set_option maxRecDepth 100000
namespace Go.AM
open Go
abbrev TB:=List (Zc × Za)
theorem eqH (a b:Zc):Ze a b=true ↔ a=b:=
 ⟨fun h=>by cases a; cases b; simpa [Ze] using h,fun h=>by subst h; simp [Ze]⟩
theorem eqHr (a:Zc):Ze a a=true:=(eqH a a).2 rfl
structure TaOk (L:TB):Prop where
 nd:(L.map (·.1)).Nodup
 real:∀ x∈L,x.2.Real=x.1
theorem TaOk.uniq {L:TB} (h:TaOk L) {x y:Zc × Za} (hx:x∈L) (hy:y∈L) (he:x.1=y.1):x=y:=by
 obtain⟨i,hi⟩:=List.mem_iff_getElem?.1 hx
 obtain⟨j,hj⟩:=List.mem_iff_getElem?.1 hy
 have hij:i=j:=by
  refine(List.getElem?_inj (by rw [List.length_map]; exact(List.getElem?_eq_some_iff.1 hi).1) h.nd).1 ?_
  simp only [List.getElem?_map,hi,hj,Option.map_some,he]
 subst hij
 rw [hi] at hj
 exact Option.some.inj hj
theorem TaOk.filter {L:TB} (h:TaOk L) (p:Zc × Za→Bool):TaOk (L.filter p):=
 ⟨List.Nodup.sublist (List.Sublist.map _ List.filter_sublist) h.nd,fun x hx=>h.real x (List.mem_filter.1 hx).1⟩
theorem TaOk.nil:TaOk []:=⟨by simp,by simp⟩
def live (now:Int) (L:TB):TB:=L.filter fun x=>decide (now<x.2.Expires)
def dead (now:Int) (L:TB):Nat:=L.countP fun x=>decide (x.2.Expires≤now)
theorem Zcm (now:Int):∀(l:TB) (M:TB) (c:Nat),c + l.length<4611686018427387904 →
  mfold (Zm now) l (M,(c:Int))=some (.inr (M.filter (fun x=>!(l.any fun y=>decide (y.2.Expires≤now) && Ze y.1 x.1)),((c + dead now l:Nat):Int)))
 | [],M,c,_=>by
  have e:M.filter (fun x=>!(([]:TB).any fun y=>decide (y.2.Expires≤now) && Ze y.1 x.1))=M:=List.filter_eq_self.2 fun _ _=>rfl
  rw [e]; rfl
 | y :: l,M,c,h=>by
  rw [List.length_cons] at h
  unfold mfold
  rw [Zm]
  by_cases he:y.2.Expires≤now
  ·rw [if_pos (by simpa using he)]
   simp only [Option.bind_some]
   rw [show IntKind.wrap .i64 ((c:Int) + 1)=((c + 1:Nat):Int) by rw [wi64 (by omega) (by omega)]; omega]
   rw [Zcm now l _ (c + 1) (by omega)]
   unfold mdel dead
   rw [List.filter_filter,List.countP_cons,if_pos (by simpa using he)]
   congr 3
   ·refine List.filter_congr fun x _=>?_
    simp only [List.any_cons,he,decide_true,Bool.true_and,Bool.not_or]
    rw [Bool.and_comm]
   ·omega
  ·rw [if_neg (by simpa using he)]
   simp only [Option.bind_some]
   rw [Zcm now l M c (by omega)]
   unfold dead
   rw [List.countP_cons,if_neg (by simpa using he)]
   congr 3
   refine List.filter_congr fun x _=>?_
   simp only [List.any_cons,he,decide_false,Bool.false_and,Bool.false_or]
theorem Zdr {L:TB} (h:TaOk L) (hl:L.length<4611686018427387904) (most now:Int):Zl most L now=some ((dead now L:Int),live now L):=by
 unfold Zl
 refine Zhb fun l' hp=>?_
 have:=Zcm now l' L 0 (by rw [hp.length_eq]; omega)
 rw [show ((0:Nat):Int)=0 from rfl] at this
 rw [this]
 simp only [Option.bind_some,Nat.zero_add]
 congr 2
 ·unfold dead; rw [hp.countP_eq]
 ·refine List.filter_congr fun x hx=>?_
  rw [Bool.eq_iff_iff]
  simp only [Bool.not_eq_true',decide_eq_true_eq]
  rw [← Bool.not_eq_true,List.any_eq_true]
  constructor
  ·intro hn
   refine Classical.byContradiction fun hlt=>hn ⟨x,hp.mem_iff.2 hx,?_⟩
   simp only [eqHr,Bool.and_true,decide_eq_true_eq]; omega
  ·rintro hlt ⟨y,hy,hye⟩
   simp only [Bool.and_eq_true,decide_eq_true_eq,eqH] at hye
   have:=h.uniq (hp.mem_iff.1 hy) hx hye.2
   subst this
   omega
end Go.AM
set_option maxRecDepth 100000
namespace Go.AM
open Go
theorem TaOk.one {k:Zc} {c:Za} (h:c.Real=k):TaOk [(k,c)]:=⟨by simp,by simpa using h⟩
theorem Zfn {t:Int} {k:Zc} {c:Za} (h:t<c.Expires):live t [(k,c)]=[(k,c)]:=by simp [live,h]
theorem Zfo (k:Zc) (c:Za):mget Ze [(k,c)] k=some c:=by simp [mget,eqHr]
theorem Zds (k:Zc) (c d:Za):mput Ze [(k,c)] k d=[(k,d)]:=by simp [mput,eqHr]
def lf (p s:Int):Int:=if p=6 then (if s=2 then 600 else if s=3 then 10 else 30) else 60
theorem lf_rng (p s:Int):10≤lf p s∧lf p s≤600:=by
 unfold lf
 repeat' split
 all_goals omega
theorem Zft (c:Za):Zy c=some (lf c.Real.Proto c.State):=by
 unfold Zy lf
 by_cases h1:c.Real.Proto=6
 ·rw [if_neg (by simp [h1]),if_pos h1]
  by_cases h2:c.State=2
  ·rw [if_pos (by simp [h2]),if_pos h2]
  ·rw [if_neg (by simpa using h2),if_neg h2]
   by_cases h3:c.State=3
   ·rw [if_pos (by simp [h3]),if_pos h3]
   ·rw [if_neg (by simpa using h3),if_neg h3]
 ·rw [if_pos (by simpa using h1),if_neg h1]
theorem put_eq (most:Int) (L:TB) (c:Za) {now:Int} (h0:0≤now) (h1:now≤2199023255552):Zu most L c now=some (mput Ze L c.Real { c with Expires:=now + lf c.Real.Proto c.State }):=by
 unfold Zu
 have:=lf_rng c.Real.Proto c.State
 rw [Zft]
 simp only [Option.bind_some]
 rw [wi64 (by omega) (by omega),if_pos (by simp; omega),wi64 (by omega) (by omega)]
 rfl
theorem Zee (most:Int) {k:Zc} {c:Za} (hc:c.Real=k) {now:Int} (h0:0≤now) (h1:now≤2199023255552) (hx:now<c.Expires) (flags:Int) (b:Bool) (hr:bAnd .i64 flags 4=0) :
  ∃ s,s=(if bAnd .i64 flags 1 ≠ 0 then 3 else if b=true∧c.State=1 then 2 else c.State)∧Zp most [(k,c)] k flags now b=some [(k,{ c with State:=s,Expires:=now + lf k.Proto s })]:=by
 refine⟨_,rfl,?_⟩
 unfold Zp
 rw [Zdr (TaOk.one hc) (by simp),Zfn hx]
 simp only [Option.bind_some,Zfo,Option.isSome_some,Bool.not_true,Bool.false_eq_true,if_false,Option.getD_some,hr,bne_self_eq_false]
 by_cases hf:bAnd .i64 flags 1=0
 ·have hf':(bAnd .i64 flags 1 != 0)=false:=by simp [hf]
  rw [hf']
  by_cases hb:b=true∧c.State=1
  ·have hs:(if bAnd .i64 flags 1 ≠ 0 then 3 else if b=true∧c.State=1 then 2 else c.State)=2:=by rw [if_neg (by simp [hf]),if_pos hb]
   rw [hs]
   have hb':(b && (c.State == 1))=true:=by simp [hb.1,hb.2]
   simp only [hb',Bool.false_eq_true,if_false,if_true,Option.bind_some]
   rw [put_eq _ _ _ h0 h1]
   simp only [Option.bind_some,hc,Zds]
  ·have hs:(if bAnd .i64 flags 1 ≠ 0 then 3 else if b=true∧c.State=1 then 2 else c.State)=c.State:=by rw [if_neg (by simp [hf]),if_neg hb]
   rw [hs]
   have hb':(b && (c.State == 1))=false:=by
    rw [Bool.and_eq_false_iff]
    cases b with
    | false=>exact .inl rfl
    | true=>exact .inr (by simpa using hb)
   simp only [hb',Bool.false_eq_true,if_false,Option.bind_some]
   rw [put_eq _ _ _ h0 h1]
   simp only [Option.bind_some,hc,Zds]
 ·have hf':(bAnd .i64 flags 1 != 0)=true:=by simpa using hf
  have hs:(if bAnd .i64 flags 1 ≠ 0 then 3 else if b=true∧c.State=1 then 2 else c.State)=3:=if_pos hf
  rw [hs,hf']
  simp only [if_true,Option.bind_some]
  rw [put_eq _ _ _ h0 h1]
  simp only [Option.bind_some,hc,Zds]
theorem Zg3 (most:Int) {k:Zc} {c:Za} (hc:c.Real=k) (t:Int):∃ x M,Zq most [(k,c)] k t=some (x,decide (t<c.Expires),M):=by
 unfold Zq
 rw [Zdr (TaOk.one hc) (by simp)]
 by_cases h:t<c.Expires
 ·rw [Zfn h]
  refine⟨c,[(k,c)],?_⟩
  simp only [Option.bind_some,Zfo,Option.isSome_some,h,decide_true]
  rfl
 ·have e:live t [(k,c)]=[]:=by simp [live]; omega
  rw [e]
  refine⟨Zg,[],?_⟩
  simp only [Option.bind_some,h,decide_false]
  rfl
theorem Zca {a0:Int} {a1 a2:Bool} {a3 a4:Int} (_:ok_u8 a0) (_:Zeh a1) (_:Zeh a2) (_:Zcv a3) (_:Zcv a4):Zx a0 a1 a2 a3 a4=some true:=by
 have hsane:Zal=some true:=rfl
 unfold Zx
 simp only [Option.bind_some,hsane]
 by_cases hr:a3<0∨a3 > 1099511627776
 ·rw [if_pos (by simpa using hr)]
 rw [if_neg (by simpa using hr)]
 have h0:0≤a3:=by omega
 have h1:a3≤1099511627776:=by omega
 have hnew:Zz 2=some (2,[]):=rfl
 rw [hnew]
 simp only [Option.isSome_some,if_true,Option.bind_some]
 generalize hk:Zc.mk 1 2 a0 0 0=k
 have hp:k.Proto=a0:=by rw [← hk]
 have hing:Zs 2 [] 0 k k ByteArray.empty true a3=some (0,[(k,{ Real:=k,Sent:=k,Delivered:=Zi,From:=0,To:=-1,Waypoint:=false,Class:=ByteArray.empty,State:=1,Expires:=a3 + lf a0 1 })]):=by
  unfold Zs
  rw [Zdr TaOk.nil (by simp)]
  have e1:live a3 []=[]:=rfl
  have e2:∀ k,mget Ze ([]:TB) k=none:=fun _=>rfl
  simp only [Option.bind_some,e1,e2,Option.isSome_none,Bool.false_and,Bool.false_eq_true,if_false]
  unfold Zk
  simp only [Option.bind_some,e2,Option.isSome_none,Bool.not_true,Bool.false_eq_true,if_false,List.length_nil]
  rw [if_neg (by decide),if_neg (by decide)]
  simp only [Option.bind_some]
  rw [if_neg (by decide),put_eq _ _ _ h0 (by omega)]
  simp only [hp]
  rfl
 rw [hing]
 simp only [Option.bind_some,bne_self_eq_false,Bool.false_eq_true,if_false]
 obtain⟨d,hd,hdr⟩:=Mod_ok (x:=a4) (n:=700) (by omega) (by omega)
 have last:∀(c:Za) (life:Int),c.Real=k→c.Expires=a3 + life→((Zae a4 700).bind fun(r37:Int)=>(Zq 2 [(k,c)] k (IntKind.wrap .i64 (a3 + r37))).bind fun(r39:(Za × Bool × (List (Zc × Za))))=>
   (some (r39.2.1 == (decide (r37<life)))).bind fun(b41:Bool)=>(if b41=true then some true else some false).bind fun(v45:Bool)=>some v45)=some true:=fun c life hc he=>by
  rw [hd]
  simp only [Option.bind_some]
  rw [wi64 (by omega) (by omega)]
  obtain⟨x,M,hF⟩:=Zg3 2 hc (a3 + d)
  rw [hF]
  simp only [Option.bind_some]
  have e:decide (a3 + d<c.Expires)=decide (d<life):=by rw [he]; exact decide_eq_decide.2 (by omega)
  rw [e,beq_self_eq_true]
  rfl
 have l600:=lf_rng a0
 have fwd:∀(c:Za) (life:Int),c.Real=k→c.Expires=a3 + life→0<life→∃ c',Zt 2 [(k,c)] k 1 a3=some [(k,c')]∧c'.Real=k∧c'.Expires=a3 + lf a0 3:=fun c life hc he hl=>by
  obtain⟨s,hs,hF⟩:=Zee 2 hc h0 (by omega) (by omega) 1 false (by decide)
  rw [if_pos (by decide)] at hs
  unfold Zt
  rw [hF]
  refine⟨_,rfl,hc,?_⟩
  rw [hs,hp]
 have rpl:∀(c:Za) (life:Int),c.Real=k→c.Expires=a3 + life→0<life→c.State=1→∃ c',Zw 2 [(k,c)] k 0 a3=some [(k,c')]∧c'.Real=k∧c'.Expires=a3 + lf a0 2:=fun c life hc he hl hst=>by
  obtain⟨s,hs,hF⟩:=Zee 2 hc h0 (by omega) (by omega) 0 true (by decide)
  rw [if_neg (by decide),if_pos ⟨rfl,hst⟩] at hs
  unfold Zw
  rw [hF]
  refine⟨_,rfl,hc,?_⟩
  rw [hs,hp]
 have q1:lf a0 1=if a0=6 then 30 else 60:=by unfold lf; split <;> rfl
 have q2:lf a0 2=if a0=6 then 600 else 60:=by unfold lf; split <;> rfl
 have q3:lf a0 3=if a0=6 then 10 else 60:=by unfold lf; split <;> rfl
 have r1:=l600 1
 have r2:=l600 2
 generalize hc0:({ Real:=k,Sent:=k,Delivered:=Zi,From:=0,To:=-1,Waypoint:=false,Class:=ByteArray.empty,State:=1,Expires:=a3 + lf a0 1 }:Za)=c0
 have a1':c0.Real=k:=by rw [← hc0]
 have a2':c0.Expires=a3 + lf a0 1:=by rw [← hc0]
 have a3':c0.State=1:=by rw [← hc0]
 obtain⟨cr,g1,g2,g3⟩:=rpl c0 _ a1' a2' (by omega) a3'
 obtain⟨cf,f1,f2,f3⟩:=fwd c0 _ a1' a2' (by omega)
 obtain⟨crf,e1,e2,e3⟩:=fwd cr _ g2 g3 (by omega)
 by_cases h6:a0=6
 ·rw [if_pos h6] at q1 q2 q3
  have b6:(a0 == (6:Int))=true:=by simp [h6]
  simp only [b6,if_true,Option.bind_some]
  cases a1 <;> cases a2
  ·simp only [Bool.false_eq_true,if_false,Option.bind_some]
   exact last c0 30 a1' (by rw [a2',q1])
  ·simp only [Bool.false_eq_true,if_false,if_true,Option.bind_some,f1]
   exact last cf 10 f2 (by rw [f3,q3])
  ·simp only [Bool.false_eq_true,if_false,if_true,Option.bind_some,g1]
   exact last cr 600 g2 (by rw [g3,q2])
  ·simp only [if_true,Option.bind_some,g1,e1]
   exact last crf 10 e2 (by rw [e3,q3])
 ·rw [if_neg h6] at q1 q2 q3
  have b6:(a0 == (6:Int))=false:=by simpa using h6
  simp only [b6,Bool.false_eq_true,if_false,Option.bind_some]
  cases a1 <;> cases a2
  ·simp only [Bool.false_eq_true,if_false,Option.bind_some]
   exact last c0 60 a1' (by rw [a2',q1])
  ·simp only [Bool.false_eq_true,if_false,if_true,Option.bind_some,f1]
   exact last cf 60 f2 (by rw [f3,q3])
  ·simp only [Bool.false_eq_true,if_false,if_true,Option.bind_some,g1]
   exact last cr 60 g2 (by rw [g3,q2])
  ·simp only [if_true,Option.bind_some,g1,e1]
   exact last crf 60 e2 (by rw [e3,q3])
end Go.AM

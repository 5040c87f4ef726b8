/- Parts of a proof, printed short. No condition. -/
import Derived.Laws.OwnMore
import Derived.Laws.Cover3
import Derived.Laws.Pointers
import Derived.Laws.BytesString
import Derived.MapKept
import Derived.Laws.Externs
import Derived.Laws.Concat
import Derived.Laws.IdiomStrings
import Derived.Laws.IdiomRangeMap
import Derived.Shelf.SlSortCmp.NoneTotal
import Derived.Test.YtainggmhdmocfaaDoorProg
import Derived.Shelf.SlGeneric
import Derived.Ground.SlsfProg
import Derived.Test.YtainggmhdmocfaaDoorDaQ2
namespace Go.AM
section
variable {P:Program} {G:Glob} {n0 nt:Nat} {o:Oper} {st:St} {H:List Blk} {ops:Array Oper} {Q:Exit→St→List Blk→Prop} {E:Eval}
theorem key_lt {α:Type}:∀(rs:List (Nat × α)) (j:Nat) (p:α),rs.lookup j=some p→j<rs.foldr (fun x n=>max (x.1 + 1) n) 0
 | [],_,_,h=>by simp at h
 | (i,q) :: rs,j,p,h=>by
  simp only [List.lookup] at h
  simp only [List.foldr_cons]
  split at h
  ·rename_i hj
   have:j=i:=by simpa using hj
   omega
  ·have:=key_lt rs j p h
   omega
mutual
def PV.top:PV→Nat
 | .ptr i _=>i + 1
 | .own i _=>i + 1
 | .ept i _ _ _=>i + 1
 | .mp i=>i + 1
 | .vw i _ _=>i + 1
 | .ow i _ _ _=>i + 1
 | .oc i _ _=>i + 1
 | .op i _ _=>i + 1
 | .agg cs=>PV.tops cs
 | .tup cs=>PV.tops cs
 | .fn _ cs=>PV.tops cs
 | _=>0
def PV.tops:List PV→Nat
 | []=>0
 | p :: ps=>max p.top (PV.tops ps)
end
theorem Zlc {α:Type} {x y:α} {t:Nat} (h:[x][t]? = some y):y=x:=by
 cases t with
 | zero=>simpa using h.symm
 | succ t=>simp at h
theorem Zje {k:Nat} {cand give:List Nat} {t0:Tr} {rs:List (Nat × PV)} {Hs:List (List Blk)} {Hf:List Blk} {ch late:List Nat} :
  ∀(l:List Nat) (rs0:List (Nat × PV)) (Hs0:List (List Blk)) (H0:List Blk) (ch0 late0:List Nat),gox P G E ops k cand give t0 l rs0 Hs0 H0 ch0 late0=some (rs,Hs,Hf,ch,late) →
  (∀ j∈l,∃ p,rs.lookup j=some p)∧(∀ j p,rs0.lookup j=some p→∃ q,rs.lookup j=some q)
 | [],rs0,Hs0,H0,ch0,late0,h=>by
  simp only [gox,Option.some.injEq,Prod.mk.injEq] at h
  obtain⟨rfl,_⟩:=h
  exact⟨fun j hj=>by (cases hj),fun j p hp=>⟨p,hp⟩⟩
 | i :: l,rs0,Hs0,H0,ch0,late0,h=>by
  have key:∀ {p:PV} {Hs1:List (List Blk)} {H1:List Blk} {ch1 late1:List Nat},gox P G E ops k cand give t0 l ((i,p) :: rs0) Hs1 H1 ch1 late1=some (rs,Hs,Hf,ch,late) →
    (∀ j∈i :: l,∃ p,rs.lookup j=some p)∧(∀ j p,rs0.lookup j=some p→∃ q,rs.lookup j=some q):=fun {p _ _ _ _} h=>by
   obtain⟨h1,h2⟩:=Zje l _ _ _ _ _ h
   refine⟨fun j hj=>?_,fun j q hq=>?_⟩
   ·rcases List.mem_cons.1 hj with rfl | hj
    ·exact h2 j p (by simp)
    ·exact h1 j hj
   ·by_cases hji:j=i
    ·subst hji; exact h2 j p (by simp)
    ·exact h2 j q (by rw [Zdn hji]; exact hq)
  simp only [gox] at h
  split at h
  ·cases h
  ·split at h
   ·cases h
   ·exact key h
   ·split at h
    ·split at h
     ·exact key h
     ·cases h
    ·split at h
     ·exact key h
     ·split at h
      ·exact key h
      ·cases h
theorem Zmx {k:Nat} {cand give:List Nat} {t0:Tr} {rs:List (Nat × PV)} {Hs:List (List Blk)} {Hf:List Blk} {ch late:List Nat} (l:List Nat) (rs0:List (Nat × PV)) (Hs0:List (List Blk)) (H0:List Blk) (ch0 late0:List Nat)
  (h:gox P G E ops k cand give t0 l rs0 Hs0 H0 ch0 late0=some (rs,Hs,Hf,ch,late)):∀ j∈l,∃ p,rs.lookup j=some p:=(Zje l _ _ _ _ _ h).1
theorem Zge {rs:List (Nat × PV)}:∀(l:List Nat) (t:Tr),(∀ j∈l,match dstJ ops j with | some d=>Nat.blt d 512=true | none=>True)→∀ x∈(putsX ops rs l t).st,(∃ j∈l,dstJ ops j=some x.1∧rs.lookup j=some x.2)∨(x∈t.st∧∀ j∈l,∀ p,rs.lookup j=some p→dstJ ops j ≠ some x.1)
 | [],t,_,x,hx=>.inr ⟨hx,fun j hj=>by cases hj⟩
 | j :: l,t,hd,x,hx=>by
  unfold putsX at hx
  have hd':∀ j∈l,match dstJ ops j with | some d=>Nat.blt d 512=true | none=>True:=fun j hj=>hd j (List.mem_cons_of_mem _ hj)
  split at hx
  ·rename_i d p h1 h2
   have hlt:d<512:=by have:=hd j (by simp); rw [h1] at this; exact Nat.blt_eq ▸ this
   rcases Zge l _ hd' x hx with ⟨i,hi,h3⟩ | ⟨h3,h4⟩
   ·exact .inl ⟨i,List.mem_cons_of_mem _ hi,h3⟩
   ·rcases List.mem_cons.1 (Zeb hlt x h3) with h5 | h5
    ·exact .inl ⟨j,by simp,by rw [h5]; exact h1,by rw [h5]; exact h2⟩
    ·obtain⟨h6,h7⟩:=List.mem_filter.1 h5
     refine .inr ⟨h6,fun i hi q hq=>?_⟩
     rcases List.mem_cons.1 hi with rfl | hi
     ·rw [h1]; intro e; simp at e; rw [e] at h7; simp at h7
     ·exact h4 i hi q hq
  ·rename_i hno
   rcases Zge l t hd' x hx with ⟨i,hi,h3⟩ | ⟨h3,h4⟩
   ·exact .inl ⟨i,List.mem_cons_of_mem _ hi,h3⟩
   ·refine .inr ⟨h3,fun i hi q hq=>?_⟩
    rcases List.mem_cons.1 hi with rfl | hi
    ·intro e; exact hno _ _ e hq
    ·exact h4 i hi q hq
theorem ADraw.le {st':St} {H':List Blk} (h:Le G n0 nt st H st' H') (k:ADraw P G n0 nt ops Q st' H'):ADraw P G n0 nt ops Q st H:=fun c a w β l h0 h1 hr hl=>
 let ⟨β',hr'⟩:=h c a w β h0 h1 hr
 k c a w β' l h0 h1 hr' hl
theorem ADraw.draw {st0:St} {res:List PV} {ch:List Nat} {Hs:List (List Blk)} {k:Nat} {Hf:List Blk} {rk:List Nat} (hs:∀ x∈st0,x∈st) (hok:drawOk nt ops ch k rk=true) (hfree:∀ i,i<k→FreeOk P G n0 nt ops st0 res ch Hs k i)
  (hfirst:Hs[0]? = some H) (hlast:Hs[ch.length]? = some Hf) (htail:AOps P G n0 nt ops (List.range' k (ops.size - k)) Q (stL ops st0 res (List.range k)) Hf):ADraw P G n0 nt ops Q st H:=by
 intro c a w β lo h0 h1 hr hlin
 have hl':∀ j,(Array.replicate ops.size false).getD j false=false:=fun j=>by simp [Array.getD]
 have hfil:(List.range k).filter ((Array.replicate ops.size false).getD · false)=[]:=List.filter_eq_nil_iff.2 fun x _=>by simp only [hl']; simp
 refine Zf9 _ _ _ _ _ (Zhi hok hfree hlast htail ops.size (Array.replicate ops.size false) 0 H c a w β h0 h1 (by simp) (by rw [hfil]; simp) (fun i _=>hl' i)
  (fun j _ hj=>by rw [hl'] at hj; cases hj) (fun s x hx=>?_) (Nat.zero_le _) hfirst ?_) hlin
 ·rw [hl']; simp
 ·rw [hfil]
  have h9:stL ops st0 res []=st0:=by simp [stL]
  rw [h9]; exact hr.sub hs
theorem ADraw.drx (hE:E.ok P G) {t t':Tr} {H':List Blk} (h:drx P G E nt ops t H=some (t',H')) (hq:Q .normal t'.st H'):ADraw P G n0 nt ops Q t.st H:=by
 unfold AM.drx at h
 split at h
 ·rename_i hp
  unfold planS at hp
  simp only [Bool.and_eq_true] at hp
  obtain⟨hd,hnd,hall,hds⟩:=hp
  generalize hk:(planOf ops).k=k at *
  generalize ho:(planOf ops).ord=ord at *
  generalize hr:(planOf ops).rk=rk at *
  generalize (planOf ops).cand=cand at *
  generalize (planOf ops).give=give at *
  generalize hs:shareX (planOf ops).keep t H=r at *
  obtain⟨t0,H0⟩:=r
  simp only [] at h
  split at h
  ·cases h
  ·rename_i rs Hs Hf ch late hg
   split at h
   ·rename_i hc
    simp only [Bool.and_eq_true,Bool.or_eq_true,List.isEmpty_iff] at hc
    refine ADraw.le (st':=t0.st) (H':=H0) (fun c a w β _ _ hr=>by
     have:=Zbr (G:=G) (planOf ops).keep t H c a w β hr
     rw [hs] at this
     exact this) ?_
    let N:=rs.foldr (fun x n=>max (x.1 + 1) n) 0
    let res:List PV:=(List.range N).map fun i=>(rs.lookup i).getD (.sc undef)
    have hres:∀ j p,rs.lookup j=some p→res[j]? = some p:=fun j p hp=>by
     have:j<N:=key_lt rs j p hp
     simp [res,this,hp]
    have hchk:chOk ops ch.reverse k=true:=by
     rcases hc.1 with rfl | h1
     ·simp [chOk]
     ·exact h1
    obtain⟨_,⟨t,g2⟩,⟨c,g3,g3'⟩,_,g5,g6⟩:=gox_ok (n0:=n0) hE hres rfl rfl ord [] [] H0 [] [] hg (of_decide_eq_true hnd) (fun _ _=>rfl) (fun _ h=>by cases h) rfl
    have hdone:=Zmx ord [] [] H0 [] [] hg
    have hfree:∀ i,i<k→FreeOk P G n0 nt ops t0.st res ch.reverse (Hf :: Hs).reverse k i:=fun i hi=>by
     have hio:i∈ord:=by
      have:=List.all_eq_true.1 hall i (List.mem_range.2 hi)
      simpa using this
     rcases g6 i hio with h1 | ⟨hl,o,p,t,H1,ho,hni,hw,hp,ht,hop⟩
     ·exact h1
     ·refine .quiet o p ho hni hw hp fun t' H' ht' hpos=>?_
      rcases hc.2 with rfl | h2
      ·have hs0:Hs=[]:=List.eq_nil_of_length_eq_zero (by rw [← g5]; rfl)
       subst hs0
       simp only [List.reverse_cons,List.reverse_nil,List.nil_append] at ht ht'
       have e1:H1=Hf:=Zlc ht
       have e2:H'=Hf:=Zlc ht'
       subst e1 e2
       exact hop
      ·have:=List.all_eq_true.1 h2 i hl
       unfold lateOne at this
       rw [ho] at this
       split at this
       ·rename_i o' p' ho' hp'
        simp only [Option.some.injEq] at ho'; subst ho'
        have h3:=hres _ _ hp'
        rw [hp] at h3
        simp only [Option.some.injEq] at h3; subst h3
        exact Zid hres _ 0 this t' H' ht' (by rw [Nat.zero_add]; exact hpos)
       ·cases this
    refine ADraw.draw (st0:=t0.st) (res:=res) (ch:=ch.reverse) (Hs:=(Hf :: Hs).reverse) (k:=k) (Hf:=Hf) (rk:=rk) (fun _ h=>h) (Zl9 hd hchk) hfree ?_ ?_ ?_
    ·rw [g2]; simp
    ·simp [g5]
    ·refine AOps.sub ?_ (AOps.sqx hE _ _ _ _ _ h hq)
     intro x hx
     have hall':∀ j∈List.range k,match dstJ ops j with | some d=>Nat.blt d 512=true | none=>True:=fun j hj=>by
      have h3:=List.all_eq_true.1 hds j hj
      cases hdj:dstJ ops j with
      | none=>trivial
      | some d=>rw [hdj] at h3; exact h3
     rcases Zge _ _ hall' x hx with ⟨j,hj,h1,h2⟩ | ⟨h1,h2⟩
     ·refine List.mem_append_left _ (List.mem_filterMap.2 ⟨j,hj,?_⟩)
      have h1':(ops[j]?).bind (·.dst)=some x.1:=h1
      rw [h1',hres _ _ h2]
     ·refine List.mem_append_right _ (List.mem_filter.2 ⟨h1,List.all_eq_true.2 fun j hj=>?_⟩)
      have hjk:j<k:=List.mem_range.1 hj
      obtain⟨p,hp⟩:=hdone j (by have:=List.all_eq_true.1 hall j hj; simpa using this)
      have h9:¬ ((ops[j]?).bind (·.dst)=some x.1):=h2 j hj p hp
      simpa using h9
   ·cases h
 ·cases h
def oeq:Option PV→Option PV→Bool
 | none,none=>true
 | some p,some q=>peq p q
 | _,_=>false
theorem oeq_eq {a b:Option PV} (h:oeq a b=true):a=b:=by
 unfold oeq at h
 split at h
 ·rfl
 ·rw [peq_eq _ _ h]
 ·cases h
def N8.eqs {α:Type} (f:α→α→Bool) (s t:N8 α):Bool:=match s,t with
 | .mk a b c d e g h i,.mk a' b' c' d' e' g' h' i'=>f a a' && f b b' && f c c' && f d d' && f e e' && f g g' && f h h' && f i i'
theorem N8.eqs_eq {α:Type} {f:α→α→Bool} (hf:∀ a b,f a b=true→a=b) {s t:N8 α} (h:N8.eqs f s t=true):s=t:=by
 cases s; cases t
 simp only [N8.eqs,Bool.and_eq_true] at h
 obtain⟨⟨⟨⟨⟨⟨⟨h1,h2⟩,h3⟩,h4⟩,h5⟩,h6⟩,h7⟩,h8⟩:=h
 rw [hf _ _ h1,hf _ _ h2,hf _ _ h3,hf _ _ h4,hf _ _ h5,hf _ _ h6,hf _ _ h7,hf _ _ h8]
def teq (s t:Tr):Bool:=N8.eqs (N8.eqs (N8.eqs oeq)) s t
theorem teq_eq {s t:Tr} (h:teq s t=true):s=t:=N8.eqs_eq (fun _ _ h=>N8.eqs_eq (fun _ _ h=>N8.eqs_eq (fun _ _ h=>oeq_eq h) h) h) h
def eeqs:List Ent→List Ent→Bool
 | [],[]=>true
 | x :: xs,y :: ys=>Nat.beq x.1 y.1 && veq x.2.1 y.2.1 && peq x.2.2 y.2.2 && eeqs xs ys
 | _,_=>false
theorem Zld:∀(xs ys:List Ent),eeqs xs ys=true→xs=ys
 | [],[],_=>rfl
 | [],_ :: _,h=>by simp [eeqs] at h
 | _ :: _,[],h=>by simp [eeqs] at h
 | (a,b,c) :: xs,(a',b',c') :: ys,h=>by
  simp only [eeqs,Bool.and_eq_true] at h
  rw [Nat.eq_of_beq_eq_true h.1.1.1,veq_eq _ _ h.1.1.2,peq_eq _ _ h.1.2,Zld xs ys h.2]
def neqs:List Nat→List Nat→Bool
 | [],[]=>true
 | x :: xs,y :: ys=>Nat.beq x y && neqs xs ys
 | _,_=>false
theorem Zle:∀(xs ys:List Nat),neqs xs ys=true→xs=ys
 | [],[],_=>rfl
 | [],_ :: _,h=>by simp [neqs] at h
 | _ :: _,[],h=>by simp [neqs] at h
 | x :: xs,y :: ys,h=>by
  simp only [neqs,Bool.and_eq_true] at h
  rw [Nat.eq_of_beq_eq_true h.1,Zle xs ys h.2]
def beqB:Blk→Blk→Bool
 | .cells cs,.cells ds=>peqs cs ds
 | .far cs,.far ds=>peqs cs ds
 | .buf s t xs sh,.buf s' t' ys sh'=>Nat.beq s s' && Nat.beq t t' && peqss xs ys && (sh == sh')
 | .map es c,.map es' c'=>eeqs es es' && Nat.beq c c'
 | .iter (some m) a s l,.iter (some m') a' s' l'=>Nat.beq m m' && Nat.beq a a' && neqs s s' && Nat.beq l l'
 | _,_=>false
theorem Znd {a b:Blk} (h:beqB a b=true):a=b:=by
 unfold beqB at h
 split at h
 ·rw [peqs_eq _ _ h]
 ·rw [peqs_eq _ _ h]
 ·simp only [Bool.and_eq_true,beq_iff_eq] at h
  rw [Nat.eq_of_beq_eq_true h.1.1.1,Nat.eq_of_beq_eq_true h.1.1.2,peqss_eq _ _ h.1.2,h.2]
 ·simp only [Bool.and_eq_true] at h
  rw [Zld _ _ h.1,Nat.eq_of_beq_eq_true h.2]
 ·simp only [Bool.and_eq_true] at h
  rw [Nat.eq_of_beq_eq_true h.1.1.1,Nat.eq_of_beq_eq_true h.1.1.2,Zle _ _ h.1.2,Nat.eq_of_beq_eq_true h.2]
 ·cases h
def heqs:List Blk→List Blk→Bool
 | [],[]=>true
 | x :: xs,y :: ys=>beqB x y && heqs xs ys
 | _,_=>false
theorem Zlf:∀(xs ys:List Blk),heqs xs ys=true→xs=ys
 | [],[],_=>rfl
 | [],_ :: _,h=>by simp [heqs] at h
 | _ :: _,[],h=>by simp [heqs] at h
 | x :: xs,y :: ys,h=>by
  simp only [heqs,Bool.and_eq_true] at h
  rw [Znd h.1,Zlf xs ys h.2]
def memsOf (ops:Array Oper):List Nat:=(List.range (kOf ops)).filter fun i=>match ops[i]? with | some o=>isMem o && !isLook o | none=>false
def freePair (ops:Array Oper):List Nat→Option (Nat × Nat)
 | x :: y :: l=>match ops[x]?,ops[y]? with
  | some a,some b=>if (bindsOn b).contains x || (bindsOn a).contains y then freePair ops (y :: l) else some (x,y)
  | _,_=>none
 | _=>none
def memsU (ops:Array Oper):List Nat:=(memsOf ops).filter fun i=>match ops[i]? with | some o=>!isUser o | none=>false
def pairOf (ops:Array Oper):Option (Nat × Nat):=match freePair ops (memsU ops) with
 | some r=>some r
 | none=>freePair ops (memsOf ops)
def drE (P:Program) (G:Glob) (E:Eval) (nt:Nat):Nat→Array Oper→Tr→List Blk→Option (Tr × List Blk)
 | 0,ops,t,H=>drx P G E nt ops t H
 | f + 1,ops,t,H=>match drx P G E nt ops t H with
  | some r=>some r
  | none=>match pairOf ops with
   | some (x,y)=>match Nat.beq x y with
    | true=>none
    | false=>match drE P G E nt f (addEdge ops x y) t H with
     | some (t1,H1)=>match drE P G E nt f (addEdge ops y x) t H with
      | some (t2,H2)=>match teq t1 t2 && heqs H1 H2 with
       | true=>some (t1,H1)
       | false=>none
      | none=>none
     | none=>none
   | none=>none
theorem ADraw.drE (hE:E.ok P G) {Q:Exit→St→List Blk→Prop}:∀(f:Nat) (ops:Array Oper) (t t':Tr) (H H':List Blk),drE P G E nt f ops t H=some (t',H')→Q .normal t'.st H'→ADraw P G n0 nt ops Q t.st H
 | 0,_,_,_,_,_,h,hq=>ADraw.drx hE h hq
 | f + 1,ops,t,t',H,H',h,hq=>by
  unfold AM.drE at h
  split at h
  ·rename_i r hr
   simp only [Option.some.injEq] at h
   subst h
   exact ADraw.drx hE hr hq
  ·split at h
   ·rename_i x y _
    split at h
    ·cases h
    ·rename_i hxy
     split at h
     ·rename_i t1 H1 h1
      split at h
      ·rename_i t2 H2 h2
       split at h
       ·rename_i hc
        simp only [Bool.and_eq_true] at hc
        simp only [Option.some.injEq,Prod.mk.injEq] at h
        obtain⟨rfl,rfl⟩:=h
        have e1:=teq_eq hc.1
        have e2:=Zlf _ _ hc.2
        subst e1 e2
        exact ADraw.either x y hxy (ADraw.drE hE f _ _ _ _ _ h1 hq) (ADraw.drE hE f _ _ _ _ _ h2 hq)
       ·cases h
      ·cases h
     ·cases h
   ·cases h
theorem AWP.drE {id:Nat} (hE:E.ok P G) (hm:P.follows .mixedOrders=true) {f:Nat} {t t':Tr} {H':List Blk} (h:drE P G E nt f ops t H=some (t',H')) (hq:Q .normal t'.st H'):AWP P G n0 nt (.region id ops true) Q t.st H:=AWP.of_draw hm (ADraw.drE hE f ops t t' H H' h hq)
def slotsOf (rs:Array ResultVar):List Nat:=rs.toList.map fun r=>match r with
 | .tmp t=>t
 | .cell t _=>t
def Blk.top:Blk→Nat
 | .far cs=>PV.tops cs
 | .map es _=>PV.tops (es.map (·.2.2))
 | _=>0
def cloK (K:List Blk):Nat→Nat→Nat
 | 0,m=>max m K.length
 | f + 1,m=>match ((K.take m).map Blk.top).foldl max m with
  | m'=>if Nat.beq m' m then m else cloK K f m'
def finM (m0:Nat) (p:PV) (K:List Blk) (m:Nat):Option (PV × List Blk):=if p.ids (fun j=>Nat.blt j m) && Nat.ble m0 m && ((K.take m).all (Blk.farOk m) || Nat.ble K.length m) then some (p,K.take m) else none
def finx (P:Program) (rs:Array ResultVar) (m0:Nat) (t:Tr) (K:List Blk):Option (PV × List Blk):=match ares P (t.pick (slotsOf rs)) K rs with
 | some p=>finM m0 p K (cloK K 20 (max m0 p.top))
 | none=>none
def ofArgs:Nat→List PV→Tr
 | _,[]=>Tr.e
 | i,p :: ps=>Tr.put (ofArgs (i + 1) ps) p (path i)
theorem Zie:∀(ps:List PV) (i:Nat),i + ps.length≤512→∀ x∈(ofArgs i ps).st,x∈numb i ps
 | [],i,_,x,hx=>by
  obtain⟨_,h⟩:=mem_st.1 hx
  simp [ofArgs,Tr.get_e] at h
 | p :: ps,i,hl,x,hx=>by
  simp only [List.length_cons] at hl
  rcases List.mem_cons.1 (Zeb (by omega) x hx) with h | h
  ·rw [h]; simp [numb]
  ·have:=Zie ps (i + 1) (by omega) x (List.mem_filter.1 h).1
   simp [numb,this]
def callx (P:Program) (X:Ev):Eval:=fun f args H=>match P.funcs[f]? with
 | none=>none
 | some fn=>match fn.body with
  | none=>none
  | some code=>match !(fn.name == "runtime.NumGoroutine") && Nat.ble args.length fn.ntmps && Nat.ble args.length 512 with
   | true=>match X H.length fn.ntmps code (ofArgs 0 args) H with
    | some (.ret,st,K)=>finx P fn.results H.length st K
    | some (.normal,st,K)=>finx P fn.results H.length st K
    | _=>none
   | false=>none
abbrev Tab:=List (Nat × List PV × PV)
def Tab.ok (P:Program) (G:Glob) (T:Tab):Prop:=∀ x∈T,ACall P G x.1 x.2.1 [] (fun q K=>q=x.2.2∧K=[])∧x.2.2.ids (fun _=>false)=true
def shareA:List PV→List Blk→Option (List PV × List Blk)
 | [],H=>some ([],H)
 | p :: ps,H=>match p with
  | .own i n=>match H[i]? with
   | some (.buf s t xs _)=>match Nat.beq n xs.length with
    | true=>match shareA ps (H.set i (.buf s t xs true)) with
     | some (qs,H')=>some (.sl s xs :: qs,H')
     | none=>none
    | false=>none
   | _=>none
  | p=>match p.ids (fun _=>false) with
   | true=>match shareA ps H with
    | some (qs,H')=>some (p :: qs,H')
    | none=>none
   | false=>none
theorem Zgf:∀(ps:List PV) (H:List Blk) (qs:List PV) (H':List Blk),shareA ps H=some (qs,H')→(∀ st c a w β,RelB G c β st H a w→∃ β',RelB G c β' st H' a w)∧(∀(i:Nat) s t xs,H[i]? = some (.buf s t xs true)→H'[i]? = some (.buf s t xs true))∧Wks H' false ps qs∧PV.idss (fun _=>false) qs=true
 | [],H,qs,H',h=>by
  simp only [shareA,Option.some.injEq,Prod.mk.injEq] at h
  obtain⟨rfl,rfl⟩:=h
  exact⟨fun _ _ _ _ β hr=>⟨β,hr⟩,fun _ _ _ _ h=>h,.nil,rfl⟩
 | p :: ps,H,qs,H',h=>by
  unfold shareA at h
  split at h
  ·rename_i i n
   split at h
   ·rename_i s t xs sh hb
    have hil:=(List.getElem?_eq_some_iff.1 hb).1
    split at h
    ·rename_i hn
     have hn:=Nat.eq_of_beq_eq_true hn
     subst hn
     split at h
     ·rename_i qs' K hq
      simp only [Option.some.injEq,Prod.mk.injEq] at h
      obtain⟨rfl,rfl⟩:=h
      obtain⟨g1,g2,g3,g4⟩:=Zgf ps _ _ _ hq
      refine⟨fun st c a w β hr=>g1 st c a w β (hr.share hb),fun j s' t' xs' hj=>g2 j s' t' xs' ?_,.cons _ _ _ _ (.own i s t xs true (g2 i s t xs (by rw [List.getElem?_set_self hil])) (.inr rfl)) g3,by simp only [PV.idss,PV.ids,g4,Bool.and_self]⟩
      by_cases hji:j=i
      ·subst hji; rw [List.getElem?_set_self hil]; rw [hb] at hj; simp at hj ⊢; obtain⟨rfl,rfl,rfl,_⟩:=hj; exact⟨rfl,rfl,rfl⟩
      ·rw [List.getElem?_set_ne (Ne.symm hji)]; exact hj
     ·cases h
    ·cases h
   ·cases h
  ·split at h
   ·rename_i hc
    split at h
    ·rename_i qs' K hq
     simp only [Option.some.injEq,Prod.mk.injEq] at h
     obtain⟨rfl,rfl⟩:=h
     obtain⟨g1,g2,g3,g4⟩:=Zgf ps _ _ _ hq
     exact⟨g1,g2,.cons _ _ _ _ (.refl _) g3,by simp only [PV.idss,hc,g4,Bool.and_self]⟩
    ·cases h
   ·cases h
def findT (f:Nat) (args:List PV):Tab→Option PV
 | []=>none
 | x :: T=>match Nat.beq x.1 f with
  | true=>match peqs x.2.1 args with
   | true=>some x.2.2
   | false=>findT f args T
  | false=>findT f args T
theorem Zgg {f:Nat} {args:List PV} {q:PV}:∀(T:Tab),findT f args T=some q→(f,args,q)∈T
 | [],h=>by simp [findT] at h
 | (g,bs,r) :: T,h=>by
  unfold findT at h
  split at h
  ·rename_i hf
   split at h
   ·rename_i ha
    simp only [Option.some.injEq] at h
    have h1:=Nat.eq_of_beq_eq_true hf
    have h2:=peqs_eq _ _ ha
    simp only at h1 h2
    rw [← h,h1,h2]; simp
   ·exact List.mem_cons_of_mem _ (Zgg T h)
  ·exact List.mem_cons_of_mem _ (Zgg T h)
def hasT (f:Nat):Tab→Bool
 | []=>false
 | x :: T=>match Nat.beq x.1 f with
  | true=>true
  | false=>hasT f T
def plainFn (P:Program) (f:Nat):Bool:=match P.funcs[f]? with
 | some fn=>!fn.body.isNone && !(fn.name == "runtime.NumGoroutine")
 | none=>false
def tabx (P:Program) (T:Tab) (E:Eval):Eval:=fun f args H=>match clonex P f args H with
 | some r=>some r
 | none=>match hasT f T with
 | true=>match shareA args H with
  | some (qs,H')=>match findT f qs T with
   | some q=>match plainFn P f with
    | true=>some (q,H')
    | false=>E f args H
   | none=>E f args H
  | none=>E f args H
 | false=>E f args H
theorem Zne {T:Tab} (hT:T.ok P G) {E:Eval} (hE:E.ok P G):(tabx P T E).ok P G:=by
 intro f args H p H' h
 unfold tabx at h
 split at h
 ·rename_i r hr
  simp only [Option.some.injEq] at h
  subst h
  exact Zma hr
 split at h
 ·split at h
  ·rename_i qs K hs
   split at h
   ·rename_i q hq
    split at h
    ·rename_i hp
     simp only [Option.some.injEq,Prod.mk.injEq] at h
     obtain⟨rfl,rfl⟩:=h
     obtain⟨g1,_,g3,g4⟩:=Zgf (G:=G) _ _ _ _ hs
     obtain⟨k1,k2⟩:=hT _ (Zgg T hq)
     unfold plainFn at hp
     split at hp
     ·rename_i fn hfn
      simp only [Bool.and_eq_true,Bool.not_eq_true'] at hp
      exact .known fn qs hfn hp.1 hp.2 g1 g3 g4 k2 k1
     ·cases hp
    ·exact hE _ _ _ _ _ h
   ·exact hE _ _ _ _ _ h
  ·exact hE _ _ _ _ _ h
 ·exact hE _ _ _ _ _ h
def condSt (t:Tr):Operand→St
 | .tmp k=>t.pick [k]
 | _=>[]
theorem Zif {t:Tr} {c:Operand} {p:PV} (h:opd G (condSt t c) c=some p):opd G t.st c=some p:=by
 cases c with
 | tmp k=>exact Zhm h
 | _=>exact h
def execS (P:Program) (G:Glob) (T:Tab) (X:Ev):Ev:=fun n0 nt code st H=>match code with
 | .skip=>some (.normal,st,H)
 | .region _ ops draw=>match draw with
  | false=>match sqx P G (tabx P T (callx P X)) nt ops (List.range ops.size) st H with
   | some (st',H')=>some (.normal,st',H')
   | none=>none
  | true=>if P.follows .mixedOrders then match drE P G (tabx P T (callx P X)) nt 6 ops st H with
    | some (st',H')=>some (.normal,st',H')
    | none=>none
   else none
 | .seq x y=>match X n0 nt x st H with
  | some (.normal,st',H')=>X n0 nt y st' H'
  | r=>r
 | .cond c t e=>match opd G (condSt st c) c with
  | some (.sc (.bool true))=>X n0 nt t st H
  | some (.sc (.bool false))=>X n0 nt e st H
  | _=>none
 | .block id x=>match X n0 nt x st H with
  | some (.exit j,st',H')=>match Nat.beq j id with
   | true=>some (.normal,st',H')
   | false=>some (.exit j,st',H')
  | r=>r
 | .loop x=>match X n0 nt x st H with
  | some (.normal,st',H')=>X n0 nt (.loop x) st' H'
  | r=>r
 | .exit id=>some (.exit id,st,H)
 | .ret=>some (.ret,st,H)
 | _=>none
def exec (P:Program) (G:Glob) (T:Tab):Nat→Ev
 | 0=>fun _ _ _ _ _=>none
 | n + 1=>execS P G T (exec P G T n)
def Ev.ok (P:Program) (G:Glob) (X:Ev):Prop:=∀ n0 nt code st H e st' H',X n0 nt code st H=some (e,st',H')→AWP P G n0 nt code (fun e1 s1 h1=>e1=e∧s1=st'.st∧h1=H') st.st H
theorem Zlg {rs:Array ResultVar} {m0:Nat} {t:Tr} {K:List Blk} {p:PV} {H':List Blk} {e:Exit} (he:e=.normal∨e=.ret) (h:finx P rs m0 t K=some (p,H')):LeQ G n0 nt (InQ P rs m0 p H') e t.st K:=by
 refine⟨t.pick (slotsOf rs),K,fun c a w β _ _ hr=>⟨β,hr.sub pick_sub⟩,?_⟩
 unfold finx at h
 split at h
 ·rename_i q hq
  generalize cloK K 20 (max m0 q.top)=mm at h
  unfold finM at h
  split at h
  ·rename_i hc
   simp only [Option.some.injEq,Prod.mk.injEq] at h
   obtain⟨rfl,rfl⟩:=h
   simp only [Bool.and_eq_true,Bool.or_eq_true] at hc
   refine⟨he,hq,_,Nat.le_of_ble_eq_true hc.1.2,?_,hc.2.imp id Nat.le_of_ble_eq_true,rfl⟩
   exact PV.ids_mono (fun j hj=>(by have hj':Nat.ble (j + 1) mm=true:=hj; have:=Nat.le_of_ble_eq_true hj'; simp only [decide_eq_true_eq]; omega)) _ hc.1.1
  ·cases h
 ·cases h
theorem Zjf {X:Ev} (hX:X.ok P G) {f:FuncId} {args:List PV} {H:List Blk} {p:PV} {H':List Blk} (h:callx P X f args H=some (p,H')):∃ fn code,P.funcs[f]? = some fn∧fn.body=some code∧(fn.name == "runtime.NumGoroutine")=false∧args.length≤fn.ntmps∧AWP P G H.length fn.ntmps code (InQ P fn.results H.length p H') (numb 0 args) H:=by
 unfold callx at h
 split at h
 ·cases h
 ·rename_i fn hfn
  split at h
  ·cases h
  ·rename_i code hb
   split at h
   ·rename_i hc
    simp only [Bool.and_eq_true,Bool.not_eq_true'] at hc
    refine⟨fn,code,hfn,hb,hc.1.1,Nat.le_of_ble_eq_true hc.1.2,AWP.sub (Zie args 0 (by have:=Nat.le_of_ble_eq_true hc.2; omega)) (AWP.mid _ ?_ fun _ _ _ h=>h)⟩
    split at h
    ·rename_i st K hx
     exact(hX _ _ _ _ _ _ _ _ hx).mono fun e s k ⟨h1,h2,h3⟩=>by subst h1 h2 h3; exact Zlg (.inr rfl) h
    ·rename_i st K hx
     exact(hX _ _ _ _ _ _ _ _ hx).mono fun e s k ⟨h1,h2,h3⟩=>by subst h1 h2 h3; exact Zlg (.inl rfl) h
    ·cases h
   ·cases h
theorem Zmy {X:Ev} (hX:X.ok P G):(callx P X).ok P G:=fun f args H p H' h=>by
 obtain⟨fn,code,h1,h2,h3,h4,h5⟩:=Zjf hX h
 exact .run fn code h1 h2 h3 h4 h5
theorem Zlh {T:Tab} (hT:T.ok P G):∀(N m:Nat),m≤N→(exec P G T m).ok P G
 | N,0,_=>fun _ _ _ _ _ _ _ _ h=>by simp [exec] at h
 | 0,m + 1,hm=>absurd hm (by omega)
 | N + 1,m + 1,hm=>by
  have ih:∀ m',m'≤m→(exec P G T m').ok P G:=fun m' h'=>Zlh hT N m' (by omega)
  have hX:=ih m (Nat.le_refl _)
  have hE:=Zne hT (Zmy hX)
  intro n0 nt code st H e st' H' h
  simp only [exec] at h
  unfold execS at h
  split at h
  ·simp only [Option.some.injEq,Prod.mk.injEq] at h
   obtain⟨rfl,rfl,rfl⟩:=h
   exact AWP.skip ⟨rfl,rfl,rfl⟩
  ·split at h
   ·split at h
    ·rename_i s1 h1 hs
     simp only [Option.some.injEq,Prod.mk.injEq] at h
     obtain⟨rfl,rfl,rfl⟩:=h
     exact AWP.region rfl (AOps.sqx hE _ _ _ _ _ hs ⟨rfl,rfl,rfl⟩)
    ·cases h
   ·split at h
    ·rename_i hm
     split at h
     ·rename_i s1 h1 hs
      simp only [Option.some.injEq,Prod.mk.injEq] at h
      obtain⟨rfl,rfl,rfl⟩:=h
      exact AWP.drE hE hm hs ⟨rfl,rfl,rfl⟩
     ·cases h
    ·cases h
  ·rename_i x y
   refine AWP.seq ?_
   split at h
   ·rename_i s1 h1 hx
    refine(hX _ _ _ _ _ _ _ _ hx).mono fun e1 s k ⟨g1,g2,g3⟩=>?_
    subst g1 g2 g3
    exact hX _ _ _ _ _ _ _ _ h
   ·rename_i r hne
    refine(hX _ _ _ _ _ _ _ _ h).mono fun e1 s k ⟨g1,g2,g3⟩=>?_
    subst g1 g2 g3
    cases e1 with
    | normal=>exact absurd h (hne _ _)
    | _=>exact⟨rfl,rfl,rfl⟩
  ·rename_i c t e'
   split at h
   ·rename_i hc; exact AWP.cT (hX _ _ _ _ _ _ _ _ h) (Zif hc)
   ·rename_i hc; exact AWP.cF (hX _ _ _ _ _ _ _ _ h) (Zif hc)
   ·cases h
  ·rename_i id x
   refine AWP.block ?_
   split at h
   ·rename_i j s1 h1 hx
    refine(hX _ _ _ _ _ _ _ _ hx).mono fun e1 s k ⟨g1,g2,g3⟩=>?_
    subst g1 g2 g3
    simp only [blockQ]
    split at h
    ·rename_i hb
     simp only [Option.some.injEq,Prod.mk.injEq] at h
     obtain⟨rfl,rfl,rfl⟩:=h
     rw [hb]; exact⟨rfl,rfl,rfl⟩
    ·rename_i hb
     simp only [Option.some.injEq,Prod.mk.injEq] at h
     obtain⟨rfl,rfl,rfl⟩:=h
     rw [hb]; exact⟨rfl,rfl,rfl⟩
   ·rename_i r hne
    refine(hX _ _ _ _ _ _ _ _ h).mono fun e1 s k ⟨g1,g2,g3⟩=>?_
    subst g1 g2 g3
    cases e1 with
    | exit j=>exact absurd h (hne _ _ _)
    | _=>exact⟨rfl,rfl,rfl⟩
  ·rename_i x
   refine AWP.loop (fun n s k=>n≤m + 1∧∃ t:Tr,s=t.st∧exec P G T n n0 nt (.loop x) t k=some (e,st',H')) (m + 1) ⟨Nat.le_refl _,st,rfl,by simp only [exec]; unfold execS; exact h⟩ ?_
   intro n s k ⟨hn,t,hs,hx⟩
   subst hs
   cases n with
   | zero=>simp [exec] at hx
   | succ n=>
    simp only [exec] at hx
    unfold execS at hx
    simp only [] at hx
    split at hx
    ·rename_i s1 h1 hb
     refine(ih n (by omega) _ _ _ _ _ _ _ _ hb).mono fun e1 s k ⟨g1,g2,g3⟩=>?_
     subst g1 g2 g3
     exact⟨n,by omega,by omega,_,rfl,hx⟩
    ·rename_i r hne
     refine(ih n (by omega) _ _ _ _ _ _ _ _ hx).mono fun e1 s k ⟨g1,g2,g3⟩=>?_
     subst g1 g2 g3
     cases e1 with
     | normal=>exact absurd hx (hne _ _)
     | _=>exact⟨rfl,rfl,rfl⟩
  ·simp only [Option.some.injEq,Prod.mk.injEq] at h
   obtain⟨rfl,rfl,rfl⟩:=h
   exact AWP.exit ⟨rfl,rfl,rfl⟩
  ·simp only [Option.some.injEq,Prod.mk.injEq] at h
   obtain⟨rfl,rfl,rfl⟩:=h
   exact AWP.ret ⟨rfl,rfl,rfl⟩
  ·cases h
def known (P:Program) (G:Glob) (T:Tab) (N:Nat) (f:FuncId) (args:List PV):Option PV:=match callx P (exec P G T N) f args [] with
 | some (p,K)=>pureOf K p
 | none=>none
theorem ACall.exec {f:FuncId} {args:List PV} {p:PV} {T:Tab} (hT:T.ok P G) (N:Nat) (h:known P G T N f args=some p):ACall P G f args [] (fun q K=>q=p∧K=[])∧p.ids (fun _=>false)=true:=by
 unfold known at h
 split at h
 ·rename_i q K hc
  refine⟨?_,(Zdw (Sub.refl K) h).2⟩
  obtain⟨fn,code,h1,h2,h3,h4,h5⟩:=Zjf (Zlh hT N N (Nat.le_refl _)) hc
  refine ACall.of_AWP h1 h2 h4 (h5.mono fun e s k ⟨g1,g2,m,g3,g4,_,g5⟩=>?_)
  subst g5
  obtain⟨k1,k2⟩:=Zdw (Zj4 k m) h
  exact⟨g1,q,p,0,g2,k1,Nat.le_refl _,Nat.zero_le _,PV.ids_mono (fun j hj=>by cases hj) _ k2,by simp,rfl,by simp⟩
 ·cases h
theorem Tab.nil:Tab.ok P G []:=fun _ h=>by cases h
theorem Tab.cons {f:FuncId} {args:List PV} {p:PV} {T:Tab} (hT:T.ok P G) (N:Nat) (h:known P G T N f args=some p):Tab.ok P G ((f,args,p) :: T):=fun x hx=>by
 rcases List.mem_cons.1 hx with rfl | hx
 ·exact ACall.exec hT N h
 ·exact hT x hx
end
end Go.AM
namespace Go.AM
section
variable {P:Program} {G:Glob} {n0 nt:Nat} {ops:Array Oper} {st:St} {H:List Blk} {E:Eval}
abbrev LP:=List (Exit × Tr × List Blk) × List (PV × PV)
abbrev EvL:=Nat→Nat→Code→Tr→List Blk→Option LP
def EvL.ok (P:Program) (G:Glob) (X:EvL):Prop:=∀ n0 nt code st H l,X n0 nt code st H=some l→(∀ x∈l.2,x.1=x.2)→AWP P G n0 nt code (fun e1 s1 h1=>∃ r∈l.1,e1=r.1∧s1=r.2.1.st∧h1=r.2.2) st.st H
end
end Go.AM
namespace Go.AM
section
variable {P:Program} {G:Glob} {n0 nt:Nat} {o:Oper} {st:St} {H:List Blk}
end
end Go.AM
namespace Go.AM
section
variable {P:Program} {G:Glob} {n0 nt:Nat} {o:Oper} {st:St} {H:List Blk}
theorem OpT.exn {cl:Call} {f:FuncId} {fn:Func} {e:Array Value→Sem Value} {cs:List Value} {p:PV} (ho:o.op=.call cl) (hc:cl.callee=.value (.func f)) (hfn:P.funcs[f]? = some fn) (hname:(fn.name == "runtime.NumGoroutine")=false)
  (hb:fn.body.isNone=true) (hn:Extern.findNext fn=none) (he:Extern.find fn=some e) (hargs:cl.args.toList.map (opd G st)=(cs.map PV.sc).map some)
  (hrun:∀ w,∃ v,(e cs.toArray).run P w=.ok v w∧∀ S β,VR S β w p v):OpT P G n0 o st H p H:=
 OpT.value fun c a w β h0 hr=>by
  have h1:=VRs.scs_iff _ _ (VRs.of_opds hr cl.args.toList _ hargs)
  have h2:cl.args.map a.eval=cs.toArray:=by
   apply Array.toList_inj.1
   simpa using h1
  obtain⟨v,h3,h4⟩:=hrun w
  refine⟨v,?_,h4 _ _⟩
  have h5:=run_callFunc_extern hfn hname hb hn he cs.toArray w
  rw [h3] at h5
  have hfe:a.eval (.func f)=.func (.func f) #[] #[]:=rfl
  simp [execOp,ho,resolve,hc,hfe,Deferred.ofValue,invoke,h2,h5]
def Hnd.ext {f:FuncId} {fn:Func} {e:Array Value→Sem Value} {cs:List Value} {p:PV} (hrun:∀(P:Program) w,∃ v,(e cs.toArray).run P w=.ok v w∧∀ S β,VR S β w p v)
  (hfn:P.funcs[f]? = some fn) (hname:(fn.name == "runtime.NumGoroutine")=false) (hb:fn.body.isNone=true) (hn:Extern.findNext fn=none) (he:Extern.find fn=some e):Hnd P G where
 run o st H:=match o.op with
  | .call cl=>match cl.callee with
   | .value (.func g)=>match opdL G st cl.args.toList with
    | some ps=>if Nat.beq g f then some ⟨p,H,[.ps ps],[.ps (cs.map PV.sc)]⟩ else none
    | none=>none
   | _=>none
  | _=>none
 sound:=by
  intro n0 o st H x h he'
  suffices hT:OpT P G n0 o st H x.p x.H from hT.weak
  split at h
  ·rename_i cl ho
   split at h
   ·rename_i g hc
    split at h
    ·rename_i ps hps
     split at h
     ·rename_i hg
      have hg:=Nat.eq_of_beq_eq_true hg
      subst hg
      simp only [Option.some.injEq] at h
      subst h
      simp only [List.cons.injEq,T.ps.injEq,and_true] at he'
      subst he'
      exact OpT.exn ho hc hfn hname hb hn he (Za8 _ _ hps) (hrun P)
     ·cases h
    ·cases h
   ·cases h
  ·cases h
end
end Go.AM
namespace Go.AM
section
variable {P:Program} {G:Glob} {c:Ctx} {β:List Bnd} {st:St} {H:List Blk} {a:Act} {w:World} {n0 nt:Nat} {o:Oper}
theorem VR.closed {S S':Nat→Nat→Prop} {w':World} {β':List Bnd} (hx:Ext S w S' w') {p:PV} {u:Value} (hp:p.ids (fun _=>false)=true) (h:VR S β w p u):VR S' β' w' p u:=
 VR.ext hx (q:=fun _=>false) (fun i e hq _=>by cases hq) p u hp h
theorem VRs.closed {S S':Nat→Nat→Prop} {w':World} {β':List Bnd} (hx:Ext S w S' w') {ps:List PV} {us:List Value} (hp:PV.idss (fun _=>false) ps=true) (h:VRs S β w ps us):VRs S' β' w' ps us:=
 VRs.ext hx (q:=fun _=>false) (fun i e hq _=>by cases hq) ps us hp h
theorem RelB.callB (h:RelB G c β st H a w) {i s t:Nat} {xs ys:List (List PV)} {e:Bnd} (he:β[i]? = some e) (hb:H[i]? = some (.buf s t xs false)) (hne:xs ≠ []) (hlen:ys.length=xs.length) (hys:∀ y∈ys,y.length=s) :
  ∃(g cap:Nat) (sp:List Value),xs.length≤cap∧e.v=.slice (some ⟨g,0,none⟩) xs.length cap∧InOk G (stab c β H w) [⟨g,undef,0,0⟩] [.cells (xs.flatten++sp.map .sc)] w ∧
   ∀ γ w',OutOk (stab c β H w) [⟨g,undef,0,0⟩] γ [.cells (ys.flatten++sp.map .sc)] w w' →
    γ=[]∧RelB G c (β.set i ⟨e.b,e.v,ys.length,s⟩) st (H.set i (.buf s t ys false)) a w' ∧
    Ext (stab c β H w) w (stab c (β.set i ⟨e.b,e.v,ys.length,s⟩) (H.set i (.buf s t ys false)) w') w'∧BExt (fun _=>true) β (β.set i ⟨e.b,e.v,ys.length,s⟩) ∧
    Ext (stab1 (stab c β H w) γ w w') w' (stab c (β.set i ⟨e.b,e.v,ys.length,s⟩) (H.set i (.buf s t ys false)) w') w':=by
 obtain⟨q1,q2,q3,vals0,⟨q4,q4'⟩,q5⟩:=h.blk i e _ he hb
 rcases q4' with ⟨_,q6⟩ | ⟨g,cap,cur,e1,e2,e3,e4,e5,e6,e7⟩
 ·exact absurd (List.eq_nil_of_length_eq_zero q6) hne
 have hg:e.v.ownBlock=some g:=by rw [e1]; rfl
 have hn0:c.β0.length≤i:=by
  rcases Nat.lt_or_ge i c.β0.length with hlt | hge
  ·obtain⟨cs,hc,hcf⟩:=h.cel i hlt
   rw [hb] at hc; cases hc; cases hcf
  ·exact hge
 obtain⟨hg0,hgl⟩:=h.loc i e _ g hn0 he hb hg
 have hgs:∀ b hi,stab c β H w b hi→g ≠ b:=fun b hi hs=>by
  rcases hs with hs | ⟨_,_,h3⟩
  ·have:=(h.ok.old b hi hs).1; omega
  ·intro hgb
   have:=(h3 i e _ he hb (by rw [hg,hgb])).1
   cases this
 have hfl:xs.flatten.length=xs.length * s:=Zb4 xs q3
 have hfy:ys.flatten.length=ys.length * s:=Zb4 ys hys
 let sp:=cur.toList.drop (xs.length * s)
 have hcur:cur.toList=vals0++sp:=by rw [← e7]; exact(List.take_append_drop _ _).symm
 have hidx:PV.idss (fun _=>false) xs.flatten=true:=by
  have:=VRs.idsLt _ _ q5
  refine PV.idss_mono (fun j hj=>?_) _ this
  simp at hj
 refine⟨g,cap,sp,e4,e1,⟨⟨fun b hi hs=>⟨Zdl h hs,fun f hf=>?_⟩,fun gl cs hgl'=>?_,fun f hf=>?_,fun b hi hi' h1 h2=>h.ok.stab h1 h2⟩,rfl,fun j f k hj hk=>?_,fun j k f f' hjk hf hf'=>?_⟩,fun γ w' ho=>?_⟩
 ·simp only [List.mem_singleton] at hf; subst hf; exact hgs b hi hs
 ·obtain⟨h1,h2⟩:=h.ok.glob gl cs hgl'
  exact⟨h.ext0.stab _ _ h1,VRow.ext h.ext0 (BExt.refl _ _) gl cs.length h1 cs 0 (by omega) (PV.idss_true cs) h2⟩
 ·simp only [List.mem_singleton] at hf; subst hf; exact hgl
 ·cases j with
  | succ j=>simp at hj
  | zero=>
   simp at hj hk; subst hj hk
   refine⟨rfl,?_,cur,t,e3,?_⟩
   ·rw [PV.idss_append,Zfd,Bool.and_true]
    exact PV.idss_mono (fun _ hf=>by cases hf) _ hidx
   ·rw [hcur]
    exact VRs.append _ _ _ _ (VRs.closed (Ext.refl _ _) hidx q5) (VRs.scs sp)
 ·cases j with
  | succ j=>simp at hf
  | zero=>cases k with
   | zero=>exact absurd rfl hjk
   | succ k=>simp at hf'
 ·have hγ:γ=[]:=by
   have:=ho.len
   simp at this
   exact this
  subst hγ
  obtain⟨_,hid,vs,t',k2,k3⟩:=ho.blk 0 ⟨g,undef,0,0⟩ _ rfl rfl
  obtain⟨vs1,k4⟩:=ho.frm.typ g cur t e3
  obtain⟨_,rfl⟩:=Zfb k2 k4
  have hvl:=VRs.length _ _ k3
  have k5:=VRs.take ys.flatten.length _ _ k3
  have k6:=VRs.drop ys.flatten.length _ _ k3
  rw [List.take_left] at k5
  rw [List.drop_left] at k6
  have hspl:sp.length=cap * s - xs.length * s:=by simp only [sp,List.length_drop,Array.length_toList,e6]
  have hmul:xs.length * s≤cap * s:=Nat.mul_le_mul_right s e4
  have hvsz:vs.size=cap * s:=by
   simp only [List.length_append,List.length_map,Array.length_toList] at hvl
   rw [hvl,hfy,hspl,hlen]; omega
  have hidy:PV.idss (fun _=>false) ys.flatten=true:=by
   rw [PV.idss_append,Bool.and_eq_true] at hid
   refine PV.idss_mono (fun j hj=>?_) _ hid.1
   simp at hj
  have hst:∀(β':List Bnd) (H':List Blk),(∀(j:Nat) f k,β'[j]? = some f→H'[j]? = some k→(j ≠ i∧β[j]? = some f∧H[j]? = some k)∨(j=i∧f.v=e.v∧∃ s' t' xs' ,k=.buf s' t' xs' false)) →
    Ext (stab c β H w) w (stab c β' H' w') w'→Ext (stab1 (stab c β H w) [] w w') w' (stab c β' H' w') w':=fun β' H' hk hx=>by
   refine⟨fun b hi hs=>?_,fun _ _ _ _ _ _ h=>h⟩
   rcases hs with hs | ⟨h1,h2,_⟩
   ·exact hx.stab b hi hs
   ·refine .inr ⟨Nat.le_trans h.frm.size h1,h2,fun j f k hj hj'=>?_⟩
    rcases hk j f k hj hj' with ⟨_,g1,g2⟩ | ⟨rfl,g1,s',t',xs',rfl⟩
    ·cases k with
     | cells cs=>exact fun hb'=>by have:=at_lt (h.blk j f _ g1 g2) (b:=b) (by simp [Blk.at,hb']); omega
     | map es cl=>exact fun hb'=>by have:=at_lt (h.blk j f _ g1 g2) (b:=b) (by simp [Blk.at,hb']); omega
     | far cs=>exact fun hb'=>by have:=at_lt (h.blk j f _ g1 g2) (b:=b) (by simp [Blk.at,hb']); omega
     | dead=>trivial
     | fm l=>exact fun hb'=>by have:=at_lt (h.blk j f _ g1 g2) (b:=b) (by simp [Blk.at,hb']); omega
     | iter m since seen last=>exact fun hb'=>by have:=at_lt (h.blk j f _ g1 g2) (b:=b) (by simp [Blk.at,hb']); omega
     | buf s' t' xs' sh=>exact fun hb'=>by have:=at_lt (h.blk j f _ g1 g2) (b:=b) hb'; omega
    ·intro hb'
     rw [g1,hg] at hb'
     cases hb'; omega
  have hkey:∀(j:Nat) f k,(β.set i ⟨e.b,e.v,ys.length,s⟩)[j]? = some f→(H.set i (.buf s t ys false))[j]? = some k→(j ≠ i∧β[j]? = some f∧H[j]? = some k)∨(j=i∧f.v=e.v∧∃ s' t' xs' ,k=.buf s' t' xs' false):=fun j f k hf hk=>by
   rcases get_set hf with ⟨hji,hf⟩ | ⟨rfl,rfl⟩
   ·rcases get_set hk with ⟨_,hk⟩ | ⟨e,_⟩
    ·exact .inl ⟨hji,hf,hk⟩
    ·exact absurd e hji
   ·rcases get_set hk with ⟨e,_⟩ | ⟨_,rfl⟩
    ·exact absurd rfl e
    ·exact .inr ⟨rfl,rfl,s,t,ys,rfl⟩
  have hre:=h.rebuf' he hb (w':=w') (v':=e.v) (xs':=ys) (vals:=vs.toList.take ys.flatten.length) ho.frm.os ho.frm.tape ho.frm.output ho.frm.drawn ho.frm.size
   (fun b hlt hne'=>ho.frm.block b hlt fun f hf=>by simp only [List.mem_singleton] at hf; subst hf; exact fun hgb=>hne' (by rw [hg]; exact congrArg some hgb))
   (by omega) (fun _=>rfl) (fun h=>by cases h)
   ⟨by rw [List.length_take,hfy,show vs.toList.length=cap * s by simpa using hvsz,hlen]; omega,.inr ⟨g,cap,vs,by rw [hlen]; exact e1,e2,k2,by omega,e5,hvsz,by rw [hfy]⟩⟩
   (fun g' hg'=>.inl hg') hys
   (fun hx=>VRs.closed (hst _ _ hkey hx) hidy k5)
  exact⟨rfl,hre.1,hre.2.1,hre.2.2,hst _ _ hkey hre.2.1⟩
theorem OpT.callB {cl:Call} {x:Operand} {f:FuncId} {fn:Func} {i s t:Nat} {xs ys:List (List PV)} {rest:List PV} {p:PV}
  (ho:o.op=.call cl) (hc:cl.callee=.value x) (hx:opd G st x=some (.sc (.func (.func f) #[] #[])))
  (hfn:P.funcs[f]? = some fn) (hbody:fn.body.isNone=false) (hname:(fn.name == "runtime.NumGoroutine")=false)
  (hargs:cl.args.toList.map (opd G st)=(.own i xs.length :: rest).map some) (hrest:PV.idss (fun _=>false) rest=true) (hb:H[i]? = some (.buf s t xs false)) (hne:xs ≠ [])
  (hlen:ys.length=xs.length) (hys:∀ y∈ys,y.length=s)
  (hcall:∀ sp:List Value,ACall P G f (.vw 0 0 xs.length :: rest) [.cells (xs.flatten++sp.map .sc)] (fun q K=>q=p∧K=[.cells (ys.flatten++sp.map .sc)])) (hp:p.ids (fun _=>false)=true) :
  OpT P G n0 o st H p (H.set i (.buf s t ys false)):=by
 intro c a w β h0 hr
 have hv:=VRs.of_opds hr cl.args.toList _ hargs
 have hlv:=VRs.length _ _ hv
 obtain⟨u,us,hus⟩:∃ u us,cl.args.toList.map a.eval=u :: us:=by
  cases hq:cl.args.toList.map a.eval with
  | nil=>rw [hq] at hlv; simp at hlv
  | cons u us=>exact⟨u,us,rfl⟩
 rw [hus] at hv
 simp only [VRs] at hv
 obtain⟨hv1,hv2⟩:=hv
 simp only [VR] at hv1
 obtain⟨_,e,he,_,hve⟩:=hv1
 obtain⟨q1,_⟩:=hr.blk i e _ he hb
 have hve:=hve q1.symm
 obtain⟨g,cap,sp,k1,k2,k3,k4⟩:=hr.callB he hb hne hlen hys
 have hxe:=hr.opd hx
 simp only [VR] at hxe
 have hex:(execOp a.eval o).run P w=.ok (.enter f (cl.args.map a.eval)) w:=by
  have hn:¬ fn.name= "runtime.NumGoroutine":=by simpa using hname
  have hb:¬ fn.body=none:=by cases hq:fn.body <;> simp [hq] at hbody ⊢
  simp [execOp,ho,resolve,hc,hxe,Deferred.ofValue,invoke,callFunc,hfn,hn,hb]
 simp only [wpv,hex]
 refine(hcall sp _ _ w (cl.args.map a.eval) k3 ?_).mono ?_
 ·have:(cl.args.map a.eval).toList=u :: us:=by simpa using hus
  rw [this]
  simp only [VRs]
  refine⟨?_,VRs.closed (Ext.refl _ _) hrest hv2⟩
  simp only [VR]
  exact⟨_,rfl,cap,_,k1,by rw [hve,k2],fun _=>rfl⟩
 ·rintro ex w' ⟨v,q,K,γ,rfl,⟨rfl,rfl⟩,hout,hvr⟩
  obtain⟨rfl,g1,g2,g3,g4⟩:=k4 γ w' hout
  exact⟨v,rfl,_,g1,VR.closed g4 hp hvr,g3,g2⟩
variable {α:Type}
def cel (row:α→List PV) (l:List α) (sp:List Value):List PV:=(l.map row).flatten++sp.map .sc
def Hnd.callB {f:FuncId} {fn:Func} (row:α→List PV) {s:Nat} {l l':List α} {rest:List PV} {p1:PV} (hfn:P.funcs[f]? = some fn) (hrow:∀ z,(row z).length=s) (hne:l ≠ []) (hlen:l'.length=l.length)
  (hc:∀ sp,ACall P G f (.vw 0 0 l.length :: rest) [.cells (cel row l sp)] (fun q K=>q=p1∧K=[.cells (cel row l' sp)])):Hnd P G where
 run o st H:=match o.op with
  | .call cl=>match cl.callee with
   | .value x=>match opd G st x,opdL G st cl.args.toList with
    | some px,some (.own i n :: rest')=>match H[i]? with
     | some (.buf s' t xs false)=>
      if fn.body.isNone=false∧(fn.name == "runtime.NumGoroutine")=false∧PV.idss (fun _=>false) rest=true∧p1.ids (fun _=>false)=true∧Nat.beq s s'=true then
       some ⟨p1,H.set i (.buf s' t (l'.map row) false),[.p px,.n n,.ps rest',.rs xs],[.p (.sc (.func (.func f) #[] #[])),.n l.length,.ps rest,.rs (l.map row)]⟩
      else none
     | _=>none
    | _,_=>none
   | _=>none
  | _=>none
 sound:=by
  intro n0 o st H x h he
  suffices hT:OpT P G n0 o st H x.p x.H from hT.weak
  split at h
  ·rename_i cl ho
   split at h
   ·rename_i x hcl
    split at h
    ·rename_i px i n rest' hx hps
     split at h
     ·rename_i s' t xs hb
      split at h
      ·rename_i hcond
       obtain⟨c1,c2,c3,c4,c5⟩:=hcond
       simp only [Option.some.injEq] at h
       subst h
       simp only [List.cons.injEq,T.p.injEq,T.ps.injEq,T.n.injEq,T.rs.injEq,and_true] at he
       obtain⟨rfl,rfl,rfl,rfl⟩:=he
       have c5:=Nat.eq_of_beq_eq_true c5
       subst c5
       have hl1:(l.map row).length=l.length:=List.length_map ..
       refine OpT.callB (xs:=l.map row) (ys:=l'.map row) ho hcl hx hfn c1 c2 (by rw [hl1]; exact Za8 _ _ hps) c3 hb (by simpa using hne) (by simpa using hlen) ?_ (fun sp=>?_) c4
       ·intro y hy
        obtain⟨z,_,rfl⟩:=List.mem_map.1 hy
        exact hrow z
       ·rw [hl1]; exact hc sp
      ·cases h
     ·cases h
    ·cases h
   ·cases h
  ·cases h
end
end Go.AM
namespace Go.AM
section
variable {P:Program} {G:Glob} {n0 nt:Nat} {o:Oper} {st:St} {H:List Blk}
def Hnd.q:Hnd P G where
 run o st H:=(quietx P G true st H o).map fun p=>⟨p,H,[],[]⟩
 sound:=by
  intro n0 o st H x h he
  simp only [Option.map_eq_some_iff] at h
  obtain⟨p,h1,rfl⟩:=h
  exact(OpT.of_quiet (Sub.refl H) h1).weak
variable {α:Type}
end
end Go.AM
namespace Go.AM
section
variable {P:Program} {G:Glob} {n0 nt:Nat} {o:Oper} {st:St} {H:List Blk}
def Hnd.m:Hnd P G where
 run o st H:=(memx P G #[] st H o).map fun r=>⟨r.1,r.2,[],[]⟩
 sound:=by
  intro n0 o st H x h he
  simp only [Option.map_eq_some_iff] at h
  obtain⟨p,h1,rfl⟩:=h
  exact(OpT.of_memx h1).weak
variable {α:Type}
end
end Go.AM
namespace Go.AM
section
variable {P:Program} {G:Glob} {n0 nt:Nat} {o:Oper} {st:St} {H:List Blk}
variable {α:Type}
end
end Go.AM
namespace Go.AM
section
variable {P:Program} {G:Glob} {n0 nt:Nat} {o:Oper} {st:St} {H:List Blk}
def Hnd.callF {f:FuncId} {fn:Func} {args0:List PV} {H0 H1:List Blk} {p1:PV} (hfn:P.funcs[f]? = some fn) (ws:List Ow) (hc:ACall P G f args0 H0 (fun q K=>q=p1∧K=H1)):Hnd P G where
 run o st H:=match o.op with
  | .call cl=>match cl.callee with
   | .value x=>match opd G st x,opdL G st cl.args.toList with
    | some (.fn f' caps),some ps=>match wkArgs P H false fn.params.toList ps ws with
     | some (qs,l,r)=>
      let σ:=ptrsOf (ps++caps)
      if fn.body.isNone=false∧(fn.name == "runtime.NumGoroutine")=false∧σ.Pairwise (·<·)∧H0.all Blk.isCells=true then
       some ⟨p1.ren (renId σ H.length),setAll σ (H1.map (Blk.ren (renId σ H.length))) H,.n f' :: .ps (qs++caps) :: .bs (H0.map (fun k=>some (k.ren (renId σ H.length)))) :: l,
        .n f :: .ps (PV.rens (renId σ H.length) args0) :: .bs (σ.map (H[·]?)) :: r⟩
      else none
     | _=>none
    | _,_=>none
   | _=>none
  | _=>none
 sound:=by
  intro n0 o st H x h he
  suffices hT:OpT P G n0 o st H x.p x.H from hT.weak
  split at h
  ·rename_i cl ho
   split at h
   ·rename_i x hcl
    split at h
    ·rename_i f' caps ps hx hps
     split at h
     ·rename_i qs l r hw
      simp only [] at h
      split at h
      ·rename_i hcond
       obtain⟨c1,c2,c3,c4⟩:=hcond
       simp only [Option.some.injEq] at h
       subst h
       simp only [List.cons.injEq,T.n.injEq,T.ps.injEq,T.bs.injEq] at he
       obtain⟨h1,h2,h3,h4⟩:=he
       subst h1
       exact OpT.call (caps:=caps) ho hcl (.inr hx) hfn c1 c2 (Za8 _ _ hps) (Wks.append (Zcv _ _ _ _ hw h4) (Wks.refl _ _ _)) h2 c3 c4 h3 hc rfl rfl
      ·cases h
     ·cases h
    ·cases h
   ·cases h
  ·cases h
variable {α β:Type}
end
end Go.AM
namespace Go.AM
section
variable {P:Program} {G:Glob} {n0 nt:Nat} {o:Oper} {st:St} {H:List Blk}
theorem VRow.wks {S:Nat→Nat→Prop} {w:World} {b:Nat} {ps qs:List PV} (h:Wks [] false ps qs):∀ o,VRow S [] w b o ps→VRow S [] w b o qs:=by
 induction h with
 | nil=>exact fun _ h=>h
 | cons p q ps qs h1 h2 ih=>
  intro o hr
  simp only [VRow] at hr ⊢
  obtain⟨⟨u,g1,g2⟩,g3⟩:=hr
  refine⟨⟨u,g1,?_⟩,ih _ g3⟩
  cases h1 with
  | refl=>exact g2
  | nil s=>simp only [VR] at g2 ⊢; subst g2; exact⟨none,0,rfl,Nat.le_refl _,.inl trivial⟩
  | own i s t xs sh hb hs=>simp at hb
theorem Wks.length {H:List Blk} {any:Bool} {ps qs:List PV} (h:Wks H any ps qs):qs.length=ps.length:=by
 induction h with
 | nil=>rfl
 | cons p q ps qs h1 h2 ih=>simp [ih]
end
end Go.AM
namespace Go.AM
section
variable {P:Program} {G:Glob} {n0 nt:Nat} {o:Oper} {st:St} {H:List Blk}
end
end Go.AM
namespace Go.AM
section
variable {P:Program} {G:Glob} {n0 nt:Nat} {o:Oper} {st:St} {H:List Blk}
def closedH:List Blk→Prop
 | []=>True
 | .cells cs :: ks=>PV.idss (fun _=>false) cs=true∧closedH ks
 | .buf .. :: ks=>closedH ks
 | .map .. :: _=>False
 | .far _ :: _=>False
 | .dead :: ks=>closedH ks
 | .fm _ :: ks=>closedH ks
 | .iter .. :: _=>False
theorem closedH.n:closedH []:=trivial
theorem closedH.c {cs:List PV} {ks:List Blk} (h:PV.idss (fun _=>false) cs=true) (hk:closedH ks):closedH (.cells cs :: ks):=⟨h,hk⟩
end
end Go.AM
namespace Go.AM
section
variable {P:Program} {G:Glob} {n0 nt:Nat} {o:Oper} {st:St} {H:List Blk}
variable {α:Type}
end
end Go.AM
namespace Go.AM
section
variable {P:Program} {G:Glob} {n0 nt:Nat} {o:Oper} {st:St} {H:List Blk}
end
end Go.AM
namespace Go.AM
section
variable {P:Program} {G:Glob} {n0 nt:Nat} {o:Oper} {st:St} {H:List Blk} {c:Ctx} {β:List Bnd} {a:Act} {w:World}
theorem OpT.slice_cut {t e s ty i n:Nat} {x:Operand} {lo hi:Option Operand} {h:Int} {xs:List (List PV)} {sh:Bool} (ho:o.op=.slice t x lo hi none) (hu:P.underlying t=some (.slice e)) (hz:P.cellsOf e=s) (hs0:s ≠ 0)
  (hx:opd G st x=some (.own i n)) (hb:H[i]? = some (.buf s ty xs sh)) (hn:n=xs.length) (hlo:loOf G st lo=some 0) (hhi:hiOf G st n hi=some h) (h0:0≤h) (h2:h≤n):OpT P G n0 o st H (.oc i n h.toNat) H:=
 OpT.value fun c a w β hn0 hr=>by
  have g1:=hr.opd hx
  simp only [VR] at g1
  obtain⟨_,ed,he,k1,k2⟩:=g1
  obtain⟨q1,q2,q3,vals,⟨q4,q5⟩,q6⟩:=hr.blk i ed _ he hb
  have hv:=k2 (by omega)
  rcases q5 with ⟨q5,q7⟩ | ⟨g,cap,cur,e1,e2,e3,e4,e5,e6,e7⟩
  ·have hsb:=Zb9 (P:=P) hr hlo hhi (Int.le_refl 0) h0 h2 (show n≤0 by omega)
   have hh:h=0:=by omega
   subst hh
   rw [q5] at hv
   have hn':n=0:=by omega
   rw [hn'] at hsb
   refine⟨.slice none 0 0,?_,?_⟩
   ·simp [execOp,ho,Instr.sliceAt,run_underlying hu,Instr.slice,hv,hsb,Zad hz hs0]
   ·simp only [VR]
    exact⟨by rfl,ed,he,k1,fun _=>.inl ⟨rfl,trivial,q5⟩⟩
  ·have hsb:=Zb9 (P:=P) hr hlo hhi (Int.le_refl 0) h0 h2 (show n≤cap by omega)
   rw [e1,← hn] at hv
   refine⟨.slice (some ⟨g,0,none⟩) h.toNat cap,?_,?_⟩
   ·by_cases hc:cap=0
    ·rw [hc] at hsb
     simp [execOp,ho,Instr.sliceAt,run_underlying hu,Instr.slice,hv,hsb,Zad hz hs0,hc]
    ·simp [execOp,ho,Instr.sliceAt,run_underlying hu,Instr.slice,hv,hsb,Zad hz hs0,hc,Zaf]
   ·simp only [VR]
    exact⟨by rfl,ed,he,k1,fun _=>.inr ⟨g,xs.length,cap,by rw [e1],rfl⟩⟩
end
end Go.AM
namespace Go.AM
section
variable {P:Program} {G:Glob} {α:Type}
def Hnd.cut (row:α→List PV) {l:List α} {h:Int} (hh:0≤h∧h≤(l.length:Int)):Hnd P G where
 run o st H:=match o.op with
  | .slice t x lo hi none=>match P.underlying t,opd G st x,loOf G st lo with
   | some (.slice e),some (.own i n),some l0=>match H[i]?,hiOf G st n hi with
    | some (.buf s _ xs _),some h'=>if Nat.beq (P.cellsOf e) s && !(Nat.beq s 0) then some ⟨.oc i n h.toNat,H,[.n n,.rs xs,.p (.sc (.int .i64 l0)),.p (.sc (.int .i64 h'))],[.n l.length,.rs (l.map row),.p (.sc (.int .i64 0)),.p (.sc (.int .i64 h))]⟩ else none
    | _,_=>none
   | _,_,_=>none
  | _=>none
 sound:=by
  intro n0 o st H x hr he
  suffices hT:OpT P G n0 o st H x.p x.H from hT.weak
  split at hr
  ·rename_i t x lo hi ho
   split at hr
   ·rename_i e i n l0 hu hx hlo
    split at hr
    ·rename_i s ty xs sh h' hb hhi
     split at hr
     ·rename_i hc
      simp only [Bool.and_eq_true,Bool.not_eq_true'] at hc
      simp only [Option.some.injEq] at hr
      subst hr
      simp only [List.cons.injEq,T.n.injEq,T.rs.injEq,T.p.injEq,PV.sc.injEq,Value.int.injEq,true_and,and_true] at he
      obtain⟨h1,h2,h3,h4⟩:=he
      subst h1 h2 h3 h4
      exact OpT.slice_cut ho hu (Nat.eq_of_beq_eq_true hc.1) (fun e0=>by rw [e0] at hc; simp at hc) hx hb (List.length_map ..).symm hlo hhi hh.1 hh.2
     ·cases hr
    ·cases hr
   ·cases hr
  ·cases hr
inductive SrcK (α:Type) where
 | val (m:List α)
 | own (m:List α)
 | op (m:List α) (lo:Nat)
 | oc (m:List α) (k:Nat)
def SrcK.ok:SrcK α→Prop
 | .val _=>True
 | .own _=>True
 | .op m lo=>lo≤m.length
 | .oc m k=>k≤m.length
end
end Go.AM
namespace Go.AM
section
variable {P:Program} {G:Glob} {n0 nt:Nat} {o:Oper} {st:St} {H:List Blk} {Q:Exit→St→List Blk→Prop}
theorem Zho {c:Ctx} {β:List Bnd} {w:World} {i:Nat} {k k':Blk} (hk:H[i]? = some k) (hf:∀ e b hi,k'.free e b hi ↔ k.free e b hi):stab c β (H.set i k') w=stab c β H w:=by
 have hil:=(List.getElem?_eq_some_iff.1 hk).1
 funext b hi
 simp only [stab,eq_iff_iff]
 refine or_congr Iff.rfl (and_congr Iff.rfl (and_congr Iff.rfl ⟨fun h j e l h1 h2=>?_,fun h j e l h1 h2=>?_⟩))
 ·by_cases hji:j=i
  ·subst hji; rw [hk] at h2; cases h2
   exact(hf e b hi).1 (h j e k' h1 (List.getElem?_set_self hil))
  ·exact h j e l h1 (by rw [List.getElem?_set_ne (Ne.symm hji)]; exact h2)
 ·by_cases hji:j=i
  ·subst hji; rw [List.getElem?_set_self hil] at h2; cases h2
   exact(hf e b hi).2 (h j e k h1 hk)
  ·exact h j e l h1 (by rw [List.getElem?_set_ne (Ne.symm hji)] at h2; exact h2)
theorem RelB.re {c:Ctx} {β:List Bnd} {a:Act} {w:World} (h:RelB G c β st H a w) {i:Nat} {k k':Blk} (hk:H[i]? = some k) (hf:∀ e b hi,k'.free e b hi ↔ k.free e b hi) (hat:∀ e,k'.at e=k.at e) (hin:k.isIn=true→k'.isIn=true)
  (hblk:∀ e,β[i]? = some e→BlkR (stab c β H w) β w c.w0.heap.size i e k→BlkR (stab c β H w) β w c.w0.heap.size i e k'):RelB G c β st (H.set i k') a w:=by
 have hil:=(List.getElem?_eq_some_iff.1 hk).1
 have hs:=Zho (c:=c) (β:=β) (w:=w) hk hf
 have hx:Ext (stab c β H w) w (stab c β (H.set i k') w) w:=by rw [hs]; exact Ext.refl _ _
 have key:∀(j:Nat) l,(H.set i k')[j]? = some l→∃ l',H[j]? = some l'∧∀ e,l'.at e=l.at e:=fun j l hj=>by
  by_cases hji:j=i
  ·subst hji; rw [List.getElem?_set_self hil] at hj; cases hj
   exact⟨k,hk,fun e=>(hat e).symm⟩
  ·rw [List.getElem?_set_ne (Ne.symm hji)] at hj; exact⟨l,hj,fun _=>rfl⟩
 refine h.move hx (BExt.refl _ _) (by simp [h.len]) h.pre (fun j e l h1 h2=>?_) (fun j j' f f' l l' b hij h1 h2 h3 h4 h5 h6=>?_) (fun j f l b h0 h1 h2 h3=>?_) (fun j hj=>?_) h.frm
 ·rw [hs]
  by_cases hji:j=i
  ·subst hji; rw [List.getElem?_set_self hil] at h2; cases h2
   exact hblk e h1 (h.blk j e k h1 hk)
  ·rw [List.getElem?_set_ne (Ne.symm hji)] at h2; exact h.blk j e l h1 h2
 ·obtain⟨l1,g1,g2⟩:=key j l h2
  obtain⟨l2,g3,g4⟩:=key j' l' h4
  exact h.inj j j' f f' l1 l2 b hij h1 g1 h3 g3 (by rw [g2]; exact h5) (by rw [g4]; exact h6)
 ·obtain⟨l1,g1,g2⟩:=key j l h2
  exact h.loc j f l1 b h0 h1 g1 (by rw [g2]; exact h3)
 ·obtain⟨l,hc,hcf⟩:=h.cel j hj
  by_cases hji:j=i
  ·subst hji; rw [hk] at hc; cases hc
   exact⟨k',List.getElem?_set_self hil,hin hcf⟩
  ·exact⟨l,by rw [List.getElem?_set_ne (Ne.symm hji)]; exact hc,hcf⟩
section typed
variable {K V:Type} {kv:K→Value} {vv:V→Value} {eqk:K→K→Bool} {kt:TypeId}
def entT (kv:K→Value) (vv:V→Value) (x:Nat × K × V):Nat × Value × PV:=(x.1,kv x.2.1,.sc (vv x.2.2))
def entF (kv:K→Value) (vv:V→Value) (x:K × V):Value × Value:=(kv x.1,vv x.2)
structure FmOk (kv:K→Value) (E:List (Nat × K × V)) (cl:Nat) (L:List (K × V)):Prop where
 lt:∀ x∈E,x.1<cl
 nd:(E.map (·.1)).Nodup
 perm:(E.map (·.2)).Perm L
 keys:(L.map fun x=>kv x.1).Nodup
theorem Zj7 {α γ:Type} (f:α→γ) {l m:List γ} (h:l.Perm m):∀ L:List α,m=L.map f→∃ L':List α,L'.Perm L∧l=L'.map f:=by
 induction h with
 | nil=>intro L hL; exact⟨[],by rw [List.map_eq_nil_iff.1 hL.symm],rfl⟩
 | cons x h ih=>
  intro L hL
  cases L with
  | nil=>simp at hL
  | cons y L=>
   simp only [List.map_cons,List.cons.injEq] at hL
   obtain⟨L',h1,h2⟩:=ih L hL.2
   exact⟨y :: L',h1.cons y,by rw [List.map_cons,h2,hL.1]⟩
 | swap x y l=>
  intro L hL
  match L,hL with
  | a :: b :: L,hL=>
   simp only [List.map_cons,List.cons.injEq] at hL
   exact⟨b :: a :: L,.swap a b L,by simp only [List.map_cons,hL.1,hL.2.1,hL.2.2]⟩
 | trans _ _ ih1 ih2=>
  intro L hL
  obtain⟨L1,h1,h2⟩:=ih2 L hL
  obtain⟨L2,h3,h4⟩:=ih1 L1 h2
  exact⟨L2,h3.trans h1,h4⟩
theorem Zli:∀(ms:List MapEntry) (L:List (K × V)),ms.map (fun x=>(x.key,x.val))=L.map (entF kv vv)→∃ E:List (Nat × K × V),E.map (·.1)=ms.map (·.born)∧E.map (·.2)=L ∧
  ms.map (fun x=>(x.born,x.key))=(E.map (entT kv vv)).map (fun x=>(x.1,x.2.1))∧∀ S β w,VRs S β w ((E.map (entT kv vv)).map (·.2.2)) (ms.map (·.val))
 | [],[],_=>⟨[],rfl,rfl,rfl,fun _ _ _=>by simp only [List.map_nil,VRs]⟩
 | [],_ :: _,h=>by simp at h
 | _ :: _,[],h=>by simp at h
 | a :: ms,x :: L,h=>by
  simp only [List.map_cons,List.cons.injEq] at h
  obtain⟨E,h1,h2,h3,h4⟩:=Zli ms L h.2
  have h5:=h.1
  simp only [entF,Prod.mk.injEq] at h5
  refine⟨(a.born,x) :: E,by simp [h1],by simp [h2],?_,fun S β w=>?_⟩
  ·rw [List.map_cons,List.map_cons,List.map_cons,h3,h5.1]; rfl
  ·simp only [List.map_cons,VRs]
   exact⟨by simp only [entT,VR]; exact h5.2,h4 S β w⟩
theorem Zjg:∀(ms:List MapEntry) (E:List (Nat × K × V)) (S:Nat→Nat→Prop) (β:List Bnd) (w:World),ms.map (fun x=>(x.born,x.key))=(E.map (entT kv vv)).map (fun x=>(x.1,x.2.1))→VRs S β w ((E.map (entT kv vv)).map (·.2.2)) (ms.map (·.val)) →
  ms.map (·.born)=E.map (·.1)∧ms.map (fun x=>(x.key,x.val))=(E.map (·.2)).map (entF kv vv)
 | [],[],_,_,_,_,_=>⟨rfl,rfl⟩
 | [],_ :: _,_,_,_,h,_=>by simp at h
 | _ :: _,[],_,_,_,h,_=>by simp at h
 | a :: ms,x :: E,S,β,w,h,hv=>by
  simp only [List.map_cons,List.cons.injEq,Prod.mk.injEq] at h
  simp only [List.map_cons,VRs] at hv
  obtain⟨h1,h2⟩:=Zjg ms E S β w h.2 hv.2
  have h3:=hv.1
  simp only [entT,VR] at h3
  exact⟨by rw [List.map_cons,List.map_cons,h1,h.1.1]; rfl,by rw [List.map_cons,List.map_cons,List.map_cons,h2,h.1.2,h3]; rfl⟩
theorem RelB.openM {c:Ctx} {β:List Bnd} {a:Act} {w:World} (h:RelB G c β st H a w) {i:Nat} {L:List (K × V)} (hb:H[i]? = some (.fm (L.map (entF kv vv)))) :
  ∃ E cl,FmOk kv E cl L∧RelB G c β st (H.set i (.map (E.map (entT kv vv)) cl)) a w:=by
 have hil:=(List.getElem?_eq_some_iff.1 hb).1
 have hbl:i<β.length:=by rw [h.len]; exact hil
 obtain⟨arr,cl,h1,h2,h3,h4,h5⟩:=h.blk i β[i] _ (by simp [hbl]) hb
 obtain⟨L',h6,h7⟩:=Zj7 _ h4 L rfl
 obtain⟨E,g1,g2,g3,g4⟩:=Zli _ _ h7
 refine⟨E,cl,⟨fun x hx=>?_,by rw [g1]; exact h3,by rw [g2]; exact h6,?_⟩,h.re hb (fun _ _ _=>Iff.rfl) (fun _=>rfl) (fun _=>rfl) fun e he _=>?_⟩
 ·have:x.1∈arr.toList.map (·.born):=by rw [← g1]; exact List.mem_map_of_mem hx
  obtain⟨m,hm,hmb⟩:=List.mem_map.1 this
  rw [← hmb]; exact h2 m hm
 ·rw [List.map_map] at h5
  exact h5
 ·have:e=β[i]:=by rw [List.getElem?_eq_getElem hbl] at he; simpa using he.symm
  subst this
  exact⟨arr,h1,g3,g4 _ _ _⟩
theorem RelB.closeM {c:Ctx} {β:List Bnd} {a:Act} {w:World} (h:RelB G c β st H a w) {i:Nat} {E:List (Nat × K × V)} {cl:Nat} {L:List (K × V)} (hb:H[i]? = some (.map (E.map (entT kv vv)) cl)) (hE:FmOk kv E cl L) :
  RelB G c β st (H.set i (.fm (L.map (entF kv vv)))) a w:=
 h.re hb (fun _ _ _=>Iff.rfl) (fun _=>rfl) (fun _=>rfl) fun e _ hbk=>by
  obtain⟨arr,h1,h2,h3⟩:=hbk
  obtain⟨g1,g2⟩:=Zjg _ _ _ _ _ h2 h3
  refine⟨arr,cl,h1,fun x hx=>?_,by rw [g1]; exact hE.nd,by rw [g2]; exact hE.perm.map _,by rw [List.map_map]; exact hE.keys⟩
  have:x.born∈E.map (·.1):=by rw [← g1]; exact List.mem_map_of_mem hx
  obtain⟨y,hy,hyb⟩:=List.mem_map.1 this
  rw [← hyb]; exact hE.lt y hy
theorem OpW.fm {i:Nat} {L L':List (K × V)} {p:PV} (hb:H[i]? = some (.fm (L.map (entF kv vv))))
  (h:∀ E cl,FmOk kv E cl L→∃ E' cl',FmOk kv E' cl' L'∧OpW P G n0 o st (H.set i (.map (E.map (entT kv vv)) cl)) p (H.set i (.map (E'.map (entT kv vv)) cl'))):OpW P G n0 o st H p (H.set i (.fm (L'.map (entF kv vv)))):=by
 intro c a w β h0 hr
 have hil:=(List.getElem?_eq_some_iff.1 hb).1
 obtain⟨E,cl,hE,hr1⟩:=hr.openM hb
 obtain⟨E',cl',hE',hop⟩:=h E cl hE
 refine Zbl (hop c a w β h0 hr1) fun v w' ⟨β',h1,h2⟩=>⟨β',?_,?_⟩
 ·have:=h1.closeM (i:=i) (List.getElem?_set_self hil) hE'
  rwa [List.set_set] at this
 ·have hs:=Zho (c:=c) (β:=β') (w:=w') (i:=i) (k':=.fm (L'.map (entF kv vv))) (List.getElem?_set_self hil:(H.set i (.map (E'.map (entT kv vv)) cl'))[i]? = _) (fun _ _ _=>Iff.rfl)
  rw [List.set_set] at hs
  rw [hs]; exact h2
structure KeyOk (P:Program) (kt:TypeId) (kv:K→Value) (eqk:K→K→Bool):Prop where
 chk:∀ a,chkK P 20 kt (kv a)=true
 cmp:∀ a b,flatEq P 50 kt (kv a) (kv b)=some (eqk a b)
 now:∃ kind,P.underlying kt=some kind∧((∀ a b,Instr.sameNow kind (kv a) (kv b)=none)∨∀ a b,Instr.sameNow kind (kv a) (kv b)=some (eqk a b))
 bits:∀ a,Instr.sameBits 10000 (kv a) (kv a)=true
 eq:∀ a b,eqk a b=true ↔ a=b
theorem KeyOk.inj (h:KeyOk P kt kv eqk) {a b:K} (hab:kv a=kv b):a=b:=by
 have h1:=h.cmp a a
 rw [(h.eq a a).2 rfl] at h1
 have h2:=h.cmp a b
 rw [← hab,h1,Option.some.injEq] at h2
 exact(h.eq a b).1 h2.symm
theorem Zg8 {kind:TypeDesc} (hn:∀ a b,Instr.sameNow kind (kv a) (kv b)=some (eqk a b)) (a:K):∀(ks:List K) (i:Nat),findN kind (kv a) (ks.map kv) i=some ((ks.findIdx? (eqk a)).map (· + i))
 | [],i=>rfl
 | k :: ks,i=>by
  rw [List.map_cons,findN,hn,List.findIdx?_cons]
  cases eqk a k with
  | true=>simp
  | false=>
   simp only [Zg8 hn a ks (i + 1),Bool.false_eq_true,if_false,Option.map_map]
   congr 2
   funext j
   simp only [Function.comp]; omega
theorem Zg9 (hc:∀ a b,flatEq P 50 kt (kv a) (kv b)=some (eqk a b)) (a:K):∀(ks:List K) (i:Nat),findA P kt (kv a) (ks.map kv) i=some ((ks.findIdx? (eqk a)).map (· + i))
 | [],i=>rfl
 | k :: ks,i=>by
  rw [List.map_cons,findA,hc,List.findIdx?_cons]
  cases eqk a k with
  | true=>simp
  | false=>
   simp only [Zg9 hc a ks (i + 1),Bool.false_eq_true,if_false,Option.map_map]
   congr 2
   funext j
   simp only [Function.comp]; omega
theorem Zex (h:KeyOk P kt kv eqk) (a:K) (ks:List K):findx P kt (kv a) (ks.map kv)=some (ks.findIdx? (eqk a)):=by
 obtain⟨kind,h1,h2⟩:=h.now
 unfold findx
 rw [h1]
 simp only
 rcases h2 with h2 | h2
 ·cases ks with
  | nil=>rfl
  | cons k ks=>
   have:findN kind (kv a) ((k :: ks).map kv) 0=none:=by rw [List.map_cons,findN,h2]
   rw [this]
   have h3:=Zg9 h.cmp a (k :: ks) 0
   simp only [Nat.add_zero,Option.map_id',List.map_cons] at h3
   simp only [List.map_cons]
   rw [h3]
 ·simp [Zg8 h2 a ks 0]
def mget (eqk:K→K→Bool) (L:List (K × V)) (a:K):Option V:=(L.find? fun x=>eqk a x.1).map (·.2)
def mput (eqk:K→K→Bool) (L:List (K × V)) (a:K) (v:V):List (K × V):=if L.any (fun x=>eqk a x.1) then L.map (fun x=>if eqk a x.1 then (a,v) else x) else L++[(a,v)]
def mdel (eqk:K→K→Bool) (L:List (K × V)) (a:K):List (K × V):=L.filter fun x=>!eqk a x.1
theorem Zjh {p:K × V→Bool} {L L':List (K × V)} (hp:L.Perm L') (hu:∀ x∈L,∀ y∈L,p x=true→p y=true→x=y):L.find? p=L'.find? p:=by
 cases h:L.find? p with
 | none=>
  rw [List.find?_eq_none] at h
  exact(List.find?_eq_none.2 fun x hx=>h x (hp.mem_iff.2 hx)).symm
 | some x=>
  have hx:=List.mem_of_find?_eq_some h
  have hpx:=List.find?_some h
  cases h':L'.find? p with
  | none=>
   rw [List.find?_eq_none] at h'
   exact absurd hpx (h' x (hp.mem_iff.1 hx))
  | some y=>rw [hu x hx y (hp.mem_iff.2 (List.mem_of_find?_eq_some h')) hpx (List.find?_some h')]
theorem Zmb (h:KeyOk P kt kv eqk) {L:List (K × V)} (hk:(L.map fun x=>kv x.1).Nodup) (a:K):∀ x∈L,∀ y∈L,eqk a x.1=true→eqk a y.1=true→x=y:=by
 intro x hx y hy h1 h2
 have e1:=(h.eq _ _).1 h1
 have e2:=(h.eq _ _).1 h2
 obtain⟨i,hi⟩:=List.mem_iff_getElem?.1 hx
 obtain⟨j,hj⟩:=List.mem_iff_getElem?.1 hy
 have hij:i=j:=by
  refine(List.getElem?_inj (by rw [List.length_map]; exact(List.getElem?_eq_some_iff.1 hi).1) hk).1 ?_
  rw [List.getElem?_map,List.getElem?_map,hi,hj]
  simp [← e1,← e2]
 subst hij
 rw [hi] at hj
 simpa using hj
theorem Zmc (h:KeyOk P kt kv eqk) {L L':List (K × V)} (hp:L.Perm L') (hk:(L.map fun x=>kv x.1).Nodup) (a:K):mget eqk L a=mget eqk L' a:=by
 unfold mget
 rw [Zjh hp (Zmb h hk a)]
theorem FmOk.keysE {E:List (Nat × K × V)} {cl:Nat} {L:List (K × V)} (h:FmOk kv E cl L):((E.map (·.2)).map fun x=>kv x.1).Nodup:=(h.perm.map _).nodup_iff.2 h.keys
theorem Zer (a:K):∀(E:List (Nat × K × V)),match (E.map (·.2.1)).findIdx? (eqk a) with
  | some j=>∃ x,E[j]? = some x∧eqk a x.2.1=true∧mget eqk (E.map (·.2)) a=some x.2.2
  | none=>mget eqk (E.map (·.2)) a=none∧∀ x∈E,eqk a x.2.1=false
 | []=>⟨rfl,by simp⟩
 | x :: E=>by
  have ih:=Zer a E
  rw [List.map_cons,List.findIdx?_cons]
  cases hx:eqk a x.2.1 with
  | true=>exact⟨x,rfl,hx,by simp [mget,hx]⟩
  | false=>
   simp only [Bool.false_eq_true,if_false]
   cases hj:(E.map (·.2.1)).findIdx? (eqk a) with
   | none=>
    rw [hj] at ih
    refine⟨?_,fun y hy=>?_⟩
    ·have:=ih.1
     simpa [mget,hx] using this
    ·rcases List.mem_cons.1 hy with rfl | hy
     ·exact hx
     ·exact ih.2 y hy
   | some j=>
    rw [hj] at ih
    obtain⟨y,h1,h2,h3⟩:=ih
    refine⟨y,by simpa using h1,h2,?_⟩
    simpa [mget,hx] using h3
theorem Zji (h:KeyOk P kt kv eqk) (a:K) (v:V):∀(E:List (Nat × K × V)) (j:Nat) (x:Nat × K × V),((E.map (·.2)).map fun x=>kv x.1).Nodup→E[j]? = some x→eqk a x.2.1=true→E.set j (x.1,a,v)=E.map (fun y=>if eqk a y.2.1 then (y.1,a,v) else y)
 | [],j,x,_,hj,_=>by simp at hj
 | y :: E,0,x,hn,hj,hx=>by
  simp only [List.getElem?_cons_zero,Option.some.injEq] at hj
  subst hj
  simp only [List.map_cons,List.nodup_cons] at hn
  rw [List.set_cons_zero,List.map_cons,if_pos hx]
  congr 1
  have hid:E=E.map (fun z=>z):=(List.map_id' E).symm
  conv=>lhs; rw [hid]
  refine List.map_congr_left fun z hz=>?_
  rw [if_neg]
  intro hz'
  have e1:=(h.eq _ _).1 hz'
  have e2:=(h.eq _ _).1 hx
  exact hn.1 (List.mem_map.2 ⟨z.2,List.mem_map_of_mem hz,by rw [← e1,← e2]⟩)
 | y :: E,j + 1,x,hn,hj,hx=>by
  simp only [List.map_cons,List.nodup_cons] at hn
  rw [List.getElem?_cons_succ] at hj
  rw [List.set_cons_succ,List.map_cons,Zji h a v E j x hn.2 hj hx,if_neg]
  intro hy
  have e1:=(h.eq _ _).1 hy
  have e2:=(h.eq _ _).1 hx
  exact hn.1 (List.mem_map.2 ⟨x.2,List.mem_map_of_mem (List.mem_of_getElem? hj),by rw [← e1,← e2]⟩)
theorem Zha (h:KeyOk P kt kv eqk) (a:K):∀(E:List (Nat × K × V)) (j:Nat) (x:Nat × K × V),((E.map (·.2)).map fun x=>kv x.1).Nodup→E[j]? = some x→eqk a x.2.1=true→E.eraseIdx j=E.filter (fun y=>!eqk a y.2.1)
 | [],j,x,_,hj,_=>by simp at hj
 | y :: E,0,x,hn,hj,hx=>by
  simp only [List.getElem?_cons_zero,Option.some.injEq] at hj
  subst hj
  simp only [List.map_cons,List.nodup_cons] at hn
  rw [List.eraseIdx_cons_zero,List.filter_cons,hx]
  simp only [Bool.not_true,Bool.false_eq_true,if_false]
  refine(List.filter_eq_self.2 fun z hz=>?_).symm
  cases hz':eqk a z.2.1 with
  | false=>rfl
  | true=>
   have e1:=(h.eq _ _).1 hz'
   have e2:=(h.eq _ _).1 hx
   exact absurd (List.mem_map.2 ⟨z.2,List.mem_map_of_mem hz,by rw [← e1,← e2]⟩) hn.1
 | y :: E,j + 1,x,hn,hj,hx=>by
  simp only [List.map_cons,List.nodup_cons] at hn
  rw [List.getElem?_cons_succ] at hj
  have hy:eqk a y.2.1=false:=by
   cases hy:eqk a y.2.1 with
   | false=>rfl
   | true=>
    have e1:=(h.eq _ _).1 hy
    have e2:=(h.eq _ _).1 hx
    exact absurd (List.mem_map.2 ⟨x.2,List.mem_map_of_mem (List.mem_of_getElem? hj),by rw [← e1,← e2]⟩) hn.1
  rw [List.eraseIdx_cons_succ,Zha h a E j x hn.2 hj hx,List.filter_cons,hy]
  rfl
theorem Zfk (E:List (Nat × K × V)):(E.map (entT kv vv)).map (·.2.1)=(E.map (·.2.1)).map kv:=by
 rw [List.map_map,List.map_map]; rfl
theorem Zkx (h:KeyOk P kt kv eqk) {e:TypeId} {E:List (Nat × K × V)} {cl:Nat} {L:List (K × V)} (hE:FmOk kv E cl L) (ok:Bool) (a:K) {zv:V} (hz:zeroP P e=some (.sc (vv zv))) :
  lookx P kt e ok (kv a) (E.map (entT kv vv))=some (lres ok (.sc (vv ((mget eqk L a).getD zv))) (mget eqk L a).isSome):=by
 unfold lookx
 rw [h.chk,Zfk,Zex h]
 have hi:=Zer (eqk:=eqk) a E
 have hm:=Zmc h hE.perm hE.keysE a
 simp only [if_true]
 cases hj:(E.map (·.2.1)).findIdx? (eqk a) with
 | none=>
  rw [hj] at hi
  rw [← hm,hi.1,hz]
  rfl
 | some j=>
  rw [hj] at hi
  obtain⟨x,h1,_,h3⟩:=hi
  simp only
  rw [List.getElem?_map,h1,← hm,h3]
  rfl
theorem Zlq (h:KeyOk P kt kv eqk) {L:List (K × V)} (hk:(L.map fun x=>kv x.1).Nodup) (a:K) (v:V):((mput eqk L a v).map fun x=>kv x.1).Nodup:=by
 unfold mput
 split
 ·have:(L.map (fun x=>if eqk a x.1 then (a,v) else x)).map (fun x=>kv x.1)=L.map fun x=>kv x.1:=by
   rw [List.map_map]
   refine List.map_congr_left fun x _=>?_
   simp only [Function.comp]
   split
   ·rename_i hx; rw [(h.eq _ _).1 hx]
   ·rfl
  rw [this]; exact hk
 ·rename_i hn
  rw [List.map_append,List.nodup_append]
  refine⟨hk,by simp,fun x hx y hy=>?_⟩
  simp only [List.map_cons,List.map_nil,List.mem_singleton] at hy
  subst hy
  obtain⟨z,hz,rfl⟩:=List.mem_map.1 hx
  intro e
  exact hn (List.any_eq_true.2 ⟨z,hz,(h.eq _ _).2 (h.inj e).symm⟩)
theorem Zmd {L L':List (K × V)} (hp:L.Perm L') (a:K) (v:V):(mput eqk L a v).Perm (mput eqk L' a v):=by
 unfold mput
 have:L.any (fun x=>eqk a x.1)=L'.any (fun x=>eqk a x.1):=by
  rw [Bool.eq_iff_iff,List.any_eq_true,List.any_eq_true]
  exact⟨fun⟨x,h1,h2⟩=>⟨x,hp.mem_iff.1 h1,h2⟩,fun⟨x,h1,h2⟩=>⟨x,hp.mem_iff.2 h1,h2⟩⟩
 rw [this]
 split
 ·exact hp.map _
 ·exact hp.append_right _
theorem Zlr (h:KeyOk P kt kv eqk) {E:List (Nat × K × V)} {cl:Nat} {L:List (K × V)} (hE:FmOk kv E cl L) (a:K) (v:V) :
  ∃ E' cl',putx P kt (kv a) (.sc (vv v)) (E.map (entT kv vv)) cl=some (E'.map (entT kv vv),cl')∧FmOk kv E' cl' (mput eqk L a v):=by
 unfold putx
 rw [h.chk,Zfk,Zex h]
 have hi:=Zer (eqk:=eqk) a E
 have hnd:=Zlq h hE.keys a v
 have hpp:=Zmd (eqk:=eqk) hE.perm a v
 simp only [if_true]
 cases hj:(E.map (·.2.1)).findIdx? (eqk a) with
 | none=>
  rw [hj] at hi
  refine⟨E++[(cl,a,v)],cl + 1,by simp only [List.map_append]; rfl,⟨fun x hx=>?_,?_,?_,hnd⟩⟩
  ·rcases List.mem_append.1 hx with hx | hx
   ·have:=hE.lt x hx; omega
   ·rw [List.mem_singleton.1 hx]; simp
  ·rw [List.map_append,List.nodup_append]
   refine⟨hE.nd,by simp,fun x hx y hy=>?_⟩
   simp only [List.map_cons,List.map_nil,List.mem_singleton] at hy
   subst hy
   obtain⟨z,hz,rfl⟩:=List.mem_map.1 hx
   have:=hE.lt z hz
   omega
  ·refine List.Perm.trans ?_ hpp
   rw [List.map_append]
   unfold mput
   rw [if_neg]
   ·exact List.Perm.refl _
   ·intro hany
    obtain⟨z,hz,hz'⟩:=List.any_eq_true.1 hany
    obtain⟨y,hy,rfl⟩:=List.mem_map.1 hz
    rw [hi.2 y hy] at hz'; cases hz'
 | some j=>
  rw [hj] at hi
  obtain⟨x,h1,h2,_⟩:=hi
  have e2:=(h.eq _ _).1 h2
  refine⟨E.set j (x.1,a,v),cl,?_,?_⟩
  ·simp only
   rw [List.getElem?_map,h1]
   simp only [Option.map_some]
   rw [show (entT kv vv x).2.1=kv a by rw [e2]; rfl,h.bits,if_pos rfl,List.map_set]
   rfl
  ·rw [Zji h a v E j x hE.keysE h1 h2]
   refine⟨fun y hy=>?_,?_,?_,hnd⟩
   ·obtain⟨z,hz,rfl⟩:=List.mem_map.1 hy
    have:=hE.lt z hz
    split <;> exact this
   ·have:(E.map (fun y=>if eqk a y.2.1 then (y.1,a,v) else y)).map (·.1)=E.map (·.1):=by
     rw [List.map_map]
     refine List.map_congr_left fun y _=>?_
     simp only [Function.comp]
     split <;> rfl
    rw [this]; exact hE.nd
   ·refine List.Perm.trans ?_ hpp
    unfold mput
    rw [if_pos (List.any_eq_true.2 ⟨x.2,List.mem_map_of_mem (List.mem_of_getElem? h1),h2⟩),List.map_map,List.map_map]
    refine List.Perm.of_eq (List.map_congr_left fun y _=>?_)
    simp only [Function.comp]
    split <;> rfl
theorem Zig (h:KeyOk P kt kv eqk) {E:List (Nat × K × V)} {cl:Nat} {L:List (K × V)} (hE:FmOk kv E cl L) (a:K) :
  delx P kt (kv a) (E.map (entT kv vv))=some ((E.filter fun y=>!eqk a y.2.1).map (entT kv vv))∧FmOk kv (E.filter fun y=>!eqk a y.2.1) cl (mdel eqk L a):=by
 constructor
 ·unfold delx
  rw [h.chk,Zfk,Zex h]
  have hi:=Zer (eqk:=eqk) a E
  simp only [if_true]
  cases hj:(E.map (·.2.1)).findIdx? (eqk a) with
  | none=>
   rw [hj] at hi
   simp only
   rw [List.filter_eq_self.2 fun y hy=>by rw [hi.2 y hy]; rfl]
  | some j=>
   rw [hj] at hi
   obtain⟨x,h1,h2,_⟩:=hi
   simp only
   rw [← Zha h a E j x hE.keysE h1 h2,Zca]
 ·refine⟨fun x hx=>hE.lt x (List.mem_filter.1 hx).1,(List.filter_sublist.map _).nodup hE.nd,?_,(List.filter_sublist.map _).nodup hE.keys⟩
  unfold mdel
  have:(E.filter fun y=>!eqk a y.2.1).map (·.2)=(E.map (·.2)).filter fun x=>!eqk a x.1:=by
   rw [List.filter_map]; rfl
  rw [this]
  exact hE.perm.filter _
end typed
end
end Go.AM
namespace Go.AM
section
variable {P:Program} {G:Glob} {n0 nt:Nat} {o:Oper} {st:St} {H:List Blk} {Q:Exit→St→List Blk→Prop}
variable {K V:Type} {kv:K→Value} {vv:V→Value} {eqk:K→K→Bool} {kt:TypeId}
theorem OpW.re {p:PV} {H1:List Blk} {i:Nat} {k k':Blk} (h:OpW P G n0 o st H p H1) (hk:H1[i]? = some k) (hf:∀ e b hi,k'.free e b hi ↔ k.free e b hi) (hat:∀ e,k'.at e=k.at e) (hin:k.isIn=true→k'.isIn=true)
  (hblk:∀ S β w base e,BlkR S β w base i e k→BlkR S β w base i e k'):OpW P G n0 o st H p (H1.set i k'):=fun c a w β h0 hr=>
 Zbl (h c a w β h0 hr) fun v w' ⟨β',h1,h2⟩=>⟨β',h1.re hk hf hat hin fun e _=>hblk _ _ _ _ e,by rw [Zho hk hf]; exact h2⟩
def Hnd.mkM:Hnd P G where
 run o _ H:=match o.op with
  | .makeMap _ none=>some ⟨.mp H.length,H++[.fm []],[],[]⟩
  | _=>none
 sound:=by
  intro n0 o st H x hr _
  split at hr
  ·rename_i t ho
   simp only [Option.some.injEq] at hr; subst hr
   have h:=(OpT.makeMap (P:=P) (G:=G) (n0:=n0) (st:=st) (H:=H) ho).weak.re (i:=H.length) (k:=.map [] 0) (k':=.fm []) (by simp) (fun _ _ _=>Iff.rfl) (fun _=>rfl) (fun _=>rfl) (fun S β w base e hb=>by
    obtain⟨arr,h1,h2,_⟩:=hb
    have ha:arr.toList=[]:=by simpa using h2
    exact⟨arr,0,h1,by rw [ha]; simp,by rw [ha]; simp,by rw [ha]; simp,by simp⟩)
   have e:(H++[Blk.map [] 0]).set H.length (.fm [])=H++[.fm []]:=by
    rw [List.set_append_right _ _ (Nat.le_refl _),Nat.sub_self]; rfl
   rw [e] at h
   exact h
  ·cases hr
def Hnd.lookM (hK:KeyOk P kt kv eqk) (vv:V→Value) (zv:V) (L:List (K × V)) (a:K):Hnd P G where
 run o st H:=match o.op with
  | .lookup t x y ok=>match P.underlying t,opd G st x,opd G st y with
   | some (.map k e),some (.mp i),some (.sc key)=>match H[i]?,zeroP P e with
    | some (.fm l),some (.sc z)=>if Nat.beq k kt then some ⟨lres ok (.sc (vv ((mget eqk L a).getD zv))) (mget eqk L a).isSome,H,[.kvs l,.v key,.v z],[.kvs (L.map (entF kv vv)),.v (kv a),.v (vv zv)]⟩ else none
    | _,_=>none
   | _,_,_=>none
  | _=>none
 sound:=by
  intro n0 o st H x hr he
  split at hr
  ·rename_i t x y ok ho
   split at hr
   ·rename_i k e i key hu hx hy
    split at hr
    ·rename_i l z hb hz
     split at hr
     ·rename_i hk
      have hk:=Nat.eq_of_beq_eq_true hk
      subst hk
      simp only [Option.some.injEq] at hr; subst hr
      simp only [List.cons.injEq,T.kvs.injEq,T.v.injEq,and_true] at he
      obtain⟨rfl,rfl,rfl⟩:=he
      have hil:=(List.getElem?_eq_some_iff.1 hb).1
      have key:=OpW.fm (P:=P) (G:=G) (n0:=n0) (o:=o) (st:=st) (H:=H) (i:=i) (L:=L) (L':=L) (p:=lres ok (.sc (vv ((mget eqk L a).getD zv))) (mget eqk L a).isSome) hb fun E cl hE=>
       ⟨E,cl,hE,(OpT.lookup ho hu hx hy (List.getElem?_set_self hil) (Zkx hK hE ok a hz)).weak⟩
      have e:H.set i (.fm (L.map (entF kv vv)))=H:=by
       apply List.ext_getElem?
       intro j
       by_cases hji:i=j
       ·subst hji; rw [List.getElem?_set_self hil,hb]
       ·rw [List.getElem?_set_ne hji]
      rwa [e] at key
     ·cases hr
    ·cases hr
   ·cases hr
  ·cases hr
def Hnd.putM (hK:KeyOk P kt kv eqk) (vv:V→Value) (L:List (K × V)) (a:K) (v:V):Hnd P G where
 run o st H:=match o.op with
  | .mapUpdate t x y z=>match P.underlying t,opd G st x,opd G st y,opd G st z with
   | some (.map k _),some (.mp i),some (.sc key),some p=>match H[i]? with
    | some (.fm l)=>if Nat.beq k kt then some ⟨.sc undef,H.set i (.fm ((mput eqk L a v).map (entF kv vv))),[.kvs l,.v key,.p p],[.kvs (L.map (entF kv vv)),.v (kv a),.p (.sc (vv v))]⟩ else none
    | _=>none
   | _,_,_,_=>none
  | _=>none
 sound:=by
  intro n0 o st H x hr he
  split at hr
  ·rename_i t x y z ho
   split at hr
   ·rename_i k e i key p hu hx hy hz
    split at hr
    ·rename_i l hb
     split at hr
     ·rename_i hk
      have hk:=Nat.eq_of_beq_eq_true hk
      subst hk
      simp only [Option.some.injEq] at hr; subst hr
      simp only [List.cons.injEq,T.kvs.injEq,T.v.injEq,T.p.injEq,and_true] at he
      obtain⟨rfl,rfl,rfl⟩:=he
      have hil:=(List.getElem?_eq_some_iff.1 hb).1
      refine OpW.fm hb fun E cl hE=>?_
      obtain⟨E',cl',h1,h2⟩:=Zlr (vv:=vv) hK hE a v
      refine⟨E',cl',h2,?_⟩
      have:=(OpT.mapUpdate (n0:=n0) (.inl ho) hu hx hy hz (List.getElem?_set_self hil:(H.set i (.map (E.map (entT kv vv)) cl))[i]? = _) h1).weak
      rwa [List.set_set] at this
     ·cases hr
    ·cases hr
   ·cases hr
  ·cases hr
def Hnd.delE (hK:KeyOk P kt kv eqk) (vv:V→Value) {E:List (Nat × K × V)} {c:Nat} {L:List (K × V)} (hE:FmOk kv E c L) (a:K):Hnd P G where
 run o st H:=match o.op with
  | .call cl=>match cl with
   | { callee:=.builtin .delete,args:=⟨[x,y]⟩,argTypes:=⟨[T0,_]⟩ }=>match P.underlying T0,opd G st x,opd G st y with
    | some (.map k _),some (.mp i),some (.sc key)=>match H[i]? with
     | some (.map es ck)=>if Nat.beq k kt then some ⟨.sc (.tuple #[]),H.set i (.map ((E.filter fun y=>!eqk a y.2.1).map (entT kv vv)) ck),[.es es,.v key],[.es (E.map (entT kv vv)),.v (kv a)]⟩ else none
     | _=>none
    | _,_,_=>none
   | _=>none
  | _=>none
 sound:=by
  intro n0 o st H x hr he
  split at hr
  ·rename_i cl ho
   split at hr
   ·rename_i x y T0 U
    split at hr
    ·rename_i k e i key hu hx hy
     split at hr
     ·rename_i es ck hb
      split at hr
      ·rename_i hk
       have hk:=Nat.eq_of_beq_eq_true hk
       subst hk
       simp only [Option.some.injEq] at hr; subst hr
       simp only [List.cons.injEq,T.es.injEq,T.v.injEq,and_true] at he
       obtain⟨rfl,rfl⟩:=he
       exact(OpT.delete (n0:=n0) ho rfl hu hx hy hb (Zig (vv:=vv) hK hE a).1).weak
      ·cases hr
     ·cases hr
    ·cases hr
   ·cases hr
  ·cases hr
def Hnd.lenM (kv:K→Value) (vv:V→Value) (L:List (K × V)):Hnd P G where
 run o st H:=match o.op with
  | .call cl=>match cl with
   | { callee:=.builtin .len,args:=⟨[x]⟩,argTypes:=⟨[T0]⟩ }=>match P.underlying T0,opd G st x with
    | some (.map _ _),some (.mp i)=>match H[i]? with
     | some (.fm l)=>some ⟨.sc (.int .i64 L.length),H,[.kvs l],[.kvs (L.map (entF kv vv))]⟩
     | _=>none
    | _,_=>none
   | _=>none
  | _=>none
 sound:=by
  intro n0 o st H x hr he
  split at hr
  ·rename_i cl ho
   split at hr
   ·rename_i x T0
    split at hr
    ·rename_i k e i hu hx
     split at hr
     ·rename_i l hb
      simp only [Option.some.injEq] at hr; subst hr
      simp only [List.cons.injEq,T.kvs.injEq,and_true] at he
      subst he
      have hil:=(List.getElem?_eq_some_iff.1 hb).1
      have key:=OpW.fm (P:=P) (G:=G) (n0:=n0) (o:=o) (st:=st) (H:=H) (i:=i) (L:=L) (L':=L) (p:=.sc (.int .i64 L.length)) hb fun E cl0 hE=>⟨E,cl0,hE,by
       have:=(OpT.lenMap (n0:=n0) ho rfl hu hx (List.getElem?_set_self hil:(H.set i (.map (E.map (entT kv vv)) cl0))[i]? = _)).weak
       have e:(E.map (entT kv vv)).length=L.length:=by rw [List.length_map,← hE.perm.length_eq,List.length_map]
       rwa [e] at this⟩
      have e:H.set i (.fm (L.map (entF kv vv)))=H:=by
       apply List.ext_getElem?
       intro j
       by_cases hji:i=j
       ·subst hji; rw [List.getElem?_set_self hil,hb]
       ·rw [List.getElem?_set_ne hji]
      rwa [e] at key
     ·cases hr
    ·cases hr
   ·cases hr
  ·cases hr
def Hnd.rngE:Hnd P G where
 run o st H:=match o.op with
  | .range t x=>match P.underlying t,opd G st x with
   | some (.map _ _),some (.mp i)=>match H[i]? with
    | some (.map _ ck)=>some ⟨.ptr H.length 0,H++[.iter (some i) ck [] ck],[],[]⟩
    | _=>none
   | _,_=>none
  | _=>none
 sound:=by
  intro n0 o st H x hr _
  split at hr
  ·rename_i t x ho
   split at hr
   ·rename_i k e i hu hx
    split at hr
    ·rename_i es ck hb
     simp only [Option.some.injEq] at hr; subst hr
     exact(OpT.rangeMap ho hu hx hb).weak
    ·cases hr
   ·cases hr
  ·cases hr
theorem Zls (S:List Nat):∀(E:List (Nat × K × V)) (x:Nat × K × V),x∈E→(E.map (·.1)).Nodup→entx (E.map (entT kv vv)) (S++[x.1])=some (.tup [.sc (kv x.2.1),.sc (vv x.2.2)]):=by
 intro E x hx hn
 have key:∀ E:List (Nat × K × V),x∈E→(E.map (·.1)).Nodup→(E.map (entT kv vv)).find? (fun y=>Nat.beq y.1 x.1)=some (entT kv vv x):=by
  intro E
  induction E with
  | nil=>intro h; cases h
  | cons y E ih=>
   intro hx hn
   rw [List.map_cons,List.nodup_cons] at hn
   rw [List.map_cons,List.find?_cons]
   rcases List.mem_cons.1 hx with rfl | hx
   ·rw [show Nat.beq (entT kv vv x).1 x.1=true from Nat.beq_refl _]
   ·have:Nat.beq (entT kv vv y).1 x.1=false:=by
     cases hb:Nat.beq (entT kv vv y).1 x.1 with
     | false=>rfl
     | true=>exact absurd (List.mem_map.2 ⟨x,hx,(Nat.eq_of_beq_eq_true hb).symm⟩) hn.1
    rw [this]
    exact ih hx hn.2
 unfold entx
 rw [List.getLast?_append]
 simp only [List.getLast?_singleton,Option.some_or]
 rw [key E hx hn]
 rfl
def Hnd.entE (vv:V→Value) {E:List (Nat × K × V)} {c:Nat} {L:List (K × V)} (hE:FmOk kv E c L) (S:List Nat) {x:Nat × K × V} (hx:x∈E):Hnd P G where
 run o st H:=match o.op with
  | .entry it=>match opd G st it with
   | some (.ptr q 0)=>match H[q]? with
    | some (.iter (some k) _ seen ck)=>match H[k]? with
     | some (.map es ck')=>some ⟨.tup [.sc (kv x.2.1),.sc (vv x.2.2)],H,[.es es,.ns seen,.n ck'],[.es (E.map (entT kv vv)),.ns (S++[x.1]),.n ck]⟩
     | _=>none
    | _=>none
   | _=>none
  | _=>none
 sound:=by
  intro n0 o st H y hr he
  split at hr
  ·rename_i it ho
   split at hr
   ·rename_i q hq
    split at hr
    ·rename_i k since seen ck hb
     split at hr
     ·rename_i es ck' hk
      simp only [Option.some.injEq] at hr; subst hr
      simp only [List.cons.injEq,T.es.injEq,T.ns.injEq,T.n.injEq,and_true] at he
      obtain⟨rfl,rfl,rfl⟩:=he
      exact(OpT.entry ho hq hb hk (Zls S E x hx hE.nd)).weak
     ·cases hr
    ·cases hr
   ·cases hr
  ·cases hr
theorem Zj8 (w:World) (ty:TypeId) (bi bm since:Nat) (seen:Array Nat) (es:Array MapEntry) (clock:Nat) (hi:w.heap[bi]? = some (.mapIter (some bm) since seen clock)) (hb:w.heap[bm]? = some (.map es clock)) (hold:∀ x∈es.toList,x.born<since) (hsc:since≤clock) :
  ((∀ x∈es.toList,seen.contains x.born=true)∧(Instr.next (.pointer (some ⟨bi,0,none⟩)) false ty).run P w=.ok (.tuple #[.bool false]) w) ∨
  ∃ e∈es.toList,seen.contains e.born=false∧∃ w1:World,(w1=w∨w1=w.drew)∧(Instr.next (.pointer (some ⟨bi,0,none⟩)) false ty).run P w=.ok (.tuple #[.bool true,e.key,e.val]) { w1 with heap:=w1.heap.setIfInBounds bi (.mapIter (some bm) since (seen.push e.born) clock) }:=by
 simp only [Instr.next,getObj,Sem.run_bind,Sem.run,hi,hb,Result.andThen,next_test_false seen es since clock hold hsc,Bool.false_eq_true,if_false]
 have hmem:∀ x∈(Array.filter (fun e=>!seen.contains e.born) es).toList,x.born<since:=fun x hx=>hold x (by simp at hx ⊢; exact hx.1)
 have hsub:∀ x∈(Array.filter (fun e=>!seen.contains e.born) es).toList,x∈es.toList∧seen.contains x.born=false:=fun x hx=>by
  rw [Array.toList_filter,List.mem_filter] at hx
  exact⟨hx.1,by simpa using hx.2⟩
 have hnone:(Array.filter (fun e=>!seen.contains e.born) es).size=0→∀ x∈es.toList,seen.contains x.born=true:=fun h0 x hx=>by
  cases hc:seen.contains x.born with
  | true=>rfl
  | false=>
   have h1:x∈(Array.filter (fun e=>!seen.contains e.born) es).toList:=by
    rw [Array.toList_filter,List.mem_filter]
    exact⟨hx,by rw [hc]; rfl⟩
   have h2:(Array.filter (fun e=>!seen.contains e.born) es).toList=[]:=List.eq_nil_of_length_eq_zero (by rw [Array.length_toList]; exact h0)
   rw [h2] at h1; cases h1
 generalize Array.filter (fun e=>!seen.contains e.born) es=L at hmem hsub hnone ⊢
 have e1:L.filter (fun x=>decide (x.born<since))=L:=Array.filter_eq_self.2 (fun x hx=>by simpa using hmem x (by simpa using hx))
 have e2:L.filter (fun x=>decide (x.born ≥ since))=#[]:=by
  rw [Array.filter_eq_empty_iff]
  intro x hx
  have:=hmem x (by simpa using hx)
  simp
  omega
 simp only [e1,e2,Array.append_empty]
 by_cases h0:L.size=0
 ·left
  refine⟨hnone h0,?_⟩
  have:L=#[]:=Array.eq_empty_of_size_eq_zero h0
  subst this
  simp [choose,Sem.run,Question.forced]
 ·right
  have hne:L.isEmpty=false:=by simp [Array.isEmpty,h0]
  simp only [hne,Bool.false_eq_true,if_false,Array.empty_append,Array.size_map]
  have hch:∃(j:Nat) (w1:World),j<L.size∧(w1=w∨w1=w.drew)∧(choose (Question.mapNext L.size)).run P w=.ok j w1:=by
   by_cases hf:L.size≤1
   ·exact⟨0,w,by omega,.inl rfl,by simp [choose,Sem.run,Question.forced,hf]⟩
   ·exact⟨_,w.drew,Nat.mod_lt _ (by omega),.inr rfl,by
     simp only [choose,Sem.run,Question.forced,decide_eq_true_eq,hf,if_false,Question.cut]
     rfl⟩
  obtain⟨j,w1,hj,hal,hrun⟩:=hch
  have hLj:=hsub L[j] (by simp)
  refine⟨L[j],hLj.1,hLj.2,w1,hal,?_⟩
  have hi1:w1.heap[bi]? = some (.mapIter (some bm) since seen clock):=by
   rcases hal with rfl | rfl
   ·exact hi
   ·exact hi
  have hset:∀(o':Obj),(setObj bi o').run P w1=.ok () { w1 with heap:=w1.heap.setIfInBounds bi o' }:=fun o'=>by simp [setObj,Sem.run,hi1]
  simp only [hrun,Array.getElem?_map,Array.getElem?_eq_getElem hj,Option.map_some,Sem.run_bind,hset,Result.andThen]
  rfl
def nextShape (nt:Nat) (ops:Array Oper):Option (Nat × Nat × Nat):=match ops with
 | ⟨[o0,o1]⟩=>match o0.op,o0.dst,o0.guard,o1.op,o1.dst,o1.guard with
  | .next (.tmp it) false,some t,none,.extract (.tmp t') 0,some b,none=>if Nat.beq t t' && Nat.blt t nt && Nat.blt b nt && !Nat.beq t it && !Nat.beq b it && !Nat.beq b t then some (it,t,b) else none
  | _,_,_,_,_,_=>none
 | _=>none
theorem Zej (st:St) (k:Nat) (p:PV):(st.put k p).get k=some p:=by simp [St.put,St.get]
def headV (r:PV):PV→Prop
 | .tup (x :: _)=>x=r
 | .sc (.tuple us)=>∃ u,us[0]? = some u∧r=.sc u
 | _=>False
theorem AWP.nextM {id:Nat} {ops:Array Oper} {it t b q i ck:Nat} {es:List Ent} {seen:List Nat} (hsh:nextShape nt ops=some (it,t,b)) (hit:st.get it=some (.ptr q 0)) (hq:H[q]? = some (.iter (some i) ck seen ck)) (hi:H[i]? = some (.map es ck))
  (hlt:∀ x∈es,x.1<ck)
  (over:(∀ x∈es,x.1∈seen)→Q .normal ((st.put t (.sc (.tuple #[.bool false]))).put b (.sc (.bool false))) H)
  (step:∀ x∈es,x.1 ∉ seen→Q .normal ((st.put t (.tup [.sc (.bool true),.sc x.2.1,x.2.2])).put b (.sc (.bool true))) (H.set q (.iter (some i) ck (seen++[x.1]) ck))):AWP P G n0 nt (.region id ops false) Q st H:=by
 unfold nextShape at hsh
 split at hsh
 ·rename_i o0 o1
  split at hsh
  ·rename_i it' t1 t2 b' ho0 hd0 hg0 ho1 hd1 hg1
   split at hsh
   ·rename_i hc
    simp only [Bool.and_eq_true,Bool.not_eq_true'] at hc
    obtain⟨⟨⟨⟨⟨c1,c2⟩,c3⟩,c4⟩,c5⟩,c6⟩:=hc
    have c1:=Nat.eq_of_beq_eq_true c1
    subst c1
    have c2:t1<nt:=Nat.le_of_ble_eq_true c2
    have c3:b'<nt:=Nat.le_of_ble_eq_true c3
    simp only [Option.some.injEq,Prod.mk.injEq] at hsh
    obtain⟨rfl,rfl,rfl⟩:=hsh
    refine AWP.region (l:=[0,1]) rfl ?_
    have rest:∀(p r:PV) (H':List Blk),headV r p→Q .normal ((st.put t1 p).put b' r) H'→AOps P G n0 nt #[o0,o1] [1] Q (st.put t1 p) H':=by
     intro p r H' hp hQ
     have hx:opd G (st.put t1 p) (.tmp t1)=some p:=Zej st t1 p
     have hop:OpW P G n0 o1 (st.put t1 p) H' r H':=by
      unfold headV at hp
      split at hp
      ·rename_i x xs
       subst hp
       exact(OpT.extract ho1 hx rfl).weak
      ·rename_i us
       obtain⟨u,h1,rfl⟩:=hp
       refine(OpT.value fun c a w β _ hr=>?_:OpT P G n0 o1 _ H' (.sc u) H').weak
       have:=hr.opd hx
       simp only [VR] at this
       exact⟨u,by simp [execOp,ho1,this,Instr.extract,h1,Result.andThen],by simp only [VR]⟩
      ·exact hp.elim
     refine AOps.cons (o:=o1) rfl (by simpa [dstOk,hd1] using c3) (by simp [wantA,hg1]) hop (AOps.nil ?_)
     rw [hd1]; exact hQ
    intro c a w β h0 h1 hr
    have hw:wantA #[o0,o1] st o0=some true:=by simp [wantA,hg0]
    simp only [wpOps,show (#[o0,o1]:Array Oper)[0]? = some o0 from rfl,Zdj hr hw,if_true]
    refine .inl ?_
    have g1:=hr.opd (x:=.tmp it') (p:=.ptr q 0) hit
    simp only [VR] at g1
    obtain⟨e,he,hv⟩:=g1
    obtain⟨mm,h2,_,f,hf,rfl⟩:=hr.blk q e _ he hq
    obtain⟨arr,h3,h4,h5⟩:=hr.blk i f _ hf hi
    have hborn:arr.toList.map (·.born)=es.map (·.1):=by
     have:=congrArg (List.map Prod.fst) h4
     simpa [Function.comp_def] using this
    have hold:∀ x∈arr.toList,x.born<ck:=fun x hx=>by
     have:x.born∈es.map (·.1):=by rw [← hborn]; exact List.mem_map_of_mem hx
     obtain⟨y,hy,hyb⟩:=List.mem_map.1 this
     rw [← hyb]; exact hlt y hy
    have hcon:∀ n,seen.toArray.contains n=true ↔ n∈seen:=fun n=>by simp
    refine Zds (K:=fun v w'=>∃ β' p r H',RelB G c β' st H' a w'∧VR (stab c β' H' w') β' w' p v∧headV r p∧Q .normal ((st.put t1 p).put b' r) H') ?_ fun v w' ⟨β',p,r,H',k1,k2,k3,k4⟩=>?_
    ·rcases Zj8 (P:=P) w o0.type e.b f.b ck seen.toArray arr ck h2 h3 hold (Nat.le_refl _) with ⟨g2,g3⟩ | ⟨m,g2,g3,w1,g4,g5⟩
     ·have hex:(execOp a.eval o0).run P w=.ok (.value (.tuple #[.bool false])) w:=by simp [execOp,ho0,hv,g3]
      simp only [wpv,hex]
      refine⟨β,.sc (.tuple #[.bool false]),.sc (.bool false),H,hr,by simp only [VR],⟨_,rfl,rfl⟩,over fun x hx=>?_⟩
      have:x.1∈arr.toList.map (·.born):=by rw [hborn]; exact List.mem_map_of_mem hx
      obtain⟨y,hy,hyb⟩:=List.mem_map.1 this
      rw [← hyb]; exact(hcon _).1 (g2 y hy)
     ·have hex:(execOp a.eval o0).run P w=.ok (.value (.tuple #[.bool true,m.key,m.val])) { w1 with heap:=w1.heap.setIfInBounds e.b (.mapIter (some f.b) ck (seen.toArray.push m.born) ck) }:=by simp [execOp,ho0,hv,g5]
      simp only [wpv,hex]
      have hr1:RelB G c β st H a w1:=by
       rcases g4 with rfl | rfl
       ·exact hr
       ·exact hr.drew
      have hs1:stab c β H w1=stab c β H w:=by rcases g4 with rfl | rfl <;> rfl
      have h21:w1.heap[e.b]? = some (.mapIter (some f.b) ck seen.toArray ck):=by rcases g4 with rfl | rfl <;> exact h2
      obtain⟨j,hj⟩:=List.mem_iff_getElem?.1 g2
      have hjl:j<es.length:=by
       have:=congrArg List.length h4
       simp only [List.length_map] at this
       have:=(List.getElem?_eq_some_iff.1 hj).1
       omega
      have hje:es[j]? = some es[j]:=by simp [hjl]
      obtain⟨q1,q2⟩:=Ziu h4 hj hje
      obtain⟨u,q3,q4⟩:=VRs.get _ _ h5 j es[j].2.2 (by rw [List.getElem?_map,hje]; rfl)
      rw [List.getElem?_map,hj] at q3
      simp only [Option.map_some,Option.some.injEq] at q3
      have gs:=hr1.setM (k':=.iter (some i) ck (seen++[m.born]) ck) he hq rfl rfl (fun h=>by cases h) (.mapIter (some f.b) ck (seen.toArray.push m.born) ck) h21 (fun _ _ _ h=>by cases h)
       (fun S' w' _ hw=>⟨some f.b,by rw [hw]; simp,by obtain⟨_,_,hlt',_⟩:=hr.blk q e _ he hq; exact hlt',f,hf,rfl⟩)
      refine⟨β,.tup [.sc (.bool true),.sc es[j].2.1,es[j].2.2],.sc (.bool true),_,gs.1,?_,rfl,?_⟩
      ·simp only [VR]
       refine⟨_,rfl,?_⟩
       show VRs _ _ _ [.sc (.bool true),.sc es[j].2.1,es[j].2.2] [.bool true,m.key,m.val]
       simp only [VRs,VR,and_true,true_and]
       refine⟨q2,?_⟩
       rw [q3]
       exact VR.ext_all gs.2 (BExt.refl _ _) (by
        rw [hs1]
        rcases g4 with rfl | rfl
        ·exact q4
        ·exact VR.ext_all (Ext.drew w) (BExt.refl _ _) q4)
      ·rw [q1]
       exact step es[j] (by simp) fun hin=>by
        have:=(hcon m.born).2 (by rw [q1]; exact hin)
        rw [g3] at this; cases this
    ·have hput:=k1.put k2 o0.dst (by rw [h1]; exact Zct (by simpa [dstOk,hd0] using c2))
     rw [hd0] at hput ⊢
     exact rest p r H' k3 k4 c _ w' β' h0 h1 hput
   ·cases hsh
  ·cases hsh
 ·cases hsh
def mfold {X σ ε:Type} (B:X→σ→Option (ε ⊕ σ)):List X→σ→Option (ε ⊕ σ)
 | [],s=>some (.inr s)
 | x :: l,s=>(B x s).bind fun o=>match o with
  | .inl e=>some (.inl e)
  | .inr s'=>mfold B l s'
theorem Zlt {X σ ε:Type} {B:X→σ→Option (ε ⊕ σ)} {x:X} {l:List X} {s:σ} (h:(mfold B (x :: l) s).isSome=true):∃ o,B x s=some o:=by
 cases hb:B x s with
 | none=>simp [mfold,hb] at h
 | some o=>exact⟨o,rfl⟩
def keepsE (E E':List (Nat × K × V)) (n:Nat):Prop:=E'=E∨∃ p:Nat × K × V→Bool,E'=E.filter p∧∀ z∈E,z.1 ≠ n→p z=true
def remOf (E:List (Nat × K × V)) (S:List Nat):List (K × V):=(E.filter fun x=>!(S.contains x.1)).map (·.2)
theorem Zhb {E E':List (Nat × K × V)} {S:List Nat} {n:Nat} (h:keepsE E E' n):remOf E' (S++[n])=remOf E (S++[n]):=by
 rcases h with rfl | ⟨p,rfl,hp⟩
 ·rfl
 ·unfold remOf
  rw [List.filter_filter]
  congr 1
  refine List.filter_congr fun z hz=>?_
  by_cases hn:z.1=n
  ·have:(S++[n]).contains z.1=true:=by simp [hn]
   rw [this]; cases p z <;> rfl
  ·rw [hp z hz hn]; simp
theorem Zih {S:List Nat} {x:Nat × K × V}:∀ {E:List (Nat × K × V)},x∈E→x.1 ∉ S→(E.map (·.1)).Nodup→(remOf E S).Perm (x.2 :: remOf E (S++[x.1]))
 | [],h,_,_=>by cases h
 | y :: E,h,hs,hn=>by
  rw [List.map_cons,List.nodup_cons] at hn
  have same:∀ E:List (Nat × K × V),x.1 ∉ E.map (·.1)→remOf E (S++[x.1])=remOf E S:=fun E hE=>by
   unfold remOf
   congr 1
   refine List.filter_congr fun z hz=>?_
   have hne:z.1 ≠ x.1:=fun e=>hE (by rw [← e]; exact List.mem_map_of_mem hz)
   have:(S++[x.1]).contains z.1=S.contains z.1:=by
    rw [Bool.eq_iff_iff]; simp [hne]
   rw [this]
  rcases List.mem_cons.1 h with rfl | h
  ·have h1:remOf (x :: E) S=x.2 :: remOf E S:=by
    unfold remOf
    rw [List.filter_cons,if_pos (by simpa using hs)]; rfl
   have h2:remOf (x :: E) (S++[x.1])=remOf E (S++[x.1]):=by
    unfold remOf
    rw [List.filter_cons,if_neg (by simp)]
   rw [h1,h2,same E hn.1]
  ·have ih:=Zih h hs hn.2
   have hne:y.1 ≠ x.1:=fun e=>hn.1 (by rw [e]; exact List.mem_map_of_mem h)
   have hc:(S++[x.1]).contains y.1=S.contains y.1:=by
    rw [Bool.eq_iff_iff]; simp [hne]
   unfold remOf at ih ⊢
   rw [List.filter_cons,List.filter_cons,hc]
   cases S.contains y.1 with
   | true=>simpa using ih
   | false=>
    simp only [Bool.not_false,if_true,List.map_cons]
    exact(ih.cons _).trans (.swap _ _ _)
def roundM {σ ε:Type} (kv:K→Value) (vv:V→Value) (M:σ→List (K × V)) (stf:σ→St) (Hf:σ→Blk→Blk→List Blk) (Qe:ε→Exit→St→List Blk→Prop) (i cl:Nat) (S:List Nat) (E:List (Nat × K × V)) (n:Nat) (o:ε ⊕ σ) (e:Exit) (st:St) (H:List Blk):Prop:=match o with
 | .inl y=>Qe y e st H
 | .inr s=>e=.normal∧∃ E',FmOk kv E' cl (M s)∧keepsE E E' n∧st=stf s∧H=Hf s (.map (E'.map (entT kv vv)) cl) (.iter (some i) cl (S++[n]) cl)
def overM {σ ε:Type} (kv:K→Value) (vv:V→Value) (M:σ→List (K × V)) (stf:σ→St) (Hf:σ→Blk→Blk→List Blk) (Qe:ε→Exit→St→List Blk→Prop) (i cl:Nat) (o:ε ⊕ σ) (e:Exit) (st:St) (H:List Blk):Prop:=match o with
 | .inl y=>Qe y e st H
 | .inr s=>e=.normal∧∃ E' S',FmOk kv E' cl (M s)∧st=stf s∧H=Hf s (.map (E'.map (entT kv vv)) cl) (.iter (some i) cl S' cl)
theorem AWP.rangeM {id r:Nat} {ops:Array Oper} {body:Code} {it t b i q cl:Nat} {σ ε:Type} (B:K × V→σ→Option (ε ⊕ σ)) (M:σ→List (K × V)) (stf:σ→St) (Hf:σ→Blk→Blk→List Blk) (Qe:ε→Exit→St→List Blk→Prop) {L:List (K × V)} {s0:σ} {E0:List (Nat × K × V)}
  (hsh:nextShape nt ops=some (it,t,b)) (hit:∀ s,(stf s).get it=some (.ptr q 0)) (hi:∀ s x y,(Hf s x y)[i]? = some x) (hq:∀ s x y,(Hf s x y)[q]? = some y) (hset:∀ s x y z,(Hf s x y).set q z=Hf s x z)
  (hdr:∀ s p r,((((stf s).put t p).put b r).pick ((stf s).map (·.1)))=stf s)
  (hQe:∀ y e st H,Qe y e st H→e ≠ .normal∧e ≠ .exit id) (hE0:FmOk kv E0 cl L) (hM:M s0=L) (hall:∀ l',l'.Perm L→(mfold B l' s0).isSome=true)
  (round:∀ E S (x:Nat × K × V) s o,B x.2 s=some o→x∈E→FmOk kv E cl (M s)→AWP P G n0 nt body (LeQ G n0 nt (roundM kv vv M stf Hf Qe i cl S E x.1 o)) (stf s) (Hf s (.map (E.map (entT kv vv)) cl) (.iter (some i) cl (S++[x.1]) cl))) :
  AWP P G n0 nt (.block id (.loop (.seq (.region r ops false) (.seq (.cond (.tmp b) .skip (.exit id)) body)))) (fun e st H=>∃ l':List (K × V),l'.Perm L∧∃ o,mfold B l' s0=some o∧overM kv vv M stf Hf Qe i cl o e st H)
   (stf s0) (Hf s0 (.map (E0.map (entT kv vv)) cl) (.iter (some i) cl [] cl)):=by
 refine AWP.bround (fun n st H=>∃(don:List (K × V)) (E:List (Nat × K × V)) (S:List Nat) (s:σ),n=(remOf E S).length∧(don++remOf E S).Perm L∧(∀ l',mfold B (don++l') s0=mfold B l' s)∧FmOk kv E cl (M s)∧st=stf s∧H=Hf s (.map (E.map (entT kv vv)) cl) (.iter (some i) cl S cl)) (remOf E0 []).length
  ⟨[],E0,[],s0,rfl,?_,fun _=>rfl,by rw [hM]; exact hE0,rfl,rfl⟩ ?_
 ·have:remOf E0 []=E0.map (·.2):=by
   unfold remOf
   rw [List.filter_eq_self.2 fun _ _=>by simp]
  rw [List.nil_append,this]
  exact hE0.perm
 ·rintro n st H ⟨don,E,S,s,rfl,hp,hf,hE,rfl,rfl⟩
  refine AWP.seq ?_
  refine AWP.nextM hsh (hit s) (hq _ _ _) (hi _ _ _) (fun x hx=>?_) (fun hover=>?_) (fun x hx hns=>?_)
  ·obtain⟨y,hy,rfl⟩:=List.mem_map.1 hx
   exact hE.lt y hy
  ·refine AWP.seq (AWP.cond (b:=false) (Zej _ _ _) (fun h=>by cases h) fun _=>AWP.pick (hdr s _ _) (AWP.exit ?_))
   simp only [seqQ,roundQ,Nat.beq_refl]
   have hrem:remOf E S=[]:=by
    unfold remOf
    rw [List.map_eq_nil_iff,List.filter_eq_nil_iff]
    intro y hy
    have:=hover (entT kv vv y) (List.mem_map_of_mem hy)
    simpa [entT] using this
   rw [hrem,List.append_nil] at hp
   have h1:=hf []
   rw [List.append_nil] at h1
   exact⟨don,hp,.inr s,h1,rfl,E,S,hE,rfl,rfl⟩
  ·obtain⟨y,hy,rfl⟩:=List.mem_map.1 hx
   have hstep:=Zih hy hns hE.nd
   have hp1:(don++y.2 :: remOf E (S++[y.1])).Perm L:=(hstep.symm.append_left don).trans hp
   have h1:=hall _ hp1
   rw [hf] at h1
   obtain⟨o,ho⟩:=Zlt h1
   refine AWP.seq (AWP.cond (b:=true) (Zej _ _ _) (fun _=>AWP.skip ?_) fun h=>by cases h)
   refine AWP.pick (hdr s _ _) ?_
   rw [hset]
   refine AWP.mid _ (round E S y s o ho hy hE) fun e st H hq=>?_
   unfold roundM at hq
   cases o with
   | inl z=>
    obtain⟨n1,n2⟩:=hQe z e st H hq
    have fin:∃ l':List (K × V),l'.Perm L∧∃ o,mfold B l' s0=some o∧overM kv vv M stf Hf Qe i cl o e st H:=
     ⟨_,hp1,.inl z,by rw [hf,mfold,ho]; rfl,hq⟩
    cases e with
    | normal=>exact absurd rfl n1
    | exit j=>
     simp only [roundQ]
     split
     ·rename_i hj
      exact absurd (by rw [Nat.eq_of_beq_eq_true hj]) n2
     ·exact fin
    | ret=>exact fin
    | goto l=>exact fin
    | panic ch=>exact fin
    | outgrown=>exact fin
   | inr s'=>
    obtain⟨rfl,E',g1,g2,rfl,rfl⟩:=hq
    refine LeQ.of ⟨(remOf E' (S++[y.1])).length,?_,don++[y.2],E',S++[y.1],s',rfl,?_,fun l'=>?_,g1,rfl,rfl⟩
    ·rw [Zhb g2,hstep.length_eq]; simp
    ·rw [Zhb g2,List.append_assoc]; exact hp1
    ·rw [List.append_assoc,hf,List.singleton_append,mfold,ho]; rfl
end
end Go.AM
namespace Go.AM
section
variable {P:Program} {G:Glob} {n0 nt:Nat} {o:Oper} {st:St} {H:List Blk} {Q:Exit→St→List Blk→Prop}
variable {K V:Type} {kv:K→Value} {vv:V→Value} {eqk:K→K→Bool} {kt:TypeId}
open Classical in
noncomputable def allp {X R:Type} (L:List X) (f:List X→Option R):Option R:=if h:∃ r,∀ l',l'.Perm L→f l'=some r then some h.choose else none
theorem allpb {X R:Type} {L:List X} {f:List X→Option R} {r:R} (h:allp L f=some r):∀ l',l'.Perm L→f l'=some r:=by
 unfold allp at h
 split at h
 ·rename_i hx
  simp only [Option.some.injEq] at h
  rw [← h]; exact hx.choose_spec
 ·cases h
theorem Zg0 {X R:Type} {L:List X} {f:List X→Option R} {r:R} (h:∀ l',l'.Perm L→f l'=some r):allp L f=some r:=by
 have hx:∃ r,∀ l',l'.Perm L→f l'=some r:=⟨r,h⟩
 unfold allp
 rw [dif_pos hx,← hx.choose_spec L (List.Perm.refl _)]
 exact h L (List.Perm.refl _)
theorem overb {α γ:Type} {x:Option α} {f:α→Option γ} {r:γ} {a:α} (ha:x=some a) (h:x.bind f=some r):f a=some r:=by subst ha; exact h
theorem isb {α γ:Type} {x:Option α} {f:α→Option γ} {r:γ} (h:x.bind f=some r):x.isSome=true:=by
 cases x with
 | none=>cases h
 | some a=>rfl
theorem iteb {γ:Type} {c:Prop} [Decidable c] {a b:Option γ} {r:γ} (h:(if c then a else b)=some r):(c∧a=some r)∨(¬c∧b=some r):=by
 split at h
 ·exact .inl ⟨‹_›,h⟩
 ·exact .inr ⟨‹_›,h⟩
theorem AWP.openM {x:Code} (kv:K→Value) (vv:V→Value) (L:List (K × V)) (i:Nat) (h:∀ E cl,FmOk kv E cl L→AWP P G n0 nt x Q st (H.set i (.map (E.map (entT kv vv)) cl))) (hb:H[i]? = some (.fm (L.map (entF kv vv))):=by kernel_rfl):AWP P G n0 nt x Q st H:=fun c a w β h0 h1 hr=>
 let ⟨E,cl,h2,h3⟩:=hr.openM hb
 h E cl h2 c a w β h0 h1 h3
theorem Le.closeM {i:Nat} {E:List (Nat × K × V)} {cl:Nat} {L:List (K × V)} (hE:FmOk kv E cl L) (hb:H[i]? = some (.map (E.map (entT kv vv)) cl)):Le G n0 nt st H st (H.set i (.fm (L.map (entF kv vv)))):=fun _ _ _ β _ _ hr=>⟨β,hr.closeM hb hE⟩
theorem AWP.closeM {x:Code} (vv:V→Value) {E:List (Nat × K × V)} {cl:Nat} {L:List (K × V)} (i:Nat) (hE:FmOk kv E cl L) (h:AWP P G n0 nt x Q st (H.set i (.fm (L.map (entF kv vv))))) (hb:H[i]? = some (.map (E.map (entT kv vv)) cl):=by kernel_rfl):AWP P G n0 nt x Q st H:=AWP.le (Le.closeM hE hb) h
theorem LeQ.closeM {e:Exit} (vv:V→Value) {E:List (Nat × K × V)} {cl:Nat} {L:List (K × V)} (i:Nat) (hE:FmOk kv E cl L) (h:LeQ G n0 nt Q e st (H.set i (.fm (L.map (entF kv vv))))) (hb:H[i]? = some (.map (E.map (entT kv vv)) cl):=by kernel_rfl):LeQ G n0 nt Q e st H:=LeQ.le (Le.closeM hE hb) h
theorem farN {m:Nat}:([]:List Blk).all (Blk.farOk m)=true:=rfl
theorem farC {m:Nat} {k:Blk} {l:List Blk} (h:Blk.farOk m k=true) (hs:l.all (Blk.farOk m)=true):(k :: l).all (Blk.farOk m)=true:=by
 rw [List.all_cons,h,hs]; rfl
theorem farM {m cl:Nat} {E:List (Nat × K × V)} {l:List Blk} (hs:l.all (Blk.farOk m)=true):(.map (E.map (entT kv vv)) cl :: l).all (Blk.farOk m)=true:=by
 refine farC ?_ hs
 show PV.idss (fun j=>decide (j<m)) ((E.map (entT kv vv)).map (·.2.2))=true
 induction E with
 | nil=>rfl
 | cons x E ih=>simp only [List.map_cons,PV.idss,ih,Bool.and_true]; rfl
def Hnd.ptrNil:Hnd P G where
 run o st H:=match o.op with
  | .binOp op t x y _=>match P.underlying t,opd G st x,opd G st y with
   | some (.pointer _),some (.ptr _ _),some (.sc (.pointer none))=>match op with
    | .eql=>some ⟨.sc (.bool false),H,[],[]⟩
    | .neq=>some ⟨.sc (.bool true),H,[],[]⟩
    | _=>none
   | _,_,_=>none
  | _=>none
 sound:=by
  intro n0 o st H z hr _
  split at hr
  ·rename_i op t x y t' ho
   split at hr
   ·rename_i e i off hu hx hy
    cases op with
    | eql=>simp only [Option.some.injEq] at hr; subst hr; exact(OpT.ptrNil ho hu hx trivial hy).weak
    | neq=>simp only [Option.some.injEq] at hr; subst hr; exact(OpT.ptrNotNil ho hu hx trivial hy).weak
    | _=>cases hr
   ·cases hr
  ·cases hr
def isStr (P:Program) (t:TypeId):Bool:=match P.underlying t with
 | some (.struct _)=>true
 | _=>false
def isInt (P:Program) (t:TypeId):Bool:=match P.underlying t with
 | some (.int _)=>true
 | _=>false
def Value.prim:Value→Bool
 | .bool _=>true
 | .int _ _=>true
 | _=>false
theorem Zfy {v:Value} (h:Value.prim v=true) (n:Nat):Instr.sameBits n v v=true:=by
 unfold Value.prim at h
 split at h
 ·simp [Instr.sameBits]
 ·simp [Instr.sameBits]
 ·cases h
theorem Ze3 (n:Nat):∀(l:List Value),l.all Value.prim=true→(l.zip l).all (fun x=>Instr.sameBits n x.1 x.2)=true
 | [],_=>rfl
 | v :: l,h=>by
  simp only [List.all_cons,Bool.and_eq_true] at h
  simp only [List.zip_cons_cons,List.all_cons,Zfy h.1 n,Ze3 n l h.2,Bool.and_self]
theorem Zj9 {l:List Value} (h:l.all Value.prim=true):Instr.sameBits 10000 (.agg ⟨l⟩) (.agg ⟨l⟩)=true:=by
 show Instr.sameBits (9999 + 1) (.agg ⟨l⟩) (.agg ⟨l⟩)=true
 simp only [Instr.sameBits,beq_self_eq_true,Bool.true_and]
 exact Ze3 9999 l h
theorem KeyOk.struct {vs:K→List Value} (h:isStr P kt=true) (chk:∀ a,chkK P 20 kt (.agg ⟨vs a⟩)=true) (cmp:∀ a b,flatEq P 50 kt (.agg ⟨vs a⟩) (.agg ⟨vs b⟩)=some (eqk a b)) (hp:∀ a,(vs a).all Value.prim=true) (eq:∀ a b,eqk a b=true ↔ a=b):KeyOk P kt (fun a=>.agg ⟨vs a⟩) eqk:=by
 refine⟨chk,cmp,?_,fun a=>Zj9 (hp a),eq⟩
 unfold isStr at h
 split at h
 ·rename_i fs hf
  exact⟨_,hf,.inl fun _ _=>rfl⟩
 ·cases h
theorem KeyOk.int {k:IntKind} (h:isInt P kt=true) (chk:∀ a,chkK P 20 kt (.int k a)=true) (cmp:∀ a b:Int,flatEq P 50 kt (.int k a) (.int k b)=some (a == b)):KeyOk P kt (fun a:Int=>.int k a) (fun a b=>a == b):=by
 refine⟨chk,cmp,?_,fun a=>Zfy rfl _,fun a b=>by simp⟩
 unfold isInt at h
 split at h
 ·rename_i k' hf
  exact⟨_,hf,.inr fun a b=>by simp [Instr.sameNow]⟩
 ·cases h
theorem roundM.mk {σ ε:Type} {M:σ→List (K × V)} {stf:σ→St} {Hf:σ→Blk→Blk→List Blk} {Qe:ε→Exit→St→List Blk→Prop} {i cl:Nat} {S:List Nat} {E E':List (Nat × K × V)} {n:Nat} {s:σ} {L:List (K × V)} (hE:FmOk kv E' cl L) (hk:keepsE E E' n) (hL:L=M s:=by kernel_rfl)
  (hst:st=stf s:=by kernel_rfl) (hH:H=Hf s (.map (E'.map (entT kv vv)) cl) (.iter (some i) cl (S++[n]) cl):=by kernel_rfl):roundM kv vv M stf Hf Qe i cl S E n (.inr s) .normal st H:=⟨rfl,E',by rw [← hL]; exact hE,hk,hst,hH⟩
theorem roundM.ret {σ ε:Type} {M:σ→List (K × V)} {stf:σ→St} {Hf:σ→Blk→Blk→List Blk} {Qe:ε→Exit→St→List Blk→Prop} {i cl:Nat} {S:List Nat} {E:List (Nat × K × V)} {n:Nat} {y:ε} {e:Exit} (h:Qe y e st H):roundM kv vv M stf Hf Qe i cl S E n (.inl y) e st H:=h
theorem keepsE.del (h:KeyOk P kt kv eqk) {E:List (Nat × K × V)} {cl:Nat} {L:List (K × V)} (hE:FmOk kv E cl L) {x:Nat × K × V} (hx:x∈E):keepsE E (E.filter fun y=>!eqk x.2.1 y.2.1) x.1:=by
 refine .inr ⟨_,rfl,fun z hz hne=>?_⟩
 cases hq:eqk x.2.1 z.2.1 with
 | false=>rfl
 | true=>
  exfalso
  have e1:=(h.eq _ _).1 hq
  obtain⟨i,hi⟩:=List.mem_iff_getElem?.1 hx
  obtain⟨j,hj⟩:=List.mem_iff_getElem?.1 hz
  have hij:i=j:=by
   refine(List.getElem?_inj (by rw [List.length_map,List.length_map]; exact(List.getElem?_eq_some_iff.1 hi).1) hE.keysE).1 ?_
   simp only [List.getElem?_map,hi,hj,Option.map_some,e1]
  subst hij
  rw [hi] at hj
  simp only [Option.some.injEq] at hj
  exact hne (by rw [hj])
theorem retNe {e:Exit} {id:Nat} (h:e=.ret):e ≠ .normal∧e ≠ .exit id:=by
 subst h
 exact⟨(fun h=>by cases h),(fun h=>by cases h)⟩
theorem AWP.rangeQ {id r:Nat} {ops:Array Oper} {body:Code} {it t b i q cl:Nat} {σ ε:Type} {B:K × V→σ→Option (ε ⊕ σ)} {M:σ→List (K × V)} {stf:σ→St} {Hf:σ→Blk→Blk→List Blk} {Qe:ε→Exit→St→List Blk→Prop} {L:List (K × V)} {si_:σ} {Ei_:List (Nat × K × V)}
  (hsh:nextShape nt ops=some (it,t,b)) (hit:∀ s,(stf s).get it=some (.ptr q 0)) (hi:∀ s x y,(Hf s x y)[i]? = some x) (hq:∀ s x y,(Hf s x y)[q]? = some y) (hset:∀ s x y z,(Hf s x y).set q z=Hf s x z)
  (hdr:∀ s p r,((((stf s).put t p).put b r).pick ((stf s).map (·.1)))=stf s)
  (hQe:∀ y e st H,Qe y e st H→e ≠ .normal∧e ≠ .exit id) (hE0:FmOk kv Ei_ cl L) (hM:M si_=L) (hall:∀ l',l'.Perm L→(mfold B l' si_).isSome=true)
  (hst:st=stf si_) (hH:H=Hf si_ (.map (Ei_.map (entT kv vv)) cl) (.iter (some i) cl [] cl))
  (round:∀ E S (x:Nat × K × V) s o,B x.2 s=some o→x∈E→FmOk kv E cl (M s)→AWP P G n0 nt body (LeQ G n0 nt (roundM kv vv M stf Hf Qe i cl S E x.1 o)) (stf s) (Hf s (.map (E.map (entT kv vv)) cl) (.iter (some i) cl (S++[x.1]) cl)))
  (k:∀ l' o,l'.Perm L→mfold B l' si_=some o→∀ e st H,overM kv vv M stf Hf Qe i cl o e st H→Q e st H) :
  AWP P G n0 nt (.block id (.loop (.seq (.region r ops false) (.seq (.cond (.tmp b) .skip (.exit id)) body)))) Q st H:=by
 subst hst hH
 exact(AWP.rangeM B M stf Hf Qe hsh hit hi hq hset hdr hQe hE0 hM hall round).mono fun e st H ⟨l',hp,o,ho,h⟩=>k l' o hp ho e st H h
def Hnd.callS {f:FuncId} {fn:Func} {args0:List PV} {H0 H1:List Blk} {p1:PV} (hfn:P.funcs[f]? = some fn) (σ:List Nat) (ws:List Ow) (hc:ACall P G f args0 H0 (fun q K=>q=p1∧K=H1)):Hnd P G where
 run o st H:=match o.op with
  | .call cl=>match cl.callee with
   | .value x=>match opd G st x,opdL G st cl.args.toList with
    | some px,some ps=>match wkArgs P H false fn.params.toList ps ws with
     | some (qs,l,r)=>
      if fn.body.isNone=false∧(fn.name == "runtime.NumGoroutine")=false∧σ.Pairwise (·<·)∧H0.all Blk.isCells=true then
       some ⟨p1.ren (renId σ H.length),setAll σ (H1.map (Blk.ren (renId σ H.length))) H,.p px :: .ps qs :: .bs (H0.map (fun k=>some (k.ren (renId σ H.length)))) :: l,
        .p (.sc (.func (.func f) #[] #[])) :: .ps (PV.rens (renId σ H.length) args0) :: .bs (σ.map (H[·]?)) :: r⟩
      else none
     | _=>none
    | _,_=>none
   | _=>none
  | _=>none
 sound:=by
  intro n0 o st H x h he
  suffices hT:OpT P G n0 o st H x.p x.H from hT.weak
  split at h
  ·rename_i cl ho
   split at h
   ·rename_i x hcl
    split at h
    ·rename_i px ps hx hps
     split at h
     ·rename_i qs l r hw
      split at h
      ·rename_i hcond
       obtain⟨c1,c2,c3,c4⟩:=hcond
       simp only [Option.some.injEq] at h
       subst h
       simp only [List.cons.injEq,T.p.injEq,T.ps.injEq,T.bs.injEq] at he
       obtain⟨h1,h2,h3,h4⟩:=he
       subst h1
       exact OpT.call (caps:=[]) ho hcl (.inl ⟨hx,rfl⟩) hfn c1 c2 (Za8 _ _ hps) (by rw [List.append_nil]; exact Zcv _ _ _ _ hw h4) h2 c3 c4 h3 hc rfl rfl
      ·cases h
     ·cases h
    ·cases h
   ·cases h
  ·cases h
variable {α:Type}
end
end Go.AM
namespace Go.AM
section
variable {P:Program} {G:Glob} {α:Type}
variable {n0 nt:Nat} {st:St} {H:List Blk} {Q:Exit→St→List Blk→Prop}
theorem AWP.swap {x:Code} {st':St} {H':List Blk} (i j:Nat) {a b:Blk} (h:AWP P G n0 nt x Q st' H') (hi:H[i]? = some a:=by kernel_rfl) (hj:H[j]? = some b:=by kernel_rfl) (h1:Nat.ble n0 i=true:=by kernel_rfl) (h2:Nat.ble n0 j=true:=by kernel_rfl)
  (hok:okIds (swapB i j a b H)=true:=by kernel_rfl) (hs:(st.map fun z=>(z.1,z.2.ren (sw i j)))=st':=by kernel_rfl) (hH:swapB i j a b H=H':=by kernel_rfl):AWP P G n0 nt x Q st H:=by
 subst hs hH
 exact AWP.le (fun _ _ _ _ h0 _ hr=>hr.swap hi hj h0 (Nat.le_of_ble_eq_true h1) (Nat.le_of_ble_eq_true h2) hok) h
end
end Go.AM
namespace Go.AM
open Go.Proofs Go.Sort
section
variable {α:Type}
def cmpOf (c:α→α→Option Int) (x y:α):Int:=(c x y).getD 0
open Classical in
noncomputable def sortFn [Inhabited α] (c:α→α→Option Int) (l:List α):Option (List α):=
 if (∀ x y,(c x y).isSome=true)∧SWO (ltOf (cmpOf c))∧l.length<4611686018427387904 then some (pdq (ltOf (cmpOf c)) l.toArray 0 l.length (Lib.bitLen l.length) true true).toList else none
theorem Zhc [Inhabited α] {c:α→α→Option Int} {l l':List α} (h:sortFn c l=some l'):(∀ x y,c x y=some (cmpOf c x y))∧SWO (ltOf (cmpOf c))∧l.length<4611686018427387904∧l'=(pdq (ltOf (cmpOf c)) l.toArray 0 l.length (Lib.bitLen l.length) true true).toList:=by
 unfold sortFn at h
 split at h
 ·rename_i hc
  simp only [Option.some.injEq] at h
  refine⟨fun x y=>?_,hc.2.1,hc.2.2,h.symm⟩
  obtain⟨r,hr⟩:=Option.isSome_iff_exists.1 (hc.1 x y)
  simp [cmpOf,hr]
 ·cases h
theorem Zhd [Inhabited α] {c:α→α→Option Int} {l l':List α} (h:sortFn c l=some l'):l'.Perm l∧l'.Pairwise (fun x y=>ltOf (cmpOf c) y x=false):=by
 obtain⟨_,h2,_,rfl⟩:=Zhc h
 obtain⟨⟨p1,_,p3⟩,hs⟩:=pdq_sorts (ltOf (cmpOf c)) h2 l.toArray 0 l.length (Lib.bitLen l.length) true true (Nat.zero_le _) (by simp) (Or.inl rfl)
 generalize pdq (ltOf (cmpOf c)) l.toArray 0 l.length (Lib.bitLen l.length) true true=d at p1 p3 hs
 have hsz:d.size=l.length:=by simpa using p1
 constructor
 ·have e1:d.extract 0 l.length=d:=by rw [← hsz]; exact Array.extract_size
  have e2:l.toArray.extract 0 l.length=l.toArray:=by
   simp
  rw [e1,e2] at p3
  simp at p3
  exact p3
 ·rw [List.pairwise_iff_getElem]
  intro i j hi hj hij
  have hi':i<d.size:=by simpa using hi
  have hj':j<d.size:=by simpa using hj
  have:=hs i j (Nat.zero_le _) hij (by omega)
  rw [getElem!_pos d j hj',getElem!_pos d i hi'] at this
  simpa using this
theorem Zlu [Inhabited α] {c:α→α→Option Int} {l l':List α} (h:sortFn c l=some l'):l'.length=l.length:=(Zhd h).1.length_eq
theorem Zii [Inhabited α] (vs:α→List Value) {k:Nat} (hk:∀ x,(vs x).length=k) (d:Array α):(flatK vs k d).toList=(d.toList.map vs).flatten:=by
 have hlen:((d.toList.map vs).flatten).length=d.size * k:=by
  have:∀ l:List α,((l.map vs).flatten).length=l.length * k:=by
   intro l
   induction l with
   | nil=>simp
   | cons x l ih=>simp only [List.map_cons,List.flatten_cons,List.length_append,ih,hk,List.length_cons,Nat.add_mul]; omega
  rw [this]; simp
 have key:∀(l:List α) (t:Nat),t<l.length * k→((l.map vs).flatten)[t]? = (l[t / k]?).bind fun x=>(vs x)[t % k]?:=by
  intro l
  induction l with
  | nil=>intro t ht; simp at ht
  | cons x l ih=>
   intro t ht
   have k0:0<k:=by
    rcases Nat.eq_zero_or_pos k with h | h
    ·subst h; simp at ht
    ·exact h
   simp only [List.map_cons,List.flatten_cons]
   by_cases h:t<k
   ·rw [List.getElem?_append_left (by rw [hk]; exact h),Nat.div_eq_of_lt h,Nat.mod_eq_of_lt h]
    simp
   ·rw [List.getElem?_append_right (by rw [hk]; omega),hk,ih (t - k) (by simp only [List.length_cons,Nat.add_mul,Nat.one_mul] at ht; omega)]
    have e1:t / k=(t - k) / k + 1:=by
     rw [Nat.div_eq_sub_div k0 (by omega)]
    have e2:t % k=(t - k) % k:=by rw [Nat.mod_eq_sub_mod (by omega)]
    rw [e1,e2,List.getElem?_cons_succ]
 apply List.ext_getElem?
 intro t
 by_cases ht:t<d.size * k
 ·have k0:0<k:=by
   rcases Nat.eq_zero_or_pos k with h | h
   ·subst h; simp at ht
   ·exact h
  have hd:t / k<d.size:=Nat.div_lt_of_lt_mul (by rw [Nat.mul_comm]; exact ht)
  rw [key d.toList t (by simpa using ht)]
  have h1:=get_flatK vs k d t ht
  have hs:t<(flatK vs k d).size:=by simpa using ht
  rw [getElem!_pos _ t hs] at h1
  rw [Array.getElem?_toList,Array.getElem?_eq_getElem hs,h1,Array.getElem?_toList,Array.getElem?_eq_getElem hd,getElem!_pos d _ hd]
  have hm:t % k<(vs d[t / k]).length:=by rw [hk]; exact Nat.mod_lt _ k0
  simp only [Option.bind_some]
  rw [List.getElem?_eq_getElem hm,getElem!_pos (vs d[t / k]) _ hm]
 ·rw [List.getElem?_eq_none (by simpa using ht),List.getElem?_eq_none (by rw [hlen]; omega)]
theorem Zjp (F:Array Value) (c:Array Value) (h:F.size≤c.size):(putCells id 0 F c).toList=F.toList++c.toList.drop F.size:=by
 apply List.ext_getElem?
 intro i
 unfold putCells
 rw [Array.getElem?_toList,Array.getElem?_mapIdx]
 by_cases hi:i<F.size
 ·rw [List.getElem?_append_left (by simpa using hi),Array.getElem?_eq_getElem (show i<c.size by omega),Array.getElem?_toList,Array.getElem?_eq_getElem hi]
  simp only [Option.map_some,Option.some.injEq]
  rw [if_pos ⟨Nat.zero_le _,by omega⟩]
  simp only [id,Nat.sub_zero]
  rw [getElem!_pos F i hi]
 ·rw [List.getElem?_append_right (by simpa using Nat.le_of_not_lt hi),List.getElem?_drop]
  have e:F.size + (i - F.toList.length)=i:=by simp only [Array.length_toList]; omega
  rw [e,Array.getElem?_toList]
  cases c[i]? with
  | none=>rfl
  | some v=>
   simp only [Option.map_some,Option.some.injEq]
   rw [if_neg (by omega)]
end
section
variable {P:Program} {G:Glob} {n0:Nat} {α:Type} [Inhabited α] {ρ:Go.Shelf.Ren}
theorem ACall.sortF (L:SlLaysF0.n6 P ρ) {k:Nat} (aE:∀ w,(isAgg (ρ.t 24)).run P w=.ok true w) (zE:∀ w,(Go.sizeOf (ρ.t 24)).run P w=.ok k w) (vs:α→List Value) (hk:∀ x,(vs x).length=k) (h1:∀ x,∀ v∈vs x,v.oneCell'=true)
  {c:α→α→Option Int} {g:Nat} (eg:∀ args w,(callFunc g args).run P w=.ok (.enter g args) w) (hc:∀ x y r,c x y=some r→ACall P G g [.sc (.agg ⟨vs x⟩),.sc (.agg ⟨vs y⟩)] [] (fun p K=>p=.sc (.int .i64 r)∧K=[]))
  {l l':List α} (hs:sortFn c l=some l') (hne:l ≠ []) (sp:List Value) :
  ACall P G (ρ.f 6) [.vw 0 0 l.length,.sc (.func (.func g) #[] #[])] [.cells (cel (fun x=>(vs x).map .sc) l sp)] (fun q K=>q=.tup []∧K=[.cells (cel (fun x=>(vs x).map .sc) l' sp)]):=by
 have hl':=Zlu hs
 obtain⟨hcs,hO,hsz,hdl⟩:=Zhc hs
 intro S0 β0 w cargs hin hargs
 obtain⟨ca⟩:=cargs
 have hlen:=hin.len
 obtain⟨e,rfl⟩:∃ e,β0=[e]:=by
  cases β0 with
  | nil=>simp at hlen
  | cons e t=>
   cases t with
   | nil=>exact⟨e,rfl⟩
   | cons _ _=>simp at hlen
 match ca,hargs with
 | [u0,u1],hargs=>
  simp only [VRs,VR,and_true] at hargs
  obtain⟨⟨e',he',cap,ad,hcap,rfl,had⟩,rfl⟩:=hargs
  simp only [List.getElem?_cons_zero,Option.some.injEq] at he'
  subst he'
  have hn0:l.length ≠ 0:=by simpa using hne
  have had:=had hn0
  subst had
  obtain⟨_,hidss,vals,t,hrow,hv⟩:=hin.blk 0 e _ rfl rfl
  have hcel:∀(l:List α),cel (fun x=>(vs x).map .sc) l sp=((l.map vs).flatten++sp).map .sc:=fun l=>by
   unfold cel
   rw [List.map_append,List.map_flatten,List.map_map]; rfl
  rw [hcel] at hv
  have hvals:=VRs.scs_iff _ _ hv
  have hblk:=Zed hrow
  have hfl:=Zii vs hk l.toArray
  have hfs:(flatK vs k l.toArray).size≤vals.size:=by
   have:=congrArg List.length hvals
   rw [← Array.length_toList,← Array.length_toList,hfl,this]
   simp
  have hH:HoldsK vs k w e.b 0 l.toArray:=by
   intro j hj
   have hj':j<vals.size:=by omega
   have hcell:w.cell? ⟨e.b,0 + j,none⟩=vals[j]?:=Zbu hrow (0 + j) |>.trans (by rw [Nat.zero_add])
   constructor
   ·rw [hcell]
    have h2:(flatK vs k l.toArray).toList[j]? = some (flatK vs k l.toArray)[j]:=by rw [Array.getElem?_toList,Array.getElem?_eq_getElem hj]
    rw [hfl] at h2
    simp only [id]
    rw [getElem!_pos _ j hj,← h2,← Array.getElem?_toList,hvals]
    have hj2:j<((l.map vs).flatten).length:=by
     have h3:=congrArg List.length hfl
     simp only [Array.length_toList] at h3
     rw [← h3]; exact hj
    rw [List.getElem?_append_left hj2]
   ·obtain⟨fz,hz,hok⟩:=hrow
    obtain⟨lo,hi⟩:=fz
    simp only [World.frozen?,hz,Nat.zero_add]
    rcases hok with hok | hok
    ·simp only at hok
     rw [Bool.and_eq_false_iff]
     by_cases hh:lo≤j
     ·right; simp; omega
     ·left; simpa using hh
    ·simp only at hok
     rw [Bool.and_eq_false_iff]
     left; simp; omega
  have hcmp:CmpLays P g #[] vs k (cmpOf c) e.b 0 l.toArray.size w:=by
   intro m os dk _ x y
   have hca:=hc x y _ (hcs x y) S0 [] (sortWorldK vs k w e.b 0 m dk os) #[.agg ⟨vs x⟩,.agg ⟨vs y⟩]
   generalize hW:sortWorldK vs k w e.b 0 m dk os=W at hca ⊢
   have hsize:w.heap.size≤W.heap.size:=by rw [← hW]; simp [sortWorldK,grow,putRowK,putRow,mapBlock,ahead]
   have hcellW:∀ b o,b ≠ e.b→b<w.heap.size→W.cell? ⟨b,o,none⟩=w.cell? ⟨b,o,none⟩:=fun b o hb hbl=>by
    rw [← hW]
    unfold sortWorldK
    rw [cell?_grow _ _ _ (by simpa [putRowK,putRow,mapBlock,ahead] using hbl),cell?_putRowK_other _ _ _ _ _ _ _ hb]
    rfl
   have hext:Ext S0 w S0 W:=⟨fun _ _ h=>h,fun b hi o v hS _ hcv=>by
    obtain⟨q1,q2⟩:=hin.ctx.old b hi hS
    rw [hcellW b o (Ne.symm (q2 e (by simp))) q1]; exact hcv⟩
   have hinW:InOk G S0 [] [] W:=by
    refine⟨⟨fun b hi hS=>⟨Nat.lt_of_lt_of_le (hin.ctx.old b hi hS).1 hsize,fun _ h=>(by cases h)⟩,fun gg cs hg=>?_,fun _ h=>(by cases h),hin.ctx.down⟩,rfl,fun i e k h=>(by simp at h),fun i j e f _ h=>(by simp at h)⟩
    obtain⟨q1,q2⟩:=hin.ctx.glob gg cs hg
    exact⟨q1,VRow.ext hext (BExt.refl _ _) gg cs.length q1 cs 0 (by omega) (PV.idss_true cs) q2⟩
   refine(hca hinW (by simp only [VRs,VR,and_self])).mono ?_
   rintro ee w' ⟨v,p,H',γ,rfl,⟨rfl,rfl⟩,ho,hv⟩
   simp only [VR] at hv
   subst hv
   have hγ:γ=[]:=by have:=ho.len; simpa using this
   subst hγ
   refine⟨rfl,w'.drawn - W.drawn,w'.heap.extract W.heap.size w'.heap.size,?_⟩
   have f1:=ho.frm.os
   have f2:=ho.frm.tape
   have f3:=ho.frm.output
   have f4:=ho.frm.size
   have f5:=ho.frm.drawn
   simp only at f1 f2 f3 f4 f5
   have f6:w'.heap=W.heap++w'.heap.extract W.heap.size w'.heap.size:=by
    apply Array.ext_getElem?
    intro i
    rw [Array.getElem?_append]
    split
    ·rename_i hi
     exact ho.frm.block i hi (fun _ h=>(by cases h))
    ·rename_i hi
     rw [Array.getElem?_extract]
     by_cases hi2:i<w'.heap.size
     ·rw [if_pos (by omega)]; congr 1; omega
     ·rw [if_neg (by omega)]; simp; omega
   obtain⟨wh,wt,wd,wo,wu⟩:=w'
   simp only at f1 f2 f3 f5 f6
   subst f1 f2 f3
   unfold grow World.drewN
   simp only
   rw [← f6,show W.drawn + (wd - W.drawn)=wd by omega]
  have hcall:=AnyQ.slices_SortFunc_eq L k aE zE vs hk h1 (cmpOf c) hO g #[] e.b 0 cap l.toArray w eg hcmp hH hblk (by simpa using hsz)
  have esz:l.toArray.size=l.length:=by simp
  rw [esz] at hcall
  refine hcall.mono ?_
  rintro ee w' ⟨rfl,n,os,rfl⟩
  have hfl':=Zii vs hk (pdq (ltOf (cmpOf c)) l.toArray 0 l.length (Lib.bitLen l.length) true true)
  rw [← hdl] at hfl'
  generalize hd:pdq (ltOf (cmpOf c)) l.toArray 0 l.length (Lib.bitLen l.length) true true=d at hfl' hdl
  have hflat:∀ m:List α,((m.map vs).flatten).length=m.length * k:=fun m=>by
   induction m with
   | nil=>simp
   | cons x m ih=>simp only [List.map_cons,List.flatten_cons,List.length_append,ih,hk,List.length_cons,Nat.add_mul]; omega
  have hfs':(flatK vs k d).size=(l.length) * k:=by
   rw [← Array.length_toList,hfl',hflat,hl']
  have hvs:vals.toList=(l.map vs).flatten++sp:=hvals
  obtain⟨fz,hz,hok⟩:=hrow
  have hvsz:vals.size=l.length * k + sp.length:=by
   rw [← Array.length_toList,hvs,List.length_append,hflat]
  have hnewrow:(sortWorldK vs k w e.b 0 n d os).heap[e.b]? = some (.cells (putCells id 0 (flatK vs k d) vals) t fz):=by
   unfold sortWorldK
   rw [heap_grow_old _ _ (by simpa [putRowK,putRow,mapBlock,ahead] using hblk)]
   simp only [putRowK,putRow,mapBlock,Array.getElem?_modify,if_true]
   show Option.map (onCells (putCells id 0 (flatK vs k d))) w.heap[e.b]? = _
   rw [hz]; rfl
  have hother:∀ b,b ≠ e.b→b<w.heap.size→(sortWorldK vs k w e.b 0 n d os).heap[b]? = w.heap[b]?:=fun b hb hbl=>by
   unfold sortWorldK
   rw [heap_grow_old _ _ (by simpa [putRowK,putRow,mapBlock,ahead] using hbl)]
   simp only [putRowK,putRow,mapBlock,Array.getElem?_modify,if_neg (Ne.symm hb)]
   rfl
  have hsize:w.heap.size≤(sortWorldK vs k w e.b 0 n d os).heap.size:=by simp [sortWorldK,grow,putRowK,putRow,mapBlock,ahead]
  have hpl:(putCells id 0 (flatK vs k d) vals).toList=(l'.map vs).flatten++sp:=by
   rw [Zjp _ _ (by omega),hfl',hfs',hvs]
   congr 1
   rw [← hflat l,List.drop_left]
  have hps:(putCells id 0 (flatK vs k d) vals).size=vals.size:=by simp [putCells]
  refine⟨_,.tup [],_,[],rfl,⟨rfl,rfl⟩,⟨rfl,fun i e' k' he' hk'=>?_,fun i j e' f' hij he' hf'=>?_,fun _ h=>(by cases h),⟨rfl,rfl,rfl,hsize,fun b hb hne'=>?_,fun b us t' hr=>?_,?_⟩⟩,?_⟩
  ·cases i with
   | succ i=>simp at he'
   | zero=>
    simp only [List.append_nil,List.getElem?_cons_zero,Option.some.injEq] at he' hk'
    subst he' hk'
    refine⟨rfl,?_,_,t,⟨fz,hnewrow,by rw [hps]; exact hok⟩,?_⟩
    ·rw [hcel]
     have:∀ m:List Value,PV.idss (fun j=>decide (j<0)) (m.map .sc)=true:=fun m=>by
      induction m with
      | nil=>rfl
      | cons x m ih=>simp only [List.map_cons,PV.idss,PV.ids,ih,Bool.and_self]
     exact this _
    ·rw [hcel,hpl]
     exact VRs.scs _
  ·cases i with
   | succ i=>simp at he'
   | zero=>cases j with
    | succ j=>simp at hf'
    | zero=>exact absurd rfl hij
  ·exact hother b (fun hh=>hne' e (by simp) hh.symm) hb
  ·by_cases hb:b=e.b
   ·subst hb
    obtain⟨_,rfl⟩:=Zfb (⟨fz,hz,hok⟩:World.row w e.b vals t) hr
    exact⟨_,fz,hnewrow,by rw [hps]; exact hok⟩
   ·exact⟨us,Zbq (hother b hb (Zed hr)) hr⟩
  ·exact Nat.le_add_right _ _
  ·simp only [VR]
   exact⟨#[],rfl,by simp only [VRs]⟩
theorem ACall.sortF0 (L:SlLaysF0.n6 P ρ) (s:Nat) (fv:Value):ACall P G (ρ.f 6) [.sl s [],.sc fv] [] (fun q K=>q=.tup []∧K=[]):=by
 intro S0 β0 w cargs hin hargs
 obtain⟨ca⟩:=cargs
 match ca,hargs with
 | [u0,u1],hargs=>
  simp only [VRs,VR,and_true] at hargs
  obtain⟨⟨a,cap,rfl,_,_⟩,rfl⟩:=hargs
  refine(AnyF.slices_SortFunc_none L a cap u1 w).mono ?_
  rintro ee w' ⟨rfl,rfl⟩
  have hβ:β0=[]:=by have:=hin.len; simpa using this
  subst hβ
  exact⟨_,.tup [],[],[],rfl,⟨rfl,rfl⟩,⟨rfl,fun i e k h=>(by simp at h),fun i j e f _ h=>(by simp at h),fun _ h=>(by cases h),⟨rfl,rfl,rfl,Nat.le_refl _,fun _ _ _=>rfl,fun _ us _ h=>⟨us,h⟩,Nat.le_refl _⟩⟩,by simp only [VR]; exact⟨#[],rfl,by simp only [VRs]⟩⟩
end
section
variable {P:Program} {G:Glob} {α:Type}
def Hnd.callBZ {f:FuncId} {fn:Func} (row:α→List PV) {s:Nat} {l l':List α} {rest:List PV} (hfn:P.funcs[f]? = some fn) (hrow:∀ z,(row z).length=s) (hlen:l'.length=l.length)
  (hc:l ≠ []→∀ sp,ACall P G f (.vw 0 0 l.length :: rest) [.cells (cel row l sp)] (fun q K=>q=.tup []∧K=[.cells (cel row l' sp)]))
  (he:ACall P G f (.sl s [] :: rest) [] (fun q K=>q=.tup []∧K=[])):Hnd P G where
 run o st H:=match o.op with
  | .call cl=>match cl.callee with
   | .value x=>match opd G st x,opdL G st cl.args.toList with
    | some px,some (.own i n :: rest')=>match H[i]? with
     | some (.buf s' t xs false)=>
      if fn.body.isNone=false∧(fn.name == "runtime.NumGoroutine")=false∧PV.idss (fun _=>false) rest=true∧Nat.beq s s'=true then
       some ⟨.tup [],H.set i (.buf s' t (l'.map row) true),[.p px,.n n,.ps rest',.rs xs],[.p (.sc (.func (.func f) #[] #[])),.n l.length,.ps rest,.rs (l.map row)]⟩
      else none
     | _=>none
    | _,_=>none
   | _=>none
  | _=>none
 sound:=by
  intro n0 o st H x h he'
  split at h
  ·rename_i cl ho
   split at h
   ·rename_i x hcl
    split at h
    ·rename_i px i n rest' hx hps
     split at h
     ·rename_i s' t xs hb
      split at h
      ·rename_i hcond
       obtain⟨c1,c2,c3,c5⟩:=hcond
       simp only [Option.some.injEq] at h
       subst h
       simp only [List.cons.injEq,T.p.injEq,T.ps.injEq,T.n.injEq,T.rs.injEq,and_true] at he'
       obtain⟨rfl,rfl,rfl,rfl⟩:=he'
       have c5:=Nat.eq_of_beq_eq_true c5
       subst c5
       by_cases hl:l=[]
       ·subst hl
        obtain rfl:l'=[]:=List.eq_nil_of_length_eq_zero (by simpa using hlen)
        intro c a w β h0 hrl
        have hrs:=hrl.share hb
        have hil:=(List.getElem?_eq_some_iff.1 hb).1
        have hw:Wks (H.set i (.buf s t [] true)) false ((.own i ([]:List (List PV)).length :: rest')++[]) (.sl s [] :: rest'):=by
         rw [List.append_nil]
         exact .cons _ _ _ _ (.own i s t [] true (List.getElem?_set_self hil) (.inr rfl)) (Wks.refl _ _ _)
        exact(OpT.callV (n0:=n0) (H:=H.set i (.buf s t [] true)) ho hcl (.inl ⟨hx,rfl⟩) hfn c1 c2 (Za8 _ _ hps) hw (by simpa [PV.idss,PV.ids] using c3) (by simp [PV.ids,PV.idss]) he).weak c a w β (by simpa using h0) hrs
       ·have hl1:(l.map row).length=l.length:=List.length_map ..
        have h1:OpT P G n0 o st H (.tup []) (H.set i (.buf s t (l'.map row) false)):=by
         refine OpT.callB (xs:=l.map row) (ys:=l'.map row) ho hcl hx hfn c1 c2 (by rw [hl1]; exact Za8 _ _ hps) c3 hb (by simpa using hl) (by simpa using hlen) ?_ (fun sp=>?_) (by simp [PV.ids,PV.idss])
         ·intro y hy
          obtain⟨z,_,rfl⟩:=List.mem_map.1 hy
          exact hrow z
         ·rw [hl1]; exact hc hl sp
        have hil:=(List.getElem?_eq_some_iff.1 hb).1
        intro c a w β h0 hrl
        refine Zbl (h1.weak c a w β h0 hrl) fun v w' ⟨β',r1,r2⟩=>?_
        have r3:=r1.share (i:=i) (List.getElem?_set_self hil)
        rw [List.set_set] at r3
        refine⟨β',r3,?_⟩
        simp only [VR] at r2 ⊢
        obtain⟨us,rfl,r4⟩:=r2
        refine⟨us,rfl,?_⟩
        cases hu:us.toList with
        | nil=>simp only [VRs]
        | cons y ys=>rw [hu] at r4; simp only [VRs] at r4
      ·cases h
     ·cases h
    ·cases h
   ·cases h
  ·cases h
end
end Go.AM
set_option maxRecDepth 100000
namespace Go.AM
open Go
structure Arr5 (α:Type) where
 x0:α
 x1:α
 x2:α
 x3:α
 x4:α
def Arr5.get {α:Type} (a:Arr5 α) (i:Int):α:=if i=0 then a.x0 else if i=1 then a.x1 else if i=2 then a.x2 else if i=3 then a.x3 else a.x4
def Arr5.set {α:Type} (a:Arr5 α) (i:Int) (v:α):Arr5 α:=if i=0 then { a with x0:=v } else if i=1 then { a with x1:=v } else if i=2 then { a with x2:=v } else if i=3 then { a with x3:=v } else { a with x4:=v }
def Zak (x:(Arr5 Int)):List PV:=[.sc (.int .u32 x.x0),.sc (.int .u32 x.x1),.sc (.int .u32 x.x2),.sc (.int .u32 x.x3),.sc (.int .u32 x.x4)]
def Zme (x:(Arr5 Int)):List Value:=[.int .u32 x.x0,.int .u32 x.x1,.int .u32 x.x2,.int .u32 x.x3,.int .u32 x.x4]
def Zau (x:(Arr5 Int)):PV:=.sc (.agg ⟨Zme x⟩)
def Zka:(Arr5 Int):=Arr5.mk (0:Int) (0:Int) (0:Int) (0:Int) (0:Int)
def Zmf (x:(List Int)):List PV:=[.sl 1 (List.map Zab x)]
def Zkb (x:(List Int)):Prop:=x.length≤9223372036854775807∧∀ y∈x,Zda y
structure Za where
 Src:Int
 Dst:Int
 Proto:Int
 SrcPort:Int
 DstPort:Int
def Zc (x:Za):List PV:=[.sc (.int .u32 x.Src),.sc (.int .u32 x.Dst),.sc (.int .u8 x.Proto),.sc (.int .u16 x.SrcPort),.sc (.int .u16 x.DstPort)]
def Zo (x:Za):Prop:=Zb1 x.Src∧Zb1 x.Dst∧ok_u8 x.Proto∧Zbf x.SrcPort∧Zbf x.DstPort∧True
def Zd3 (x:Za):List Value:=[.int .u32 x.Src,.int .u32 x.Dst,.int .u8 x.Proto,.int .u16 x.SrcPort,.int .u16 x.DstPort]
def Zv (x:Za):PV:=.sc (.agg ⟨Zd3 x⟩)
def Zg (x:Za):Value:=.agg ⟨Zd3 x⟩
def Zi (x y:Za):Bool:=((x.Src == y.Src) && ((x.Dst == y.Dst) && ((x.Proto == y.Proto) && ((x.SrcPort == y.SrcPort) && ((x.DstPort == y.DstPort) && true)))))
def Zk:Za:=Za.mk (0:Int) (0:Int) (0:Int) (0:Int) (0:Int)
structure Zb where
 Real:Za
 Sent:Za
 Delivered:Za
 From:Int
 To:Int
 Waypoint:Bool
 Class:ByteArray
 State:Int
 Expires:Int
def Zf (x:Zb):List PV:=[.sc (.int .u32 x.Real.Src),.sc (.int .u32 x.Real.Dst),.sc (.int .u8 x.Real.Proto),.sc (.int .u16 x.Real.SrcPort),.sc (.int .u16 x.Real.DstPort),.sc (.int .u32 x.Sent.Src),.sc (.int .u32 x.Sent.Dst),.sc (.int .u8 x.Sent.Proto),.sc (.int .u16 x.Sent.SrcPort),.sc (.int .u16 x.Sent.DstPort),.sc (.int .u32 x.Delivered.Src),.sc (.int .u32 x.Delivered.Dst),.sc (.int .u8 x.Delivered.Proto),.sc (.int .u16 x.Delivered.SrcPort),.sc (.int .u16 x.Delivered.DstPort),.sc (.int .i64 x.From),.sc (.int .i64 x.To),.sc (.bool x.Waypoint),.sc (.string x.Class),.sc (.int .i64 x.State),.sc (.int .i64 x.Expires)]
def Zb6 (x:Zb):List Value:=[.int .u32 x.Real.Src,.int .u32 x.Real.Dst,.int .u8 x.Real.Proto,.int .u16 x.Real.SrcPort,.int .u16 x.Real.DstPort,.int .u32 x.Sent.Src,.int .u32 x.Sent.Dst,.int .u8 x.Sent.Proto,.int .u16 x.Sent.SrcPort,.int .u16 x.Sent.DstPort,.int .u32 x.Delivered.Src,.int .u32 x.Delivered.Dst,.int .u8 x.Delivered.Proto,.int .u16 x.Delivered.SrcPort,.int .u16 x.Delivered.DstPort,.int .i64 x.From,.int .i64 x.To,.bool x.Waypoint,.string x.Class,.int .i64 x.State,.int .i64 x.Expires]
def Zal (x:Zb):PV:=.sc (.agg ⟨Zb6 x⟩)
def Zd (x:Zb):Value:=.agg ⟨Zb6 x⟩
def Zp:Zb:=Zb.mk Zk Zk Zk (0:Int) (0:Int) false ByteArray.empty (0:Int) (0:Int)
instance:Inhabited Zb:=⟨Zp⟩
structure Zr where
 f_l:(List Int)
 f_i:Int
def Zn (x:Zr):List PV:=[.sl 1 (List.map Zab x.f_l),.sc (.int .i64 x.f_i)]
structure Zh where
 Lo:Int
 Hi:Int
abbrev ZB:=Arr5 Zh
abbrev ZL:=List (Arr5 Zh)
def Z8 (x:Zh):List PV:=[.sc (.int .u32 x.Lo),.sc (.int .u32 x.Hi)]
def Zbw (x:Zh):Prop:=Zb1 x.Lo∧Zb1 x.Hi∧True
def Zc0:Zh:=Zh.mk (0:Int) (0:Int)
def Ze (x:(Arr5 Zh)):List PV:=[.sc (.int .u32 x.x0.Lo),.sc (.int .u32 x.x0.Hi),.sc (.int .u32 x.x1.Lo),.sc (.int .u32 x.x1.Hi),.sc (.int .u32 x.x2.Lo),.sc (.int .u32 x.x2.Hi),.sc (.int .u32 x.x3.Lo),.sc (.int .u32 x.x3.Hi),.sc (.int .u32 x.x4.Lo),.sc (.int .u32 x.x4.Hi)]
def Zes (x:(Arr5 Zh)):Prop:=Zbw x.x0∧Zbw x.x1∧Zbw x.x2∧Zbw x.x3∧Zbw x.x4∧True
def Zij (x:(Arr5 Zh)):List Value:=[.int .u32 x.x0.Lo,.int .u32 x.x0.Hi,.int .u32 x.x1.Lo,.int .u32 x.x1.Hi,.int .u32 x.x2.Lo,.int .u32 x.x2.Hi,.int .u32 x.x3.Lo,.int .u32 x.x3.Hi,.int .u32 x.x4.Lo,.int .u32 x.x4.Hi]
def Zx (x:(Arr5 Zh)):PV:=.sc (.agg ⟨Zij x⟩)
def Zm:(Arr5 Zh):=Arr5.mk Zc0 Zc0 Zc0 Zc0 Zc0
structure Zl where
 Match:(Arr5 Zh)
 Addr:Int
 Ports:Zh
def Zj (x:Zl):List PV:=[.sc (.int .u32 x.Match.x0.Lo),.sc (.int .u32 x.Match.x0.Hi),.sc (.int .u32 x.Match.x1.Lo),.sc (.int .u32 x.Match.x1.Hi),.sc (.int .u32 x.Match.x2.Lo),.sc (.int .u32 x.Match.x2.Hi),.sc (.int .u32 x.Match.x3.Lo),.sc (.int .u32 x.Match.x3.Hi),.sc (.int .u32 x.Match.x4.Lo),.sc (.int .u32 x.Match.x4.Hi),.sc (.int .u32 x.Addr),.sc (.int .u32 x.Ports.Lo),.sc (.int .u32 x.Ports.Hi)]
def Zcm (x:Zl):Prop:=Zes x.Match∧Zb1 x.Addr∧Zbw x.Ports∧True
def Zky (x:Zl):List Value:=[.int .u32 x.Match.x0.Lo,.int .u32 x.Match.x0.Hi,.int .u32 x.Match.x1.Lo,.int .u32 x.Match.x1.Hi,.int .u32 x.Match.x2.Lo,.int .u32 x.Match.x2.Hi,.int .u32 x.Match.x3.Lo,.int .u32 x.Match.x3.Hi,.int .u32 x.Match.x4.Lo,.int .u32 x.Match.x4.Hi,.int .u32 x.Addr,.int .u32 x.Ports.Lo,.int .u32 x.Ports.Hi]
def Zcn (x:Zl):PV:=.sc (.agg ⟨Zky x⟩)
def Zbm:(Arr5 Int):=Arr5.mk 4294967295 4294967295 255 65535 65535
abbrev ZI:Int→Int:=IntKind.wrap .i64
end Go.AM
set_option maxRecDepth 100000
namespace Go.AM
open Go
noncomputable section
def Zdb:Option Bool:=
 some true
def Zbg (a:Int):Option (Int × (List (Za × Zb))):=
 (some (decide (a<(1:Int)))).bind fun b=>
 if (b || (decide (a > (64:Int))))=true then
  none
 else
  some (a,([]:(List (Za × Zb))))
def Zdc (a:(List Int)):Option Zr:=
 some (Zr.mk a (0:Int))
def Zcl (a:Int):Option Int:=
 ((if (a == (0:Int))=true then
  some (a == (0:Int))
 else
  some (a == (1:Int))).bind fun b=>
  if b=true then
   some (.inr (4294967295:Int))
  else
   if (a == (2:Int))=true then
    some (.inr (255:Int))
   else
    (if (a == (3:Int))=true then
     some (a == (3:Int))
    else
     some (a == (4:Int))).bind fun c=>
     if c=true then
      some (.inr (65535:Int))
     else
      some (.inl ())).bind fun(d:(Unit ⊕ Int))=>
 match d with
 | .inl ()=>
   some (0:Int)
 | .inr f=>
   some f
def Zb7:Nat→ZB→Int→Option ZB
 | 0,_,_=>none
 | c+1,b,a=>
  if (decide (a<(5:Int)))=true then
   (Zcl a).bind fun d=>
   if 0≤a∧a<5 then
   Zb7 c (Arr5.set b a ({ (Arr5.get b a) with Hi:=d }:Zh)) (IntKind.wrap .i64 (a + (1:Int)))
   else none
  else
   some b
def Zcx:Option ZB:=
 (Zb7 fuel Zm (0:Int)).bind fun a=>
  some a
def Zcb (b:Int) (a:Int):Option Int:=
 if (IntKind.wrap .u64 a) ≠ 0 then
 some (IntKind.wrap .i64 (Int.tmod (IntKind.wrap .u64 b) (IntKind.wrap .u64 a)))
 else none
def Zai (a:Zr) (b:Int):Option (Int × Zr):=
 (some (decide (b≤(1:Int)))).bind fun c=>
 if (c || (decide (a.f_i ≥ (List.length a.f_l:Int))))=true then
  some ((0:Int),a)
 else
  (idx a.f_l (IntKind.wrap .i64 ((IntKind.wrap .i64 (a.f_i + (1:Int))) - (1:Int)))).bind fun d=>
  (Zcb d b).bind fun f=>
  some (f,({ a with f_i:=(IntKind.wrap .i64 (a.f_i + (1:Int))) }:Zr))
def Zb2 (f:Zr):Option (Za × Zr):=
 (Zai f (3:Int)).bind fun b=>
 (Zai b.2 (4:Int)).bind fun d=>
 (idx [(6:Int),(17:Int),(1:Int),(50:Int)] d.1).bind fun a=>
 (Zai d.2 (2:Int)).bind fun c=>
 (if (a == (1:Int))=true then
  some ({ (Za.mk (IntKind.wrap .u32 ((167772160:Int) + (IntKind.wrap .u32 b.1))) (167772416:Int) a (IntKind.wrap .u16 (IntKind.wrap .i64 ((1000:Int) + c.1))) (80:Int)) with DstPort:=(8:Int) }:Za)
 else
  if (a == (50:Int))=true then
   some ({ ({ (Za.mk (IntKind.wrap .u32 ((167772160:Int) + (IntKind.wrap .u32 b.1))) (167772416:Int) a (IntKind.wrap .u16 (IntKind.wrap .i64 ((1000:Int) + c.1))) (80:Int)) with SrcPort:=(0:Int) }:Za) with DstPort:=(0:Int) }:Za)
  else
   some (Za.mk (IntKind.wrap .u32 ((167772160:Int) + (IntKind.wrap .u32 b.1))) (167772416:Int) a (IntKind.wrap .u16 (IntKind.wrap .i64 ((1000:Int) + c.1))) (80:Int))).bind fun g=>
  some (g,c.2)
def Zac (d:Int):(Za × Zb)→((List (Za × Zb)) × Int)→Option (Empty ⊕ ((List (Za × Zb)) × Int))
 | a,(b,c)=>
  if (decide (a.2.Expires≤d))=true then
   some (.inr ((mdel Zi b a.1),(IntKind.wrap .i64 (c + (1:Int)))))
  else
   some (.inr (b,c))
def Z7 (j:Int) (a:(List (Za × Zb))) (b:Int):Option (Int × (List (Za × Zb))):=
 allp a (fun c=>(mfold (Zac b) c (a,(0:Int))).bind fun(d:Empty ⊕ ((List (Za × Zb)) × Int))=>match d with
 | .inl f=>(by cases f)
 | .inr (g,i)=>
   some (i,g))
def Zy (b:ZB):Nat→Int→Option (Unit ⊕ Bool)
 | 0,_=>none
 | c+1,a=>
  if (decide (a<(5:Int)))=true then
   if 0≤a∧a<5 then
   (some (decide ((Arr5.get b a).Lo > (Arr5.get b a).Hi))).bind fun d=>
   (if d=true then some true else
    if 0≤a∧a<5 then
    some (decide ((Arr5.get b a).Hi > (Arr5.get Zbm a)))
    else none
    ).bind fun f=>
   if f=true then
    some (.inr false)
   else
    Zy b c (IntKind.wrap .i64 (a + (1:Int)))
   else none
  else
   some (.inl ())
def Zco (a:ZB):Option Bool:=
 (Zy a fuel (0:Int)).bind fun(b:(Unit ⊕ Bool))=>
 match b with
 | .inl ()=>
   some true
 | .inr c=>
   some c
def Zet (a:Int):Option Int:=
 (some (decide (a<(0:Int)))).bind fun b=>
 if (b || (decide (a ≥ (5:Int))))=true then
  some (0:Int)
 else
  if 0≤a∧a<5 then
  some (Arr5.get Zbm a)
  else none
def Zap (a:Zl):Option Bool:=
 (Zco a.Match).bind fun b=>
 (some b).bind fun c=>
 (some (c && (decide (a.Ports.Lo≤a.Ports.Hi)))).bind fun d=>
 (if d=true then
  (Zet (3:Int)).bind fun f=>
  some (decide (a.Ports.Hi≤f))
  else some false).bind fun g=>
 some g
def Zaa (a:(List Zl)):Nat→Int→Option (Unit ⊕ Bool)
 | 0,_=>none
 | c+1,b=>
  if (decide (b<(List.length a:Int)))=true then
   (idx a b).bind fun d=>
   (Zap d).bind fun f=>
   if (!f)=true then
    some (.inr false)
   else
    Zaa a c (IntKind.wrap .i64 (b + (1:Int)))
  else
   some (.inl ())
def Za4 (a:(List Zl)):Option Bool:=
 (Zaa a fuel (0:Int)).bind fun(b:(Unit ⊕ Bool))=>
 match b with
 | .inl ()=>
   some (decide ((List.length a:Int)≤(256:Int)))
 | .inr c=>
   some c
def Zay (a:Zb):Option Bool:=
 some (a.To != (-1:Int))
def Z1 (c:Int) (a:(List (Za × Zb))) (b:Za) (d:Bool):Option (Zb × Int):=
 (some (!d)).bind fun f=>
 (if f=true then
  (some (!(mget Zi a b).isSome)).bind fun g=>
  (if g=true then some true else
   (Zay ((mget Zi a b).getD Zp)).bind fun i=>
   some (!i)
   ).bind fun j=>
  some j
  else some false).bind fun k=>
 if k=true then
  some ((Zb.mk Zk Zk Zk (0:Int) (0:Int) false ByteArray.empty (0:Int) (0:Int)),(16:Int))
 else
  if (mget Zi a b).isSome=true then
   some (((mget Zi a b).getD Zp),(0:Int))
  else
   if (decide ((List.length a:Int) ≥ c))=true then
    some ((Zb.mk Zk Zk Zk (0:Int) (0:Int) false ByteArray.empty (0:Int) (0:Int)),(9:Int))
   else
    some ((Zb.mk b Zk Zk (-1:Int) (-1:Int) false ByteArray.empty (1:Int) (0:Int)),(0:Int))
def Zcr (a:Za):Option (Arr5 Int):=
 some (Arr5.mk a.Src a.Dst (IntKind.wrap .u32 a.Proto) (IntKind.wrap .u32 a.SrcPort) (IntKind.wrap .u32 a.DstPort))
def Zam (b:ZB) (c:(Arr5 Int)):Nat→Int→Option (Unit ⊕ Bool)
 | 0,_=>none
 | d+1,a=>
  if (decide (a<(5:Int)))=true then
   if 0≤a∧a<5 then
   if 0≤a∧a<5 then
   (some (decide ((Arr5.get c a)<(Arr5.get b a).Lo))).bind fun f=>
   (if f=true then some true else
    if 0≤a∧a<5 then
    some (decide ((Arr5.get c a) > (Arr5.get b a).Hi))
    else none
    ).bind fun g=>
   if g=true then
    some (.inr false)
   else
    Zam b c d (IntKind.wrap .i64 (a + (1:Int)))
   else none
   else none
  else
   some (.inl ())
def Zbe (a:ZB) (b:Za):Option Bool:=
 (Zco a).bind fun c=>
 if (!c)=true then
  some false
 else
  (Zcr b).bind fun d=>
  (Zam a d fuel (0:Int)).bind fun(f:(Unit ⊕ Bool))=>
  match f with
  | .inl ()=>
    some true
  | .inr g=>
    some g
def Zaz (a:Zl) (b:Za):Option Bool:=
 (Zap a).bind fun c=>
 (some c).bind fun d=>
 (if d=true then
  (Zbe a.Match b).bind fun f=>
  some f
  else some false).bind fun g=>
 some g
def Zq (b:(List Zl)) (c:Za):Nat→Int→Option (Unit ⊕ Int)
 | 0,_=>none
 | d+1,a=>
  if (decide (a<(List.length b:Int)))=true then
   (idx b a).bind fun f=>
   (Zaz f c).bind fun g=>
   if g=true then
    some (.inr a)
   else
    Zq b c d (IntKind.wrap .i64 (a + (1:Int)))
  else
   some (.inl ())
def Zz (a:(List Zl)) (b:Za):Option Int:=
 (Zq a b fuel (0:Int)).bind fun(c:(Unit ⊕ Int))=>
 match c with
 | .inl ()=>
   some (-1:Int)
 | .inr d=>
   some d
def Zav (a:(List Zl)) (b:Za):Option Int:=
 (Zz a b).bind fun c=>
 some c
def Zb5 (b:(Arr5 Int)):Nat→ZB→Int→Option ZB
 | 0,_,_=>none
 | d+1,c,a=>
  if (decide (a<(5:Int)))=true then
   if 0≤a∧a<5 then
   if 0≤a∧a<5 then
   Zb5 b d (Arr5.set c a (Zh.mk (Arr5.get b a) (Arr5.get b a))) (IntKind.wrap .i64 (a + (1:Int)))
   else none
   else none
  else
   some c
def Zdo (a:Za):Option ZB:=
 (Zcr a).bind fun b=>
 (Zb5 b fuel Zm (0:Int)).bind fun c=>
  some c
def Zbx (a:Zl) (b:Za):Option ZB:=
 (Zdo b).bind fun c=>
 ((Zap a).bind fun d=>
 (some d).bind fun f=>
 (if f=true then
  (Zbe a.Match b).bind fun g=>
  some g
  else some false).bind fun i=>
 if i=true then
  some ({ ({ c with x0:=(Zh.mk a.Addr a.Addr) }:ZB) with x3:=a.Ports }:ZB)
 else
  some c).bind fun j=>
  some j
def Zaw (b:(List Zl)) (a:Za):Option ZB:=
 (Zav b a).bind fun c=>
 if (decide (c<(0:Int)))=true then
  (Zdo a).bind fun f=>
  some f
 else
  (idx b c).bind fun g=>
  (Zbx g a).bind fun d=>
  ((if (a.Proto == (6:Int))=true then
   some (a.Proto == (6:Int))
  else
   if (a.Proto == (17:Int))=true then
    some (a.Proto == (17:Int))
   else
    some (a.Proto == (1:Int))).bind fun i=>
   if i=true then
    some d
   else
    some ({ d with x3:=(Zh.mk (0:Int) (0:Int)) }:ZB)).bind fun j=>
   some j
def Za9 (a:Za) (b:Bool) (c:Int):Option Bool:=
 (some (!b)).bind fun d=>
 (some (d || (a.Proto != (1:Int)))).bind fun f=>
 some (f || (c != (8:Int)))
def Z4 (c:Zb):(Za × Zb)→(List (Za × Bool))→Option (Empty ⊕ (List (Za × Bool)))
 | a,b=>
  (some (!(Zi a.1 c.Real))).bind fun d=>
  if (d && (a.2.To != (-1:Int)))=true then
   some (.inr (mput Zi b a.2.Delivered true))
  else
   some (.inr b)
def Z0 (c:Zb) (d:Int) (f:ZB) (g:(List (Za × Bool))):Nat→Za→Int→Option (Za ⊕ (Za × Bool))
 | 0,_,_=>none
 | i+1,b,a=>
  if (decide (a≤f.x3.Hi))=true then
   (some (!((mget Zi g ({ b with SrcPort:=(IntKind.wrap .u16 a) }:Za)).getD false))).bind fun j=>
   (if j=true then
    (Za9 c.Real (decide (d ≥ (0:Int))) a).bind fun k=>
    some k
    else some false).bind fun l=>
   if l=true then
    some (.inr (({ b with SrcPort:=(IntKind.wrap .u16 a) }:Za),true))
   else
    Z0 c d f g i ({ b with SrcPort:=(IntKind.wrap .u16 a) }:Za) (IntKind.wrap .u32 (a + (1:Int)))
  else
   some (.inl b)
def Zaq (u:Int) (f:(List (Za × Zb))) (a:Zb) (g:Int) (c:(List Zl)):Option (Za × Bool):=
 (Zav c a.Real).bind fun d=>
 (Zaw c a.Real).bind fun b=>
 (some (a.To == g)).bind fun i=>
 (if i=true then
  (Zbe b a.Delivered).bind fun j=>
  some j
  else some false).bind fun k=>
 (some k).bind fun l=>
 (if l=true then
  (Za9 a.Real (decide (d ≥ (0:Int))) (IntKind.wrap .u32 a.Delivered.SrcPort)).bind fun m=>
  some m
  else some false).bind fun n=>
 if n=true then
  some (a.Delivered,true)
 else
  allp f (fun o=>(mfold (Z4 a) o ([]:(List (Za × Bool)))).bind fun(p:Empty ⊕ (List (Za × Bool)))=>match p with
  | .inl q=>(by cases q)
  | .inr r=>
    (Z0 a d b r fuel ({ a.Real with Src:=b.x0.Lo }:Za) b.x3.Lo).bind fun(s:(Za ⊕ (Za × Bool)))=>
    match s with
    | .inl _=>
      some ((Za.mk (0:Int) (0:Int) (0:Int) (0:Int) (0:Int)),false)
    | .inr t=>
      some t)
def Za5 (a:Zb):Option Int:=
 if (a.Real.Proto != (6:Int))=true then
  some (60:Int)
 else
  if (a.State == (2:Int))=true then
   some (600:Int)
  else
   if (a.State == (3:Int))=true then
    some (10:Int)
   else
    some (30:Int)
def Za0 (g:Int) (f:(List (Za × Zb))) (a:Zb) (b:Int):Option (List (Za × Zb)):=
 (Za5 a).bind fun c=>
 (if (decide (b≤(IntKind.wrap .i64 ((9223372036854775807:Int) - c))))=true then
  some ({ a with Expires:=(IntKind.wrap .i64 (b + c)) }:Zb)
 else
  some ({ a with Expires:=(9223372036854775807:Int) }:Zb)).bind fun d=>
  some (mput Zi f d.Real d)
def Zar (b:Int) (j:(List (Za × Zb))) (d:Int) (k:Za) (l:ByteArray) (g:(List Zl)) (m:Bool) (i:Int):Option (Za × Int × (List (Za × Zb))):=
 (Z7 b j i).bind fun a=>
 (some (decide (d<(0:Int)))).bind fun n=>
 (if n=true then some true else
  (Za4 g).bind fun o=>
  some (!o)
  ).bind fun p=>
 if p=true then
  some ((Za.mk (0:Int) (0:Int) (0:Int) (0:Int) (0:Int)),(1:Int),a.2)
 else
  (Z1 b a.2 k m).bind fun c=>
  if (c.2 != (0:Int))=true then
   some ((Za.mk (0:Int) (0:Int) (0:Int) (0:Int) (0:Int)),c.2,a.2)
  else
   (Zaq b a.2 c.1 d g).bind fun f=>
   if (!f.2)=true then
    some ((Za.mk (0:Int) (0:Int) (0:Int) (0:Int) (0:Int)),(9:Int),a.2)
   else
    (Za0 b a.2 ({ ({ ({ c.1 with To:=d }:Zb) with Delivered:=f.1 }:Zb) with Class:=l }:Zb) i).bind fun q=>
    some (f.1,(0:Int),q)
def Zb3 (a:Za):Option Za:=
 some (Za.mk a.Dst a.Src a.Proto a.DstPort a.SrcPort)
def Zck (a:Za):Option Za:=
 some (Za.mk a.Dst a.Src a.Proto a.DstPort a.SrcPort)
def Z6 (b:Int) (c:(Int × (List (Za × Zb)))) (d:Za):(Za × Zb)→Unit→Option ((Zb × Bool × (List (Za × Zb))) ⊕ Unit)
 | a,()=>
  (some (a.2.To == b)).bind fun f=>
  if (f && (Zi a.2.Delivered d))=true then
   some (.inl (a.2,true,c.2))
  else
   some (.inr ())
def Zaj (d:Int) (b:(List (Za × Zb))) (c:Int) (f:Za) (g:Int):Option (Zb × Bool × (List (Za × Zb))):=
 if (decide (c<(0:Int)))=true then
  some ((Zb.mk Zk Zk Zk (0:Int) (0:Int) false ByteArray.empty (0:Int) (0:Int)),false,b)
 else
  (Z7 d b g).bind fun a=>
  (Zck f).bind fun i=>
  allp a.2 (fun j=>(mfold (Z6 c a i) j ()).bind fun(k:(Zb × Bool × (List (Za × Zb))) ⊕ Unit)=>match k with
  | .inl l=>some l
  | .inr ()=>
    some ((Zb.mk Zk Zk Zk (0:Int) (0:Int) false ByteArray.empty (0:Int) (0:Int)),false,a.2))
def Zs (b:ZB):Nat→Int→Option (Unit ⊕ Bool)
 | 0,_=>none
 | c+1,a=>
  if (decide (a<(5:Int)))=true then
   if 0≤a∧a<5 then
   if 0≤a∧a<5 then
   (some (decide ((Arr5.get b a).Lo > (Arr5.get b a).Hi))).bind fun d=>
   (if d=true then some true else
    if 0≤a∧a<5 then
    (Zcl a).bind fun f=>
    some (decide ((Arr5.get b a).Hi > f))
    else none
    ).bind fun g=>
   if g=true then
    some (.inr false)
   else
    Zs b c (IntKind.wrap .i64 (a + (1:Int)))
   else none
   else none
  else
   some (.inl ())
def Zbj (a:ZB):Option Bool:=
 (Zs a fuel (0:Int)).bind fun(b:(Unit ⊕ Bool))=>
 match b with
 | .inl ()=>
   some true
 | .inr c=>
   some c
def Zba (a:Zl):Option Bool:=
 (Zbj a.Match).bind fun b=>
 (some b).bind fun c=>
 (some (c && (decide (a.Ports.Lo≤a.Ports.Hi)))).bind fun d=>
 some (d && (decide (a.Ports.Hi≤(65535:Int))))
def Zbk (a:Za):Option (Arr5 Int):=
 some (Arr5.mk a.Src a.Dst (IntKind.wrap .u32 a.Proto) (IntKind.wrap .u32 a.SrcPort) (IntKind.wrap .u32 a.DstPort))
def Z9 (b:ZB) (c:(Arr5 Int)):Nat→Int→Option (Unit ⊕ Bool)
 | 0,_=>none
 | d+1,a=>
  if (decide (a<(5:Int)))=true then
   if 0≤a∧a<5 then
   if 0≤a∧a<5 then
   (some (decide ((Arr5.get c a)<(Arr5.get b a).Lo))).bind fun f=>
   (if f=true then some true else
    if 0≤a∧a<5 then
    if 0≤a∧a<5 then
    some (decide ((Arr5.get c a) > (Arr5.get b a).Hi))
    else none
    else none
    ).bind fun g=>
   if g=true then
    some (.inr false)
   else
    Z9 b c d (IntKind.wrap .i64 (a + (1:Int)))
   else none
   else none
  else
   some (.inl ())
def Za1 (a:ZB) (b:Za):Option Bool:=
 (Zbk b).bind fun c=>
 (Z9 a c fuel (0:Int)).bind fun(d:(Unit ⊕ Bool))=>
 match d with
 | .inl ()=>
   (Zbj a).bind fun f=>
   some f
 | .inr g=>
   some g
def Za6 (b:(Arr5 Int)):Nat→ZB→Int→Option ZB
 | 0,_,_=>none
 | d+1,c,a=>
  if (decide (a<(5:Int)))=true then
   if 0≤a∧a<5 then
   if 0≤a∧a<5 then
   if 0≤a∧a<5 then
   Za6 b d (Arr5.set c a (Zh.mk (Arr5.get b a) (Arr5.get b a))) (IntKind.wrap .i64 (a + (1:Int)))
   else none
   else none
   else none
  else
   some c
def Zcc (a:Za):Option ZB:=
 (Zbk a).bind fun b=>
 (Za6 b fuel Zm (0:Int)).bind fun c=>
  some c
def Zc3 (a:Zl) (b:ZB):Option ZB:=
 some ({ ({ b with x0:=(Zh.mk a.Addr a.Addr) }:ZB) with x3:=a.Ports }:ZB)
def Zby (a:Zl) (b:Za):Option ZB:=
 (Zba a).bind fun c=>
 (some (!c)).bind fun d=>
 (if d=true then some true else
  (Za1 a.Match b).bind fun f=>
  some (!f)
  ).bind fun g=>
 if g=true then
  (Zcc b).bind fun i=>
  some i
 else
  (Zcc b).bind fun j=>
  (Zc3 a j).bind fun k=>
  some k
def Zbh (a:Int):Option Bool:=
 some (a != a)
def Zas (a:Int) (b:Int):Option Int:=
 (Zbh a).bind fun d=>
 (Zbh b).bind fun c=>
 if d=true then
  if c=true then
   some (0:Int)
  else
   some (-1:Int)
 else
  if c=true then
   some (1:Int)
  else
   if (decide (a<b))=true then
    some (-1:Int)
   else
    if (decide (a > b))=true then
     some (1:Int)
    else
     some (0:Int)
def Zbn (a:Int):Option Bool:=
 some (a != a)
def Zbb (a:Int) (b:Int):Option Int:=
 (Zbn a).bind fun d=>
 (Zbn b).bind fun c=>
 if d=true then
  if c=true then
   some (0:Int)
  else
   some (-1:Int)
 else
  if c=true then
   some (1:Int)
  else
   if (decide (a<b))=true then
    some (-1:Int)
   else
    if (decide (a > b))=true then
     some (1:Int)
    else
     some (0:Int)
def Zbi (a:Int):Option Bool:=
 some (a != a)
def Zat (a:Int) (b:Int):Option Int:=
 (Zbi a).bind fun d=>
 (Zbi b).bind fun c=>
 if d=true then
  if c=true then
   some (0:Int)
  else
   some (-1:Int)
 else
  if c=true then
   some (1:Int)
  else
   if (decide (a<b))=true then
    some (-1:Int)
   else
    if (decide (a > b))=true then
     some (1:Int)
    else
     some (0:Int)
def Za7 (a:(List Int)):Nat→Int→Option (Unit ⊕ Int)
 | 0,_=>none
 | d+1,b=>
  if (decide (b<(List.length a:Int)))=true then
   (idx a b).bind fun c=>
   if (c != (0:Int))=true then
    some (.inr c)
   else
    Za7 a d (IntKind.wrap .i64 (b + (1:Int)))
  else
   some (.inl ())
def Zcs (a:(List Int)):Option Int:=
 (Za7 a fuel (0:Int)).bind fun(b:(Unit ⊕ Int))=>
 match b with
 | .inl ()=>
   some (0:Int)
 | .inr c=>
   some c
def Zbc (a:Za) (b:Za):Option Int:=
 (Zas a.Src b.Src).bind fun c=>
 (Zas a.Dst b.Dst).bind fun d=>
 (Zbb a.Proto b.Proto).bind fun f=>
 (Zat a.SrcPort b.SrcPort).bind fun g=>
 (Zat a.DstPort b.DstPort).bind fun i=>
 (Zcs [c,d,f,g,i]).bind fun j=>
 some j
def Z2 (a:Zb) (b:Zb):Option Int:=
 (Zbc a.Real b.Real).bind fun c=>
 some c
def Zae:(Za × Zb)→(List Zb)→Option (Empty ⊕ (List Zb))
 | a,b=>
  if List.length b + List.length [a.2]≤lim then
  some (.inr (b++[a.2]))
  else none
def Zax (d:Int) (f:(List (Za × Zb))) (g:Int):Option ((List Zb) × (List (Za × Zb))):=
 (Z7 d f g).bind fun a=>
 allp a.2 (fun i=>(mfold (Zae) i ([]:(List Zb))).bind fun(j:Empty ⊕ (List Zb))=>match j with
 | .inl k=>(by cases k)
 | .inr b=>
   (sortFn Z2 b).bind fun c=>
   if List.length c=List.length b then
   some (c,a.2)
   else none)
def Zcd (a:Int):Option Unit:=
 (some (decide (a<(1:Int)))).bind fun b=>
 if (b || (decide (a > (64:Int))))=true then
  some ()
 else
  none
def Zw (c:(Int × (List (Za × Zb)))) (d:ZB) (f:Int):Nat→(List (Za × Zb))→Zr→Int→Option (((List (Za × Zb)) × Zr) ⊕ Bool)
 | 0,_,_,_=>none
 | l+1,i,j,k=>
  if (decide (k<(12:Int)))=true then
   ((Zb2 j).bind fun a=>
   (Zar c.1 i (1:Int) a.1 ByteArray.empty [(Zl.mk d (3325256705:Int) (Zh.mk (1024:Int) (IntKind.wrap .u32 ((1024:Int) + (IntKind.wrap .u32 f)))))] true (0:Int)).bind fun b=>
   if (b.2.1 != (0:Int))=true then
    some (.inl (b.2.2,a.2))
   else
    (Zb3 b.1).bind fun m=>
    (Zaj c.1 b.2.2 (1:Int) m (0:Int)).bind fun g=>
    (idx [(Zl.mk d (3325256705:Int) (Zh.mk (1024:Int) (IntKind.wrap .u32 ((1024:Int) + (IntKind.wrap .u32 f)))))] (0:Int)).bind fun n=>
    (Zby n a.1).bind fun o=>
    (Za1 o b.1).bind fun p=>
    (some (!p)).bind fun q=>
    (some (q && (a.1.Proto != (50:Int)))).bind fun r=>
    (some (r || (!g.2.1))).bind fun s=>
    if (s || (!(Zi g.1.Real a.1)))=true then
     some (.inr false)
    else
     some (.inl (g.2.2,a.2))).bind fun(t:(((List (Za × Zb)) × Zr) ⊕ Bool))=>
   match t with
   | .inl (u,v)=>
     Zw c d f l u v (IntKind.wrap .i64 (k + (1:Int)))
   | .inr w=>
     some (.inr w)
  else
   some (.inl (i,j))
def Zt (a:((List Zb) × (List (Za × Zb)))) (b:Int):Nat→Int→Option (Unit ⊕ Bool)
 | 0,_=>none
 | d+1,c=>
  if (decide (c<b))=true then
   (idx a.1 b).bind fun f=>
   (idx a.1 c).bind fun g=>
   (some (Zi f.Delivered g.Delivered)).bind fun i=>
   (if i=true then some true else
    (idx a.1 b).bind fun j=>
    (idx a.1 c).bind fun k=>
    some (Zi j.Real k.Real)
    ).bind fun l=>
   if l=true then
    some (.inr false)
   else
    Zt a b d (IntKind.wrap .i64 (c + (1:Int)))
  else
   some (.inl ())
def Zu (a:((List Zb) × (List (Za × Zb)))):Nat→Int→Option (Unit ⊕ Bool)
 | 0,_=>none
 | c+1,b=>
  if (decide (b<(List.length a.1:Int)))=true then
   (Zt a b fuel (0:Int)).bind fun(d:(Unit ⊕ Bool))=>
   match d with
   | .inl ()=>
     Zu a c (IntKind.wrap .i64 (b + (1:Int)))
   | .inr f=>
     some (.inr f)
  else
   some (.inl ())
def Zag (c:(List Int)) (d:Int):Option Bool:=
 if (Zbg (8:Int)).isSome=true then
  (Zbg (8:Int)).bind fun a=>
  (Zdc c).bind fun f=>
  (Zcx).bind fun g=>
  (Zcb d (4:Int)).bind fun i=>
  (Zw a g i fuel a.2 f (0:Int)).bind fun(j:(((List (Za × Zb)) × Zr) ⊕ Bool))=>
  match j with
  | .inl (k,_)=>
    (Zax a.1 k (0:Int)).bind fun b=>
    (Zu b fuel (0:Int)).bind fun(l:(Unit ⊕ Bool))=>
    match l with
    | .inl ()=>
      (some (decide ((List.length b.1:Int)≤(8:Int)))).bind fun m=>
      (if m=true then
       (Zdb).bind fun n=>
       some n
       else some false).bind fun o=>
      some o
    | .inr p=>
      some p
  | .inr q=>
    some q
 else
  (Zcd (8:Int)).bind fun _=>
  some false
end
end Go.AM
set_option maxRecDepth 100000
namespace Go.Proofs
def Tryd.srt39_ren : Go.Shelf.Ren := ⟨fun | 6 => 39 | 15 => 51 | 14 => 50 | 28 => 71 | 29 => 72 | 20 => 63 | 21 => 64 | 22 => 65 | 23 => 66 | 24 => 67 | 25 => 68 | 26 => 69 | 27 => 70 | 46 => 76 | 47 => 77 | 48 => 78 | 49 => 79 | 50 => 80 | 57 => 81 | n => n, fun | 22 => 52 | 24 => 46 | 25 => 87 | 3 => 3 | 39 => 70 | 0 => 0 | 53 => 29 | 55 => 111 | 4 => 4 | 46 => 103 | 45 => 102 | 50 => 107 | 5 => 5 | 9 => 9 | 66 => 115 | 70 => 119 | 76 => 121 | 77 => 122 | n => n, fun | n => n⟩
theorem Tryd.srt39 : Go.Proofs.SlLaysF0.n6 Tryd.prog Tryd.srt39_ren := {
  mixed := by kernel_rfl
  f6 := ⟨Tryd.f39.name, by decide, Tryd.func39.trans (congrArg some (by kernel_rfl))⟩
  f14 := ⟨Tryd.f50.name, by decide, Tryd.func50.trans (congrArg some (by kernel_rfl))⟩
  f15 := Tryd.func51.trans (congrArg some (by kernel_rfl))
  f20 := ⟨Tryd.f63.name, by decide, Tryd.func63.trans (congrArg some (by kernel_rfl))⟩
  f21 := ⟨Tryd.f64.name, by decide, Tryd.func64.trans (congrArg some (by kernel_rfl))⟩
  f22 := ⟨Tryd.f65.name, by decide, Tryd.func65.trans (congrArg some (by kernel_rfl))⟩
  f23 := ⟨Tryd.f66.name, by decide, Tryd.func66.trans (congrArg some (by kernel_rfl))⟩
  f24 := ⟨Tryd.f67.name, by decide, Tryd.func67.trans (congrArg some (by kernel_rfl))⟩
  f25 := ⟨Tryd.f68.name, by decide, Tryd.func68.trans (congrArg some (by kernel_rfl))⟩
  f26 := ⟨Tryd.f69.name, by decide, Tryd.func69.trans (congrArg some (by kernel_rfl))⟩
  f27 := ⟨Tryd.f70.name, by decide, Tryd.func70.trans (congrArg some (by kernel_rfl))⟩
  f28 := Tryd.func71.trans (congrArg some (by kernel_rfl))
  f29 := Tryd.func72.trans (congrArg some (by kernel_rfl))
  f46 := ⟨Tryd.f76.name, by decide, Tryd.func76.trans (congrArg some (by kernel_rfl))⟩
  f47 := Tryd.func77.trans (congrArg some (by kernel_rfl))
  f48 := Tryd.func78.trans (congrArg some (by kernel_rfl))
  f49 := ⟨Tryd.f79.name, by decide, Tryd.func79.trans (congrArg some (by kernel_rfl))⟩
  f50 := ⟨Tryd.f80.name, by decide, Tryd.func80.trans (congrArg some (by kernel_rfl))⟩
  f57 := ⟨Tryd.f81.name, by decide, Tryd.func81.trans (congrArg some (by kernel_rfl))⟩
  t0 := Tryd.underlying0
  a0 := Tryd.isAgg0
  z0 := Tryd.sizeOf0
  v0 := Tryd.zeroValue0
  t3 := Tryd.underlying3
  a3 := Tryd.isAgg3
  z3 := Tryd.sizeOf3
  v3 := Tryd.zeroValue3
  t4 := Tryd.underlying4
  a4 := Tryd.isAgg4
  z4 := Tryd.sizeOf4
  v4 := Tryd.zeroValue4
  t5 := Tryd.underlying5
  a5 := Tryd.isAgg5
  z5 := Tryd.sizeOf5
  v5 := Tryd.zeroValue5
  t9 := Tryd.underlying9
  a9 := Tryd.isAgg9
  z9 := Tryd.sizeOf9
  v9 := Tryd.zeroValue9
  t22 := Tryd.underlying52
  a22 := Tryd.isAgg52
  z22 := Tryd.sizeOf52
  v22 := Tryd.zeroValue52
  t25 := Tryd.underlying87
  a25 := Tryd.isAgg87
  z25 := Tryd.sizeOf87
  v25 := Tryd.zeroValue87
  t39 := Tryd.underlying70
  a39 := Tryd.isAgg70
  z39 := Tryd.sizeOf70
  v39 := Tryd.zeroValue70
  t45 := Tryd.underlying102
  a45 := Tryd.isAgg102
  z45 := Tryd.sizeOf102
  v45 := Tryd.zeroValue102
  t46 := Tryd.underlying103
  a46 := Tryd.isAgg103
  z46 := Tryd.sizeOf103
  v46 := Tryd.zeroValue103
  t50 := Tryd.underlying107
  a50 := Tryd.isAgg107
  z50 := Tryd.sizeOf107
  v50 := Tryd.zeroValue107
  t53 := Tryd.underlying29
  a53 := Tryd.isAgg29
  z53 := Tryd.sizeOf29
  v53 := Tryd.zeroValue29
  t55 := Tryd.underlying111
  a55 := Tryd.isAgg111
  z55 := Tryd.sizeOf111
  v55 := Tryd.zeroValue111
  t66 := Tryd.underlying115
  a66 := Tryd.isAgg115
  z66 := Tryd.sizeOf115
  v66 := Tryd.zeroValue115
  t70 := Tryd.underlying119
  a70 := Tryd.isAgg119
  z70 := Tryd.sizeOf119
  v70 := Tryd.zeroValue119
  t76 := Tryd.underlying121
  a76 := Tryd.isAgg121
  z76 := Tryd.sizeOf121
  v76 := Tryd.zeroValue121
  t77 := Tryd.underlying122
  a77 := Tryd.isAgg122
  z77 := Tryd.sizeOf122
  v77 := Tryd.zeroValue122 }
end Go.Proofs
namespace Go.AM
open Go Go.Proofs
theorem Za2:KeyOk Tryd.prog 41 Zg Zi:=KeyOk.struct (vs:=Zd3) (by kernel_rfl) (fun _=>by kernel_rfl) (fun _ _=>by kernel_rfl) (fun _=>by kernel_rfl) (fun a b=>⟨fun h=>by cases a; cases b; simpa [Zi] using h,fun h=>by subst h; simp [Zi]⟩)
end Go.AM
set_option maxRecDepth 1000000
namespace Go.AM
open Go Go.Proofs
def glob:Glob:=[(0,Zak Zbm)]
def T0:Tab:=[]
theorem T0_ok:T0.ok Tryd.prog glob:=Tab.nil
def T1:Tab:=(60,[.sc (.agg #[.int .u32 1,.int .u32 2,.int .u8 17,.int .u16 3,.int .u16 4])],.sc (.agg #[.int .u32 1,.int .u32 1,.int .u32 2,.int .u32 2,.int .u32 17,.int .u32 17,.int .u32 3,.int .u32 3,.int .u32 4,.int .u32 4])) :: T0
theorem T1_ok:T1.ok Tryd.prog glob:=Tab.cons T0_ok 100000 (by kernel_rfl)
def T2:Tab:=(39,[.sl 21 [[.sc (.int .u32 1),.sc (.int .u32 2),.sc (.int .u8 17),.sc (.int .u16 3),.sc (.int .u16 4),.sc (.int .u32 0),.sc (.int .u32 0),.sc (.int .u8 0),.sc (.int .u16 0),.sc (.int .u16 0),.sc (.int .u32 1),.sc (.int .u32 2),.sc (.int .u8 17),.sc (.int .u16 3),.sc (.int .u16 4),.sc (.int .i64 (-1)),.sc (.int .i64 1),.sc (.bool false),.sc (.string (ByteArray.mk #[])),.sc (.int .i64 1),.sc (.int .i64 130)]],.sc (.func (.func 40) #[] #[])],.tup []) :: T1
theorem T2_ok:T2.ok Tryd.prog glob:=Tab.cons T1_ok 100000 (by kernel_rfl)
def T3:Tab:=(17,[],.sc (.bool true)) :: T2
theorem T3_ok:T3.ok Tryd.prog glob:=Tab.cons T2_ok 100000 (by kernel_rfl)
end Go.AM
set_option maxRecDepth 100000
namespace Go.AM
open Go Go.Proofs
def Zik (r:Bool):PV→List Blk→Prop:=fun p K=>p=(vb r)∧K=[]
theorem Zil (r:Bool) (hF:Zdb=some r):ACall Tryd.prog glob 17 [] [] (Zik r):=by
 have hr:=someb hF
 subst hr
 exact(T3_ok _ (List.mem_cons.2 (.inl rfl))).1
def Zgh (r:(Int × (List (Za × Zb)))):PV→List Blk→Prop:=fun p K=>p=(.tup [(.ptr 1 0),(i64 (0:Int))])∧K=[.fm (List.map (entF Zg Zd) r.2),.cells [(i64 r.1),(.mp 0)]]
theorem Zgi (a:Int) (r:(Int × (List (Za × Zb)))) (hF:Zbg a=some r):ACall Tryd.prog glob 6 [(i64 a)] [] (Zgh r):=by
 refine ACall.body Tryd.func6 rfl (by kernel_rfl) ?_
 unfold Zbg at hF
 refine AWP.seq (AWP.rg0 [] [(0,(i64 a))] (AWP.seq (AWP.seq ?_)))
 obtain⟨c,b,hF⟩:=bindb hF
 replace b:=someb b
 refine AWP.to [(0,(i64 a)),(9,(vb (c || (decide (a > (64:Int))))))] [] ?_ ?_
 ·cases c with
  | false=>
   exact AWP.rgT [(2,.bool b)]
  | true=>
   exact AWP.rgT [(2,.bool b)]
 refine AWP.cif hF (fun d hF=>?_) (fun d hF=>?_)
 ·refine AWP.seq (AWP.rg0 [] [(2,(.sc (.pointer none))),(3,(i64 (2:Int)))] (AWP.ret ?_))
  exact noneb hF
 ·refine AWP.skip (AWP.seq (AWP.rg [(1,.mkM)] [(2,(.ptr 1 0)),(3,(i64 (0:Int)))] [.fm (List.map (entF Zg Zd) ([]:(List (Za × Zb)))),.cells [(i64 a),(.mp 0)]] (AWP.ret ?_)))
  have hr:=someb hF
  subst hr
  exact(FnQ.f0 2 (.inr rfl))
def Zkc (r:Zr):PV→List Blk→Prop:=fun p K=>p=(.ptr 0 0)∧K=[.cells (Zn r)]
theorem Zkd (a:(List Int)) (r:Zr) (hF:Zdc a=some r):ACall Tryd.prog glob 7 [(slc 1 Zab a)] [] (Zkc r):=by
 refine ACall.body Tryd.func7 rfl (by kernel_rfl) ?_
 unfold Zdc at hF
 refine AWP.seq (AWP.rg0 [] [(0,(slc 1 Zab a))] (AWP.seq (AWP.rg [] [(2,(.ptr 0 0))] [.cells (Zn (Zr.mk a (0:Int)))] (AWP.ret ?_))))
 have hr:=someb hF
 subst hr
 exact(FnQ.f0 1 (.inr rfl))
def Zfz (r:Int):PV→List Blk→Prop:=fun p K=>p=(u32 r)∧K=[]
abbrev Zjq (r:Int):Exit→St→List Blk→Prop:=FnQ Tryd.prog Tryd.f26.results 0 (Zfz r)
theorem Zf0 (a:Int) (r:Int) (hF:Zcl a=some r):ACall Tryd.prog glob 26 [(i64 a)] [] (Zfz r):=by
 refine ACall.body Tryd.func26 rfl (by kernel_rfl) ?_
 unfold Zcl at hF
 refine AWP.seq (AWP.rg0 [] [(0,(i64 a))] ?_)
 obtain⟨b,c,hF⟩:=bindb hF
 refine AWP.seq ?_
 refine AWP.mid (fun e st H=>(e=.normal∧b=(.inl ())∧st=[]∧H=[])∨(e=.ret∧∃ r,b=(.inr r)∧Zjq r e st H)) ?_ ?_
 ·clear hF
  have hF:=c
  refine AWP.seq (AWP.rg0 [] [(3,(i64 a))] (AWP.block ?_))
  obtain⟨d,f,hF⟩:=bindb hF
  refine AWP.seq ?_
  refine AWP.mid (fun e st H=>e=.normal∧st=[(3,(i64 a)),(4,(vb d))]∧H=[]) ?_ ?_
  ·clear hF
   have hF:=f
   refine AWP.seq (AWP.rg0 [] [(3,(i64 a)),(4,(vb (a == (0:Int))))] ?_)
   refine AWP.cif hF (fun g hF=>?_) (fun g hF=>?_)
   ·refine AWP.skip (LeQ.start (LeQ.pk [3,4] 0 ?_))
    have hr:=someb hF
    subst hr
    exact⟨rfl,by kernel_rfl,by kernel_rfl⟩
   ·refine AWP.rg0 [] [(3,(i64 a)),(4,(vb (a == (1:Int))))] (LeQ.start (LeQ.pk [3,4] 0 ?_))
    have hr:=someb hF
    subst hr
    exact⟨rfl,by kernel_rfl,by kernel_rfl⟩
  ·rintro _ _ _ ⟨rfl,rfl,rfl⟩
   refine AWP.cif hF (fun i hF=>?_) (fun i hF=>?_)
   ·refine AWP.seq (AWP.rg0 [] [(2,(u32 (4294967295:Int)))] (AWP.ret ?_))
    exact LeQ.of (.inr ⟨rfl,(4294967295:Int),(someb hF).symm,(FnQ.f0 0 (.inr rfl))⟩)
   ·refine AWP.seq (AWP.rg0 [] [(3,(i64 a)),(7,(vb (a == (2:Int))))] ?_)
    refine AWP.cif hF (fun j hF=>?_) (fun j hF=>?_)
    ·refine AWP.seq (AWP.rg0 [] [(2,(u32 (255:Int)))] (AWP.ret ?_))
     exact LeQ.of (.inr ⟨rfl,(255:Int),(someb hF).symm,(FnQ.f0 0 (.inr rfl))⟩)
    ·obtain⟨k,l,hF⟩:=bindb hF
     refine AWP.seq ?_
     refine AWP.mid (fun e st H=>e=.normal∧st=[(9,(vb k))]∧H=[]) ?_ ?_
     ·clear hF
      have hF:=l
      refine AWP.seq (AWP.rg0 [] [(3,(i64 a)),(9,(vb (a == (3:Int))))] ?_)
      refine AWP.cif hF (fun m hF=>?_) (fun m hF=>?_)
      ·refine AWP.skip (LeQ.start (LeQ.pk [9] 0 ?_))
       have hr:=someb hF
       subst hr
       exact⟨rfl,by kernel_rfl,by kernel_rfl⟩
      ·refine AWP.rg0 [] [(9,(vb (a == (4:Int))))] (LeQ.start (LeQ.pk [9] 0 ?_))
       have hr:=someb hF
       subst hr
       exact⟨rfl,by kernel_rfl,by kernel_rfl⟩
     ·rintro _ _ _ ⟨rfl,rfl,rfl⟩
      refine AWP.cif hF (fun n hF=>?_) (fun n hF=>?_)
      ·refine AWP.seq (AWP.rg0 [] [(2,(u32 (65535:Int)))] (AWP.ret ?_))
       exact LeQ.of (.inr ⟨rfl,(65535:Int),(someb hF).symm,(FnQ.f0 0 (.inr rfl))⟩)
      ·refine AWP.skip (LeQ.start (LeQ.pk [] 0 ?_))
       exact(.inl ⟨rfl,(someb hF).symm,by kernel_rfl,by kernel_rfl⟩)
 ·rintro _ _ _ (⟨rfl,rfl,rfl,rfl⟩ | ⟨rfl,o,rfl,hq⟩)
  ·refine AWP.seq (AWP.rg0 [] [(2,(u32 (0:Int)))] (AWP.ret ?_))
   have hr:=someb hF
   subst hr
   exact(FnQ.f0 0 (.inr rfl))
  ·have hr:=someb hF
   subst hr
   exact hq
def Zix (r:ZB):PV→List Blk→Prop:=fun p K=>p=(Zx r)∧K=[]
theorem Ziy (r:ZB) (hF:Zcx=some r):ACall Tryd.prog glob 8 [] [] (Zix r):=by
 refine ACall.body Tryd.func8 rfl (by kernel_rfl) ?_
 unfold Zcx at hF
 refine AWP.seq (AWP.rg [] [(0,(.ptr 0 0))] [.cells (Ze Zm)] (AWP.seq (AWP.rg [] [(0,(.ptr 0 0)),(1,(.ptr 1 0))] [.cells (Ze Zm),.cells (Ze Zm)] (AWP.seq (AWP.seq (AWP.rg0 [] [(0,(.ptr 0 0)),(1,(.ptr 1 0)),(2,(i64 (0:Int)))] ?_))))))
 obtain⟨c,j,hF⟩:=bindb hF
 refine AWP.mid (fun e st H=>e=.normal∧st=[(0,(.ptr 0 0)),(1,(.ptr 1 0))]∧H=[.cells (Ze Zm),.cells (Ze c)]) ?_ ?_
 ·clear hF
  refine AWP.kp [0,1,2] 2 ?_
  refine AWP.bround (fun n st H=>∃ b,∃ a,Zb7 n b a=some c∧st=[(0,(.ptr 0 0)),(1,(.ptr 1 0)),(2,(i64 a))]∧H=[.cells (Ze Zm),.cells (Ze b)]) fuel ⟨Zm,(0:Int),j,by kernel_rfl,by kernel_rfl⟩ ?_
  rintro f st H ⟨b,a,hF,rfl,rfl⟩
  cases f with
  | zero=>exact noneb hF
  | succ f=>
   rw [Zb7] at hF
   refine AWP.seq (AWP.seq (AWP.rg0 [] [(0,(.ptr 0 0)),(1,(.ptr 1 0)),(2,(i64 a)),(4,(vb (decide (a<(5:Int)))))] ?_))
   refine AWP.cif hF (fun k hF=>?_) (fun k hF=>?_)
   ·refine AWP.skip (AWP.seq (AWP.block ?_))
    obtain⟨d,l,hF⟩:=bindb hF
    obtain⟨g,hF⟩:=chkb hF
    refine AWP.rg [(2,.call Tryd.func26 [] (Zf0 a d l)),(3,.ixd g),(5,.stA (fun i=>Ze (Arr5.set b i ({ (Arr5.get b i) with Hi:=d }:Zh))) 0 2 1 g)] [(0,(.ptr 0 0)),(1,(.ptr 1 0)),(2,(i64 a))] [.cells (Ze Zm),.cells (Ze (Arr5.set b a ({ (Arr5.get b a) with Hi:=d }:Zh)))] (AWP.rg0 [] [(0,(.ptr 0 0)),(1,(.ptr 1 0)),(2,(i64 (ZI (a + (1:Int)))))] (LeQ.start (LeQ.pk [0,1,2] 2 ?_)))
    exact⟨f,Nat.lt_succ_self _,(Arr5.set b a ({ (Arr5.get b a) with Hi:=d }:Zh)),(ZI (a + (1:Int))),hF,by kernel_rfl,by kernel_rfl⟩
   ·refine AWP.exit (LeQ.start (LeQ.pk [0,1] 2 ?_))
    have hr:=someb hF
    subst hr
    exact⟨rfl,by kernel_rfl,by kernel_rfl⟩
 ·rintro _ _ _ ⟨rfl,rfl,rfl⟩
  refine AWP.seq (AWP.rg [] [(0,(.ptr 0 0))] [.cells (Ze c),.cells (Ze c)] (AWP.ret ?_))
  have hr:=someb hF
  subst hr
  exact(FnQ.f0 0 (.inr rfl))
def Zke (r:Int):PV→List Blk→Prop:=fun p K=>p=(i64 r)∧K=[]
theorem Zgj (a:Int) (b:Int) (r:Int) (hF:Zcb a b=some r):ACall Tryd.prog glob 9 [(i64 a),(i64 b)] [] (Zke r):=by
 refine ACall.body Tryd.func9 rfl (by kernel_rfl) ?_
 unfold Zcb at hF
 refine AWP.seq (AWP.rg0 [] [(0,(i64 a)),(1,(i64 b))] (AWP.seq ?_))
 obtain⟨c,hF⟩:=chkb hF
 refine AWP.rg0 [(4,.rem c)] [(4,(i64 (ZI (Int.tmod (IntKind.wrap .u64 a) (IntKind.wrap .u64 b)))))] (AWP.ret ?_)
 have hr:=someb hF
 subst hr
 exact(FnQ.f0 0 (.inr rfl))
def Zgk (r:(Int × Zr)):PV→List Blk→Prop:=fun p K=>p=(i64 r.1)∧K=[.cells (Zn r.2)]
theorem Z3 (a:Zr) (b:Int) (r:(Int × Zr)) (hF:Zai a b=some r):ACall Tryd.prog glob 27 [(.ptr 0 0),(i64 b)] [.cells (Zn a)] (Zgk r):=by
 refine ACall.body Tryd.func27 rfl (by kernel_rfl) ?_
 unfold Zai at hF
 refine AWP.seq (AWP.rg0 [] [(0,(.ptr 0 0)),(1,(i64 b))] (AWP.seq (AWP.seq ?_)))
 obtain⟨d,c,hF⟩:=bindb hF
 replace c:=someb c
 refine AWP.to [(0,(.ptr 0 0)),(1,(i64 b)),(18,(vb (d || (decide (a.f_i ≥ (List.length a.f_l:Int))))))] [.cells (Zn a)] ?_ ?_
 ·cases d with
  | false=>
   exact AWP.drT [(2,.bool c),(11,.len Zab a.f_l)] 14 [] [] []
  | true=>
   exact AWP.drT [(2,.bool c)] 14 [] [] []
 refine AWP.cif hF (fun g hF=>?_) (fun g hF=>?_)
 ·refine AWP.seq (AWP.rg0 [] [(4,(i64 (0:Int)))] (AWP.ret ?_))
  have hr:=someb hF
  subst hr
  exact(FnQ.f0 1 (.inr rfl))
 ·refine AWP.skip (AWP.seq (AWP.rg [] [(0,(.ptr 0 0)),(1,(i64 b))] [.cells (Zn ({ a with f_i:=(ZI (a.f_i + (1:Int))) }:Zr))] (AWP.seq ?_)))
  obtain⟨i,j,hF⟩:=bindb hF
  obtain⟨f,k,hF⟩:=bindb hF
  refine AWP.dr [(9,.idx Zab j),(12,.call Tryd.func9 [] (Zgj i b f k))] 13 [] [] [] [(4,(i64 f))] [.cells (Zn ({ a with f_i:=(ZI (a.f_i + (1:Int))) }:Zr))] (AWP.ret ?_)
  have hr:=someb hF
  subst hr
  exact(FnQ.f0 1 (.inr rfl))
def Zim (r:(Za × Zr)):PV→List Blk→Prop:=fun p K=>p=(Zv r.1)∧K=[.cells (Zn r.2)]
theorem Zin (d:Zr) (r:(Za × Zr)) (hF:Zb2 d=some r):ACall Tryd.prog glob 10 [(.ptr 0 0)] [.cells (Zn d)] (Zim r):=by
 refine ACall.body Tryd.func10 rfl (by kernel_rfl) ?_
 unfold Zb2 at hF
 refine AWP.seq (AWP.rg [] [(0,(.ptr 0 0)),(2,(.ptr 1 0))] [.cells (Zn d),.cells (Zc Zk)] (AWP.seq ?_))
 obtain⟨b,g,hF⟩:=bindb hF
 obtain⟨c,i,hF⟩:=bindb hF
 obtain⟨f,j,hF⟩:=bindb hF
 obtain⟨a,k,hF⟩:=bindb hF
 refine AWP.to [(2,(.ptr 1 0)),(3,(.ptr 2 0))] [.cells (Zn a.2),.cells (Zc Zk),.cells (Zc (Za.mk (IntKind.wrap .u32 ((167772160:Int) + (IntKind.wrap .u32 b.1))) (167772416:Int) f (IntKind.wrap .u16 (ZI ((1000:Int) + a.1))) (80:Int)))] ?_ ?_
 ·refine AWP.of_draw (by kernel_rfl) ?_
  refine ADraw.either 14 1 (by kernel_rfl) ?_ ?_
  ·refine ADraw.either 14 6 (by kernel_rfl) ?_ ?_
   ·refine ADraw.either 14 10 (by kernel_rfl) ?_ ?_
    ·exact ADraw.drT [(1,.call Tryd.func27 [] (Z3 d (3:Int) b g)),(6,.call Tryd.func27 [] (Z3 b.2 (4:Int) c i)),(7,.idx Zh2 j),(10,.call Tryd.func27 [] (Z3 c.2 (2:Int) a k))] 15 [] [1,6,10,14] []
    ·exact ADraw.drT [(1,.call Tryd.func27 [] (Z3 d (3:Int) b g)),(6,.call Tryd.func27 [] (Z3 b.2 (4:Int) c i)),(7,.idx Zh2 j),(10,.call Tryd.func27 [] (Z3 c.2 (2:Int) a k))] 15 [0,1,2,3,4,5,6,7,8,9,14,10,11,12,13] [1,6,14,10] []
   ·exact ADraw.drT [(1,.call Tryd.func27 [] (Z3 d (3:Int) b g)),(6,.call Tryd.func27 [] (Z3 b.2 (4:Int) c i)),(7,.idx Zh2 j),(10,.call Tryd.func27 [] (Z3 c.2 (2:Int) a k))] 15 [0,1,2,3,4,5,9,14,6,7,8,10,11,12,13] [1,14,6,10] []
  ·exact ADraw.drT [(1,.call Tryd.func27 [] (Z3 d (3:Int) b g)),(6,.call Tryd.func27 [] (Z3 b.2 (4:Int) c i)),(7,.idx Zh2 j),(10,.call Tryd.func27 [] (Z3 c.2 (2:Int) a k))] 15 [0,4,5,9,14,1,2,3,6,7,8,10,11,12,13] [14,1,6,10] []
 obtain⟨l,m,hF⟩:=bindb hF
 refine AWP.seq ?_
 refine AWP.mid (fun e st H=>e=.normal∧st=[(2,(.ptr 1 0)),(3,(.ptr 2 0))]∧H=[.cells (Zn a.2),.cells (Zc Zk),.cells (Zc l)]) ?_ ?_
 ·clear hF
  have hF:=m
  refine AWP.seq (AWP.rg0 [] [(2,(.ptr 1 0)),(3,(.ptr 2 0)),(19,(u8 f))] (AWP.block (AWP.seq (AWP.rg0 [] [(2,(.ptr 1 0)),(3,(.ptr 2 0)),(19,(u8 f)),(20,(vb (f == (1:Int))))] ?_))))
  refine AWP.cif hF (fun n hF=>?_) (fun n hF=>?_)
  ·refine AWP.rg [] [(2,(.ptr 1 0)),(3,(.ptr 2 0))] [.cells (Zn a.2),.cells (Zc Zk),.cells (Zc ({ (Za.mk (IntKind.wrap .u32 ((167772160:Int) + (IntKind.wrap .u32 b.1))) (167772416:Int) f (IntKind.wrap .u16 (ZI ((1000:Int) + a.1))) (80:Int)) with DstPort:=(8:Int) }:Za))] (LeQ.start (LeQ.pk [2,3] 3 ?_))
   have hr:=someb hF
   subst hr
   exact⟨rfl,by kernel_rfl,by kernel_rfl⟩
  ·refine AWP.seq (AWP.rg0 [] [(2,(.ptr 1 0)),(3,(.ptr 2 0)),(23,(vb (f == (50:Int))))] ?_)
   refine AWP.cif hF (fun o hF=>?_) (fun o hF=>?_)
   ·refine AWP.rg [] [(2,(.ptr 1 0)),(3,(.ptr 2 0))] [.cells (Zn a.2),.cells (Zc Zk),.cells (Zc ({ ({ (Za.mk (IntKind.wrap .u32 ((167772160:Int) + (IntKind.wrap .u32 b.1))) (167772416:Int) f (IntKind.wrap .u16 (ZI ((1000:Int) + a.1))) (80:Int)) with SrcPort:=(0:Int) }:Za) with DstPort:=(0:Int) }:Za))] (LeQ.start (LeQ.pk [2,3] 3 ?_))
    have hr:=someb hF
    subst hr
    exact⟨rfl,by kernel_rfl,by kernel_rfl⟩
   ·refine AWP.skip (LeQ.start (LeQ.pk [2,3] 3 ?_))
    have hr:=someb hF
    subst hr
    exact⟨rfl,by kernel_rfl,by kernel_rfl⟩
 ·rintro _ _ _ ⟨rfl,rfl,rfl⟩
  refine AWP.seq (AWP.rg [] [(2,(.ptr 1 0))] [.cells (Zn a.2),.cells (Zc l),.cells (Zc l)] (AWP.ret ?_))
  have hr:=someb hF
  subst hr
  exact(FnQ.f0 1 (.inr rfl))
def Zeq (a:Int) (r:(Int × (List (Za × Zb)))):PV→List Blk→Prop:=fun p K=>p=(i64 r.1)∧K=[.fm (List.map (entF Zg Zd) r.2),.cells [(i64 a),(.mp 0)]]
theorem Zb0 (d:Int) (g:(List (Za × Zb))) (a:Int) (r:(Int × (List (Za × Zb)))) (hF:Z7 d g a=some r):ACall Tryd.prog glob 24 [(.ptr 1 0),(i64 a)] [.fm (List.map (entF Zg Zd) g),.cells [(i64 d),(.mp 0)]] (Zeq d r):=by
 refine ACall.body Tryd.func24 rfl (by kernel_rfl) ?_
 unfold Z7 at hF
 refine AWP.seq (AWP.rg0 [] [(0,(.ptr 1 0)),(1,(i64 a))] (AWP.seq (AWP.seq (AWP.rg0 [(1,.ptrNil)] [(0,(.ptr 1 0)),(1,(i64 a)),(9,(vb false))] ?_))))
 refine AWP.cF ?_
 refine AWP.skip (AWP.seq (AWP.rg0 [] [(0,(.ptr 1 0)),(1,(i64 a)),(5,(i64 (0:Int)))] (AWP.seq (AWP.seq ?_))))
 refine AWP.openM Zg Zd g 0 (fun u c w=>?_)
 refine AWP.rg [(4,.rngE)] [(0,(.ptr 1 0)),(1,(i64 a)),(5,(i64 (0:Int))),(14,(.ptr 2 0))] [.map (List.map (entT Zg Zd) u) c,.cells [(i64 d),(.mp 0)],.iter (some 0) c [] c] ?_
 have o:=allpb hF
 clear hF
 refine AWP.kp [0,1,5,14] 3 ?_ (hfar:=(farM (farC (by kernel_rfl) (farC (by kernel_rfl) farN))))
 refine AWP.mid (fun e st H=>∃ m,∃(k:Empty ⊕ ((List (Za × Zb)) × Int)),m.Perm g∧mfold (Zac a) m (g,(0:Int))=some k∧overM Zg Zd (fun(s_:((List (Za × Zb)) × Int))=>s_.1) (fun(s_:((List (Za × Zb)) × Int))=>[(0,(.ptr 1 0)),(1,(i64 a)),(5,(i64 s_.2)),(14,(.ptr 2 0))]) (fun(s_:((List (Za × Zb)) × Int)) (x_ y_:Blk)=>[x_,.cells [(i64 d),(.mp 0)],y_]) (fun(_:Empty) _ _ _=>False) 0 c k e st H) ?_ ?_
 ·refine AWP.rangeQ (it:=14) (t:=15) (b:=16) (i:=0) (q:=2) (cl:=c) (kv:=Zg) (vv:=Zd) (B:=Zac a) (M:=(fun(s_:((List (Za × Zb)) × Int))=>s_.1)) (stf:=(fun(s_:((List (Za × Zb)) × Int))=>[(0,(.ptr 1 0)),(1,(i64 a)),(5,(i64 s_.2)),(14,(.ptr 2 0))])) (Hf:=(fun(s_:((List (Za × Zb)) × Int)) (x_ y_:Blk)=>[x_,.cells [(i64 d),(.mp 0)],y_])) (Qe:=(fun(_:Empty) _ _ _=>False)) (L:=g) (si_:=(g,(0:Int))) (Ei_:=u) (by kernel_rfl) (fun _=>rfl) (fun _ _ _=>rfl) (fun _ _ _=>rfl) (fun _ _ _ _=>rfl) (fun _ _ _=>rfl) (fun y_ _ _ _ _=>(by cases y_)) w rfl (fun l_ h_=>isb (o l_ h_)) rfl rfl ?_ (fun l_ o_ h1_ h2_ e st H h3_=>LeQ.of ⟨l_,o_,h1_,h2_,h3_⟩)
  rintro p n ⟨s,f⟩ ⟨x,j⟩ k hF v l
  rw [Zac] at hF
  show AWP _ _ _ _ _ _ [(0,(.ptr 1 0)),(1,(i64 a)),(5,(i64 j)),(14,(.ptr 2 0))] [.map (List.map (entT Zg Zd) p) c,.cells [(i64 d),(.mp 0)],.iter (some 0) c (n++[s]) c]
  refine AWP.block (AWP.seq (AWP.rg [(0,.entE Zd l n v)] [(0,(.ptr 1 0)),(1,(i64 a)),(5,(i64 j)),(6,(.ptr 3 0)),(7,(.ptr 4 0)),(14,(.ptr 2 0))] [.map (List.map (entT Zg Zd) p) c,.cells [(i64 d),(.mp 0)],.iter (some 0) c (n++[s]) c,.cells (Zc f.1),.cells (Zf f.2)] (AWP.seq (AWP.rg0 [] [(0,(.ptr 1 0)),(1,(i64 a)),(5,(i64 j)),(6,(.ptr 3 0)),(14,(.ptr 2 0)),(23,(vb (decide (f.2.Expires≤a))))] ?_))))
  refine AWP.cif hF (fun z hF=>?_) (fun z hF=>?_)
  ·refine AWP.seq (AWP.dr [(5,.delE Za2 Zd l f.1)] 6 [] [5] [] [(0,(.ptr 1 0)),(1,(i64 a)),(5,(i64 j)),(14,(.ptr 2 0))] [.map (List.map (entT Zg Zd) (List.filter (fun y=>!Zi f.1 y.2.1) p)) c,.cells [(i64 d),(.mp 0)],.iter (some 0) c (n++[s]) c,.cells (Zc f.1),.cells (Zf f.2)] (AWP.rg0 [] [(0,(.ptr 1 0)),(1,(i64 a)),(5,(i64 (ZI (j + (1:Int))))),(14,(.ptr 2 0))] (LeQ.start ?_)))
   refine LeQ.pk [0,1,5,14] 3 ?_ (hfar:=(farM (farC (by kernel_rfl) (farC (by kernel_rfl) farN))))
   have hr:=someb hF
   subst hr
   exact roundM.mk ((Zig (vv:=Zd) Za2 l f.1).2) (keepsE.del Za2 l v)
  ·refine AWP.skip (LeQ.start ?_)
   refine LeQ.pk [0,1,5,14] 3 ?_ (hfar:=(farM (farC (by kernel_rfl) (farC (by kernel_rfl) farN))))
   have hr:=someb hF
   subst hr
   exact roundM.mk l (.inl rfl)
 ·rintro e st H ⟨m,k,a0,a1,a2⟩
  have hF:=overb a1 (o m a0)
  clear o
  obtain a3 | ⟨x,j⟩:=k
  ·exact (by cases a3)
  ·obtain⟨rfl,a5,a6,a4,rfl,rfl⟩:=a2
   refine AWP.closeM Zd 0 a4 ?_
   refine AWP.seq (AWP.rg0 [] [(4,(i64 j))] (AWP.ret ?_))
   have hr:=someb hF
   subst hr
   exact(FnQ.f0 2 (.inr rfl))
def Zhe (r:Bool):PV→List Blk→Prop:=fun p K=>p=(vb r)∧K=[]
abbrev Zkz (r:Bool):Exit→St→List Blk→Prop:=FnQ Tryd.prog Tryd.f56.results 0 (Zhe r)
theorem Zdq (a:ZB) (r:Bool) (hF:Zco a=some r):ACall Tryd.prog glob 56 [(Zx a)] [] (Zhe r):=by
 refine ACall.body Tryd.func56 rfl (by kernel_rfl) ?_
 unfold Zco at hF
 refine AWP.seq (AWP.rg [] [(1,(.ptr 0 0))] [.cells (Ze a)] (AWP.seq (AWP.seq (AWP.rg0 [] [(5,(Zx a)),(6,(i64 (0:Int)))] ?_))))
 obtain⟨f,k,hF⟩:=bindb hF
 refine AWP.mid (fun e st H=>(e=.normal∧f=(.inl ())∧st=[]∧H=[.cells (Ze a)])∨(e=.ret∧∃ r,f=(.inr r)∧Zkz r e st H)) ?_ ?_
 ·clear hF
  refine AWP.kp [5,6] 1 ?_
  refine AWP.bround (fun n st H=>∃ b,Zy a n b=some f∧st=[(5,(Zx a)),(6,(i64 b))]∧H=[.cells (Ze a)]) fuel ⟨(0:Int),k,by kernel_rfl,by kernel_rfl⟩ ?_
  rintro g st H ⟨b,hF,rfl,rfl⟩
  cases g with
  | zero=>exact noneb hF
  | succ g=>
   rw [Zy] at hF
   refine AWP.seq (AWP.rg0 [] [(5,(Zx a)),(6,(i64 b)),(7,(vb (decide (b<(5:Int)))))] (AWP.seq ?_))
   refine AWP.cif hF (fun l hF=>?_) (fun l hF=>?_)
   ·refine AWP.skip (AWP.seq (AWP.block (AWP.seq ?_)))
    obtain⟨m,hF⟩:=chkb hF
    refine AWP.rg [(1,.ixA Z8 (Arr5.get a) m)] [(3,(i64 b)),(4,(.ptr 1 0)),(5,(Zx a)),(6,(i64 b))] [.cells (Ze a),.cells (Z8 (Arr5.get a b))] (AWP.seq ?_)
    obtain⟨o,d,hF⟩:=bindb hF
    replace d:=someb d
    obtain⟨p,i,hF⟩:=bindb hF
    refine AWP.to [(5,(Zx a)),(6,(i64 b)),(22,(vb p))] [.cells (Ze a),.cells (Z8 (Arr5.get a b))] ?_ ?_
    ·cases o with
     | false=>
      have c:=ifF i rfl
      obtain⟨j,c⟩:=chkb c
      replace c:=someb c
      subst c
      exact AWP.drT [(5,.bool d),(9,.ixd j),(10,.ldA Zcu (Arr5.get Zbm) 0 1 0 j)] 13 [] [] []
     | true=>
      have q:=someb (ifT i rfl)
      subst q
      exact AWP.drT [(5,.bool d)] 13 [] [] []
    refine AWP.cif hF (fun s hF=>?_) (fun s hF=>?_)
    ·refine AWP.seq (AWP.rg0 [] [(2,(vb false))] (AWP.ret ?_))
     exact LeQ.of (.inr ⟨rfl,false,(someb hF).symm,(FnQ.f0 0 (.inr rfl))⟩)
    ·refine AWP.skip (AWP.rg0 [] [(5,(Zx a)),(6,(i64 (ZI (b + (1:Int)))))] (LeQ.start (LeQ.pk [5,6] 1 ?_)))
     exact⟨g,Nat.lt_succ_self _,(ZI (b + (1:Int))),hF,by kernel_rfl,by kernel_rfl⟩
   ·refine AWP.exit (LeQ.start (LeQ.pk [] 1 ?_))
    exact(.inl ⟨rfl,(someb hF).symm,by kernel_rfl,by kernel_rfl⟩)
 ·rintro _ _ _ (⟨rfl,rfl,rfl,rfl⟩ | ⟨rfl,t,rfl,hq⟩)
  ·refine AWP.seq (AWP.rg0 [] [(2,(vb true))] (AWP.ret ?_))
   have hr:=someb hF
   subst hr
   exact(FnQ.f0 0 (.inr rfl))
  ·have hr:=someb hF
   subst hr
   exact hq
def Zmg (r:Int):PV→List Blk→Prop:=fun p K=>p=(u32 r)∧K=[]
theorem Zmh (a:Int) (r:Int) (hF:Zet a=some r):ACall Tryd.prog glob 57 [(i64 a)] [] (Zmg r):=by
 refine ACall.body Tryd.func57 rfl (by kernel_rfl) ?_
 unfold Zet at hF
 refine AWP.seq (AWP.rg0 [] [(0,(i64 a))] (AWP.seq (AWP.seq ?_)))
 obtain⟨c,b,hF⟩:=bindb hF
 replace b:=someb b
 refine AWP.to [(0,(i64 a)),(8,(vb (c || (decide (a ≥ (5:Int))))))] [] ?_ ?_
 ·cases c with
  | false=>
   exact AWP.rgT [(2,.bool b)]
  | true=>
   exact AWP.rgT [(2,.bool b)]
 refine AWP.cif hF (fun f hF=>?_) (fun f hF=>?_)
 ·refine AWP.seq (AWP.rg0 [] [(2,(u32 (0:Int)))] (AWP.ret ?_))
  have hr:=someb hF
  subst hr
  exact(FnQ.f0 0 (.inr rfl))
 ·refine AWP.skip (AWP.seq ?_)
  obtain⟨d,hF⟩:=chkb hF
  refine AWP.rg0 [(1,.ixd d),(2,.ldA Zcu (Arr5.get Zbm) 0 1 0 d)] [(2,(u32 (Arr5.get Zbm a)))] (AWP.ret ?_)
  have hr:=someb hF
  subst hr
  exact(FnQ.f0 0 (.inr rfl))
def Zf1 (r:Bool):PV→List Blk→Prop:=fun p K=>p=(vb r)∧K=[]
theorem Zbd (a:Zl) (r:Bool) (hF:Zap a=some r):ACall Tryd.prog glob 44 [(Zcn a)] [] (Zf1 r):=by
 refine ACall.body Tryd.func44 rfl (by kernel_rfl) ?_
 unfold Zap at hF
 refine AWP.seq (AWP.rg [] [(1,(.ptr 0 0))] [.cells (Zj a)] (AWP.seq ?_))
 obtain⟨f,g,hF⟩:=bindb hF
 obtain⟨j,b,hF⟩:=bindb hF
 replace b:=someb b
 obtain⟨k,c,hF⟩:=bindb hF
 replace c:=someb c
 obtain⟨l,i,hF⟩:=bindb hF
 refine AWP.to [(2,(vb l))] [.cells (Zj a)] ?_ ?_
 ·cases j with
  | false=>
   subst c
   have m:=someb (ifF i rfl)
   subst m
   exact AWP.drT [(2,.call Tryd.func56 [] (Zdq a.Match f g)),(3,.bool b)] 19 [] [] []
  | true=>
   cases k with
   | false=>
    have n:=someb (ifF i rfl)
    subst n
    exact AWP.drT [(2,.call Tryd.func56 [] (Zdq a.Match f g)),(3,.bool b),(12,.bool c)] 19 [] [] []
   | true=>
    have d:=ifT i rfl
    obtain⟨o,p,d⟩:=bindb d
    replace d:=someb d
    subst d
    exact AWP.drT [(2,.call Tryd.func56 [] (Zdq a.Match f g)),(3,.bool b),(12,.bool c),(16,.call Tryd.func57 [] (Zmh (3:Int) o p))] 19 [] [] []
 refine AWP.ret ?_
 have hr:=someb hF
 subst hr
 exact(FnQ.f0 0 (.inr rfl))
def Zdd (r:Bool):PV→List Blk→Prop:=fun p K=>p=(vb r)∧K=[]
abbrev Zfl (r:Bool):Exit→St→List Blk→Prop:=FnQ Tryd.prog Tryd.f28.results 0 (Zdd r)
theorem Zfm (a:(List Zl)) (r:Bool) (hF:Za4 a=some r):ACall Tryd.prog glob 28 [(slc 13 Zj a)] [] (Zdd r):=by
 refine ACall.body Tryd.func28 rfl (by kernel_rfl) ?_
 unfold Za4 at hF
 refine AWP.seq (AWP.rg0 [] [(0,(slc 13 Zj a))] (AWP.seq (AWP.seq (AWP.rg0 [(1,.len Zj a)] [(0,(slc 13 Zj a)),(5,(slc 13 Zj a)),(6,(i64 (List.length a:Int))),(7,(i64 (0:Int)))] ?_))))
 obtain⟨c,i,hF⟩:=bindb hF
 refine AWP.mid (fun e st H=>(e=.normal∧c=(.inl ())∧st=[(0,(slc 13 Zj a))]∧H=[])∨(e=.ret∧∃ r,c=(.inr r)∧Zfl r e st H)) ?_ ?_
 ·clear hF
  refine AWP.kp [0,5,6,7] 0 ?_
  refine AWP.bround (fun n st H=>∃ b,Zaa a n b=some c∧st=[(0,(slc 13 Zj a)),(5,(slc 13 Zj a)),(6,(i64 (List.length a:Int))),(7,(i64 b))]∧H=[]) fuel ⟨(0:Int),i,by kernel_rfl,by kernel_rfl⟩ ?_
  rintro d st H ⟨b,hF,rfl,rfl⟩
  cases d with
  | zero=>exact noneb hF
  | succ d=>
   rw [Zaa] at hF
   refine AWP.seq (AWP.rg0 [] [(0,(slc 13 Zj a)),(5,(slc 13 Zj a)),(6,(i64 (List.length a:Int))),(7,(i64 b)),(8,(vb (decide (b<(List.length a:Int)))))] (AWP.seq ?_))
   refine AWP.cif hF (fun j hF=>?_) (fun j hF=>?_)
   ·refine AWP.skip (AWP.seq (AWP.block (AWP.seq ?_)))
    obtain⟨f,k,hF⟩:=bindb hF
    refine AWP.rg [(0,.idx Zj k)] [(0,(slc 13 Zj a)),(4,(.ptr 0 0)),(5,(slc 13 Zj a)),(6,(i64 (List.length a:Int))),(7,(i64 b))] [.cells (Zj f)] (AWP.seq ?_)
    obtain⟨g,l,hF⟩:=bindb hF
    refine AWP.rg0 [(1,.call Tryd.func44 [] (Zbd f g l))] [(0,(slc 13 Zj a)),(5,(slc 13 Zj a)),(6,(i64 (List.length a:Int))),(7,(i64 b)),(13,(vb (!g)))] ?_
    refine AWP.cif hF (fun m hF=>?_) (fun m hF=>?_)
    ·refine AWP.seq (AWP.rg0 [] [(2,(vb false))] (AWP.ret ?_))
     exact LeQ.of (.inr ⟨rfl,false,(someb hF).symm,(FnQ.f0 0 (.inr rfl))⟩)
    ·refine AWP.skip (AWP.rg0 [] [(0,(slc 13 Zj a)),(5,(slc 13 Zj a)),(6,(i64 (List.length a:Int))),(7,(i64 (ZI (b + (1:Int)))))] (LeQ.start (LeQ.pk [0,5,6,7] 0 ?_)))
     exact⟨d,Nat.lt_succ_self _,(ZI (b + (1:Int))),hF,by kernel_rfl,by kernel_rfl⟩
   ·refine AWP.exit (LeQ.start (LeQ.pk [0] 0 ?_))
    exact(.inl ⟨rfl,(someb hF).symm,by kernel_rfl,by kernel_rfl⟩)
 ·rintro _ _ _ (⟨rfl,rfl,rfl,rfl⟩ | ⟨rfl,o,rfl,hq⟩)
  ·refine AWP.seq (AWP.rg0 [(1,.len Zj a)] [(2,(vb (decide ((List.length a:Int)≤(256:Int)))))] (AWP.ret ?_))
   have hr:=someb hF
   subst hr
   exact(FnQ.f0 0 (.inr rfl))
  ·have hr:=someb hF
   subst hr
   exact hq
def Zd4 (r:Bool):PV→List Blk→Prop:=fun p K=>p=(vb r)∧K=[]
theorem Zd5 (a:Zb) (r:Bool) (hF:Zay a=some r):ACall Tryd.prog glob 30 [(Zal a)] [] (Zd4 r):=by
 refine ACall.body Tryd.func30 rfl (by kernel_rfl) ?_
 unfold Zay at hF
 refine AWP.seq (AWP.rg [] [(1,(.ptr 0 0))] [.cells (Zf a)] (AWP.seq (AWP.rg0 [] [(2,(vb (a.To != (-1:Int))))] (AWP.ret ?_))))
 have hr:=someb hF
 subst hr
 exact(FnQ.f0 0 (.inr rfl))
def Zce (a:Int) (b:(List (Za × Zb))) (r:(Zb × Int)):PV→List Blk→Prop:=fun p K=>p=(.tup [(Zal r.1),(i64 r.2)])∧K=[.fm (List.map (entF Zg Zd) b),.cells [(i64 a),(.mp 0)]]
theorem Zcf (c:Int) (a:(List (Za × Zb))) (b:Za) (i:Bool) (r:(Zb × Int)) (hF:Z1 c a b i=some r):ACall Tryd.prog glob 29 [(.ptr 1 0),(Zv b),(vb i),(.sc (.func (.func 30) #[] #[]))] [.fm (List.map (entF Zg Zd) a),.cells [(i64 c),(.mp 0)]] (Zce c a r):=by
 refine ACall.body Tryd.func29 rfl (by kernel_rfl) ?_
 unfold Z1 at hF
 refine AWP.seq (AWP.rg [] [(0,(.ptr 1 0)),(2,(vb i)),(3,(.sc (.func (.func 30) #[] #[]))),(5,(.ptr 2 0)),(8,(.ptr 3 0))] [.fm (List.map (entF Zg Zd) a),.cells [(i64 c),(.mp 0)],.cells (Zc b),.cells (Zf Zp)] (AWP.seq (AWP.dr [(5,.lookM Za2 Zd Zp a b)] 11 [] [9,10] [] [(0,(.ptr 1 0)),(2,(vb i)),(3,(.sc (.func (.func 30) #[] #[]))),(5,(.ptr 2 0)),(8,(.ptr 3 0)),(10,(.ptr 4 0)),(11,(vb (mget Zi a b).isSome))] [.fm (List.map (entF Zg Zd) a),.cells [(i64 c),(.mp 0)],.cells (Zc b),.cells (Zf Zp),.cells (Zf ((mget Zi a b).getD Zp))] (AWP.seq (AWP.block (AWP.seq ?_))))))
 obtain⟨m,f,hF⟩:=bindb hF
 replace f:=someb f
 obtain⟨n,k,hF⟩:=bindb hF
 refine AWP.to [(0,(.ptr 1 0)),(5,(.ptr 2 0)),(8,(.ptr 3 0)),(10,(.ptr 4 0)),(11,(vb (mget Zi a b).isSome)),(21,(vb n))] [.fm (List.map (entF Zg Zd) a),.cells [(i64 c),(.mp 0)],.cells (Zc b),.cells (Zf Zp),.cells (Zf ((mget Zi a b).getD Zp))] ?_ ?_
 ·cases m with
  | false=>
   have o:=someb (ifF k rfl)
   subst o
   exact AWP.rgT [(2,.bool f)]
  | true=>
   have d:=ifT k rfl
   obtain⟨p,j,d⟩:=bindb d
   replace j:=someb j
   obtain⟨x,l,d⟩:=bindb d
   replace d:=someb d
   subst d
   cases p with
   | false=>
    have g:=ifF l rfl
    obtain⟨q,s,g⟩:=bindb g
    replace g:=someb g
    subst g
    exact AWP.rgT [(2,.bool f),(5,.bool j),(8,.call Tryd.func30 [] (Zd5 ((mget Zi a b).getD Zp) q s))]
   | true=>
    have t:=someb (ifT l rfl)
    subst t
    exact AWP.rgT [(2,.bool f),(5,.bool j)]
 refine AWP.cif hF (fun u hF=>?_) (fun u hF=>?_)
 ·refine AWP.seq (AWP.rg [] [(8,(.ptr 3 0)),(9,(i64 (16:Int)))] [.fm (List.map (entF Zg Zd) a),.cells [(i64 c),(.mp 0)],.cells (Zc b),.cells (Zf (Zb.mk Zk Zk Zk (0:Int) (0:Int) false ByteArray.empty (0:Int) (0:Int))),.cells (Zf ((mget Zi a b).getD Zp))] (AWP.ret ?_))
  have hr:=someb hF
  subst hr
  exact(FnQ.f0 2 (.inr rfl))
 ·refine AWP.seq (AWP.rg0 [] [(0,(.ptr 1 0)),(5,(.ptr 2 0)),(8,(.ptr 3 0)),(10,(.ptr 4 0)),(35,(vb (mget Zi a b).isSome))] ?_)
  refine AWP.cif hF (fun v hF=>?_) (fun v hF=>?_)
  ·refine AWP.seq (AWP.rg [] [(8,(.ptr 3 0)),(9,(i64 (0:Int)))] [.fm (List.map (entF Zg Zd) a),.cells [(i64 c),(.mp 0)],.cells (Zc b),.cells (Zf ((mget Zi a b).getD Zp)),.cells (Zf ((mget Zi a b).getD Zp))] (AWP.ret ?_))
   have hr:=someb hF
   subst hr
   exact(FnQ.f0 2 (.inr rfl))
  ·refine AWP.seq (AWP.dr [(4,.lenM Zg Zd a)] 11 [] [] [] [(5,(.ptr 2 0)),(8,(.ptr 3 0)),(38,(vb (decide ((List.length a:Int) ≥ c))))] [.fm (List.map (entF Zg Zd) a),.cells [(i64 c),(.mp 0)],.cells (Zc b),.cells (Zf Zp),.cells (Zf ((mget Zi a b).getD Zp))] ?_)
   refine AWP.cif hF (fun w hF=>?_) (fun w hF=>?_)
   ·refine AWP.seq (AWP.rg [] [(8,(.ptr 3 0)),(9,(i64 (9:Int)))] [.fm (List.map (entF Zg Zd) a),.cells [(i64 c),(.mp 0)],.cells (Zc b),.cells (Zf (Zb.mk Zk Zk Zk (0:Int) (0:Int) false ByteArray.empty (0:Int) (0:Int))),.cells (Zf ((mget Zi a b).getD Zp))] (AWP.ret ?_))
    have hr:=someb hF
    subst hr
    exact(FnQ.f0 2 (.inr rfl))
   ·refine AWP.skip (AWP.seq (AWP.rg [] [(8,(.ptr 3 0)),(9,(i64 (0:Int)))] [.fm (List.map (entF Zg Zd) a),.cells [(i64 c),(.mp 0)],.cells (Zc b),.cells (Zf (Zb.mk b Zk Zk (-1:Int) (-1:Int) false ByteArray.empty (1:Int) (0:Int))),.cells (Zf ((mget Zi a b).getD Zp))] (AWP.ret ?_)))
    have hr:=someb hF
    subst hr
    exact(FnQ.f0 2 (.inr rfl))
def Zkf (r:(Arr5 Int)):PV→List Blk→Prop:=fun p K=>p=(Zau r)∧K=[]
theorem Zgl (a:Za) (r:(Arr5 Int)) (hF:Zcr a=some r):ACall Tryd.prog glob 62 [(Zv a)] [] (Zkf r):=by
 refine ACall.body Tryd.func62 rfl (by kernel_rfl) ?_
 unfold Zcr at hF
 refine AWP.seq (AWP.rg [] [(1,(.ptr 0 0)),(2,(.ptr 1 0))] [.cells (Zc a),.cells (Zak Zka)] (AWP.seq (AWP.rg [] [(2,(.ptr 1 0))] [.cells (Zc a),.cells (Zak (Arr5.mk a.Src a.Dst (IntKind.wrap .u32 a.Proto) (IntKind.wrap .u32 a.SrcPort) (IntKind.wrap .u32 a.DstPort)))] (AWP.ret ?_))))
 have hr:=someb hF
 subst hr
 exact(FnQ.f0 0 (.inr rfl))
def Ze4 (r:Bool):PV→List Blk→Prop:=fun p K=>p=(vb r)∧K=[]
abbrev Ziz (r:Bool):Exit→St→List Blk→Prop:=FnQ Tryd.prog Tryd.f47.results 0 (Ze4 r)
theorem Zcy (a:ZB) (d:Za) (r:Bool) (hF:Zbe a d=some r):ACall Tryd.prog glob 47 [(Zx a),(Zv d)] [] (Ze4 r):=by
 refine ACall.body Tryd.func47 rfl (by kernel_rfl) ?_
 unfold Zbe at hF
 refine AWP.seq (AWP.rg [] [(2,(.ptr 0 0)),(3,(.ptr 1 0))] [.cells (Ze a),.cells (Zc d)] (AWP.seq (AWP.seq ?_)))
 obtain⟨l,p,hF⟩:=bindb hF
 refine AWP.rg0 [(1,.call Tryd.func56 [] (Zdq a l p))] [(2,(.ptr 0 0)),(3,(.ptr 1 0)),(9,(vb (!l)))] ?_
 refine AWP.cif hF (fun q hF=>?_) (fun q hF=>?_)
 ·refine AWP.seq (AWP.rg0 [] [(4,(vb false))] (AWP.ret ?_))
  have hr:=someb hF
  subst hr
  exact(FnQ.f0 0 (.inr rfl))
 ·refine AWP.skip (AWP.seq (AWP.seq ?_))
  obtain⟨c,s,hF⟩:=bindb hF
  refine AWP.rg0 [(1,.call Tryd.func62 [] (Zgl d c s))] [(2,(.ptr 0 0)),(11,(Zau c)),(12,(i64 (0:Int)))] ?_
  obtain⟨j,t,hF⟩:=bindb hF
  refine AWP.mid (fun e st H=>(e=.normal∧j=(.inl ())∧st=[]∧H=[.cells (Ze a),.cells (Zc d)])∨(e=.ret∧∃ r,j=(.inr r)∧Ziz r e st H)) ?_ ?_
  ·clear hF
   refine AWP.kp [2,11,12] 2 ?_
   refine AWP.bround (fun n st H=>∃ b,Zam a c n b=some j∧st=[(2,(.ptr 0 0)),(11,(Zau c)),(12,(i64 b))]∧H=[.cells (Ze a),.cells (Zc d)]) fuel ⟨(0:Int),t,by kernel_rfl,by kernel_rfl⟩ ?_
   rintro k st H ⟨b,hF,rfl,rfl⟩
   cases k with
   | zero=>exact noneb hF
   | succ k=>
    rw [Zam] at hF
    refine AWP.seq (AWP.rg0 [] [(2,(.ptr 0 0)),(11,(Zau c)),(12,(i64 b)),(13,(vb (decide (b<(5:Int)))))] (AWP.seq ?_))
    refine AWP.cif hF (fun u hF=>?_) (fun u hF=>?_)
    ·refine AWP.skip (AWP.seq (AWP.block (AWP.seq ?_)))
     obtain⟨v,hF⟩:=chkb hF
     refine AWP.rg0 [(1,.ixA Zcu (Arr5.get c) v)] [(2,(.ptr 0 0)),(5,(i64 b)),(6,(u32 (Arr5.get c b))),(11,(Zau c)),(12,(i64 b))] (AWP.seq ?_)
     obtain⟨g,hF⟩:=chkb hF
     obtain⟨w,i,hF⟩:=bindb hF
     replace i:=someb i
     obtain⟨x,m,hF⟩:=bindb hF
     refine AWP.to [(2,(.ptr 0 0)),(11,(Zau c)),(12,(i64 b)),(29,(vb x))] [.cells (Ze a),.cells (Zc d)] ?_ ?_
     ·cases w with
      | false=>
       have f:=ifF m rfl
       obtain⟨o,f⟩:=chkb f
       replace f:=someb f
       subst f
       exact AWP.rgT [(2,.ixd g),(4,.ldA Z8 (Arr5.get a) 0 2 0 g),(6,.bool i),(9,.ixd o),(11,.ldA Z8 (Arr5.get a) 0 2 1 o)]
      | true=>
       have y:=someb (ifT m rfl)
       subst y
       exact AWP.rgT [(2,.ixd g),(4,.ldA Z8 (Arr5.get a) 0 2 0 g),(6,.bool i)]
     refine AWP.cif hF (fun z hF=>?_) (fun z hF=>?_)
     ·refine AWP.seq (AWP.rg0 [] [(4,(vb false))] (AWP.ret ?_))
      exact LeQ.of (.inr ⟨rfl,false,(someb hF).symm,(FnQ.f0 0 (.inr rfl))⟩)
     ·refine AWP.skip (AWP.rg0 [] [(2,(.ptr 0 0)),(11,(Zau c)),(12,(i64 (ZI (b + (1:Int)))))] (LeQ.start (LeQ.pk [2,11,12] 2 ?_)))
      exact⟨k,Nat.lt_succ_self _,(ZI (b + (1:Int))),hF,by kernel_rfl,by kernel_rfl⟩
    ·refine AWP.exit (LeQ.start (LeQ.pk [] 2 ?_))
     exact(.inl ⟨rfl,(someb hF).symm,by kernel_rfl,by kernel_rfl⟩)
  ·rintro _ _ _ (⟨rfl,rfl,rfl,rfl⟩ | ⟨rfl,a0,rfl,hq⟩)
   ·refine AWP.seq (AWP.rg0 [] [(4,(vb true))] (AWP.ret ?_))
    have hr:=someb hF
    subst hr
    exact(FnQ.f0 0 (.inr rfl))
   ·have hr:=someb hF
    subst hr
    exact hq
def Ze5 (a:Za) (r:Bool):PV→List Blk→Prop:=fun p K=>p=(vb r)∧K=[.cells (Zc a)]
theorem Ze6 (a:Zl) (b:Za) (r:Bool) (hF:Zaz a b=some r):ACall Tryd.prog glob 59 [(Zcn a),(.ptr 0 0)] [.cells (Zc b)] (Ze5 b r):=by
 refine ACall.body Tryd.func59 rfl (by kernel_rfl) ?_
 unfold Zaz at hF
 refine AWP.seq (AWP.rg [] [(1,(.ptr 0 0)),(2,(.ptr 1 0))] [.cells (Zc b),.cells (Zj a)] (AWP.seq ?_))
 obtain⟨f,g,hF⟩:=bindb hF
 obtain⟨j,d,hF⟩:=bindb hF
 replace d:=someb d
 obtain⟨k,i,hF⟩:=bindb hF
 refine AWP.to [(3,(vb k))] [.cells (Zc b),.cells (Zj a)] ?_ ?_
 ·cases j with
  | false=>
   have l:=someb (ifF i rfl)
   subst l
   exact AWP.rgT [(1,.call Tryd.func44 [] (Zbd a f g)),(2,.bool d)]
  | true=>
   have c:=ifT i rfl
   obtain⟨m,n,c⟩:=bindb c
   replace c:=someb c
   subst c
   exact AWP.rgT [(1,.call Tryd.func44 [] (Zbd a f g)),(2,.bool d),(6,.call Tryd.func47 [] (Zcy a.Match b m n))]
 refine AWP.ret ?_
 have hr:=someb hF
 subst hr
 exact(FnQ.f0 1 (.inr rfl))
def Zan (a:Za) (r:Int):PV→List Blk→Prop:=fun p K=>p=(i64 r)∧K=[.cells (Zc a)]
abbrev Zbo (a:Za) (r:Int):Exit→St→List Blk→Prop:=FnQ Tryd.prog Tryd.f58.results 1 (Zan a r)
theorem Zbp (a:(List Zl)) (c:Za) (r:Int) (hF:Zz a c=some r):ACall Tryd.prog glob 58 [(slc 13 Zj a),(.fn 59 [(.ptr 0 0)])] [.cells (Zc c)] (Zan c r):=by
 refine ACall.body Tryd.func58 rfl (by kernel_rfl) ?_
 unfold Zz at hF
 refine AWP.seq (AWP.rg0 [] [(0,(slc 13 Zj a)),(1,(.fn 59 [(.ptr 0 0)]))] (AWP.seq (AWP.seq (AWP.rg0 [(1,.len Zj a)] [(0,(slc 13 Zj a)),(1,(.fn 59 [(.ptr 0 0)])),(7,(i64 (List.length a:Int))),(8,(i64 (0:Int)))] ?_))))
 obtain⟨d,i,hF⟩:=bindb hF
 refine AWP.mid (fun e st H=>(e=.normal∧d=(.inl ())∧st=[]∧H=[.cells (Zc c)])∨(e=.ret∧∃ r,d=(.inr r)∧Zbo c r e st H)) ?_ ?_
 ·clear hF
  refine AWP.kp [0,1,7,8] 1 ?_
  refine AWP.bround (fun n st H=>∃ b,Zq a c n b=some d∧st=[(0,(slc 13 Zj a)),(1,(.fn 59 [(.ptr 0 0)])),(7,(i64 (List.length a:Int))),(8,(i64 b))]∧H=[.cells (Zc c)]) fuel ⟨(0:Int),i,by kernel_rfl,by kernel_rfl⟩ ?_
  rintro f st H ⟨b,hF,rfl,rfl⟩
  cases f with
  | zero=>exact noneb hF
  | succ f=>
   rw [Zq] at hF
   refine AWP.seq (AWP.rg0 [] [(0,(slc 13 Zj a)),(1,(.fn 59 [(.ptr 0 0)])),(7,(i64 (List.length a:Int))),(8,(i64 b)),(9,(vb (decide (b<(List.length a:Int)))))] (AWP.seq ?_))
   refine AWP.cif hF (fun j hF=>?_) (fun j hF=>?_)
   ·refine AWP.skip (AWP.seq (AWP.block (AWP.seq (AWP.rg0 [] [(0,(slc 13 Zj a)),(1,(.fn 59 [(.ptr 0 0)])),(5,(i64 b)),(7,(i64 (List.length a:Int))),(8,(i64 b))] (AWP.seq ?_)))))
    obtain⟨k,l,hF⟩:=bindb hF
    obtain⟨g,m,hF⟩:=bindb hF
    refine AWP.rg0 [(3,.idx Zj l),(5,.callF Tryd.func59 [] (Ze6 k c g m))] [(0,(slc 13 Zj a)),(1,(.fn 59 [(.ptr 0 0)])),(5,(i64 b)),(7,(i64 (List.length a:Int))),(8,(i64 b)),(16,(vb g))] ?_
    refine AWP.cif hF (fun o hF=>?_) (fun o hF=>?_)
    ·refine AWP.seq (AWP.rg0 [] [(4,(i64 b))] (AWP.ret ?_))
     exact LeQ.of (.inr ⟨rfl,b,(someb hF).symm,(FnQ.f0 1 (.inr rfl))⟩)
    ·refine AWP.skip (AWP.rg0 [] [(0,(slc 13 Zj a)),(1,(.fn 59 [(.ptr 0 0)])),(7,(i64 (List.length a:Int))),(8,(i64 (ZI (b + (1:Int)))))] (LeQ.start (LeQ.pk [0,1,7,8] 1 ?_)))
     exact⟨f,Nat.lt_succ_self _,(ZI (b + (1:Int))),hF,by kernel_rfl,by kernel_rfl⟩
   ·refine AWP.exit (LeQ.start (LeQ.pk [] 1 ?_))
    exact(.inl ⟨rfl,(someb hF).symm,by kernel_rfl,by kernel_rfl⟩)
 ·rintro _ _ _ (⟨rfl,rfl,rfl,rfl⟩ | ⟨rfl,p,rfl,hq⟩)
  ·refine AWP.seq (AWP.rg0 [] [(4,(i64 (-1:Int)))] (AWP.ret ?_))
   have hr:=someb hF
   subst hr
   exact(FnQ.f0 1 (.inr rfl))
  ·have hr:=someb hF
   subst hr
   exact hq
def Zf2 (r:Int):PV→List Blk→Prop:=fun p K=>p=(i64 r)∧K=[]
theorem Zdg (a:(List Zl)) (b:Za) (r:Int) (hF:Zav a b=some r):ACall Tryd.prog glob 45 [(slc 13 Zj a),(Zv b)] [] (Zf2 r):=by
 refine ACall.body Tryd.func45 rfl (by kernel_rfl) ?_
 unfold Zav at hF
 refine AWP.seq (AWP.rg [] [(0,(slc 13 Zj a)),(3,(.ptr 0 0))] [.cells (Zc b)] (AWP.seq ?_))
 obtain⟨c,d,hF⟩:=bindb hF
 refine AWP.rg0 [(1,.q),(2,.call Tryd.func58 [] (Zbp a b c d))] [(4,(i64 c))] (AWP.ret ?_)
 have hr:=someb hF
 subst hr
 exact(FnQ.f0 0 (.inr rfl))
def Zmz (r:ZB):PV→List Blk→Prop:=fun p K=>p=(Zx r)∧K=[]
theorem Zkg (c:Za) (r:ZB) (hF:Zdo c=some r):ACall Tryd.prog glob 60 [(Zv c)] [] (Zmz r):=by
 refine ACall.body Tryd.func60 rfl (by kernel_rfl) ?_
 unfold Zdo at hF
 refine AWP.seq (AWP.rg [] [(1,(.ptr 0 0)),(2,(.ptr 1 0))] [.cells (Zc c),.cells (Ze Zm)] (AWP.seq (AWP.rg [] [(1,(.ptr 0 0)),(2,(.ptr 1 0)),(3,(.ptr 2 0))] [.cells (Zc c),.cells (Ze Zm),.cells (Ze Zm)] (AWP.seq (AWP.seq ?_)))))
 obtain⟨b,j,hF⟩:=bindb hF
 refine AWP.rg0 [(1,.call Tryd.func62 [] (Zgl c b j))] [(2,(.ptr 1 0)),(3,(.ptr 2 0)),(7,(Zau b)),(8,(i64 (0:Int)))] ?_
 obtain⟨f,k,hF⟩:=bindb hF
 refine AWP.mid (fun e st H=>e=.normal∧st=[(2,(.ptr 1 0)),(3,(.ptr 2 0))]∧H=[.cells (Zc c),.cells (Ze Zm),.cells (Ze f)]) ?_ ?_
 ·clear hF
  refine AWP.kp [2,3,7,8] 3 ?_
  refine AWP.bround (fun n st H=>∃ d,∃ a,Zb5 b n d a=some f∧st=[(2,(.ptr 1 0)),(3,(.ptr 2 0)),(7,(Zau b)),(8,(i64 a))]∧H=[.cells (Zc c),.cells (Ze Zm),.cells (Ze d)]) fuel ⟨Zm,(0:Int),k,by kernel_rfl,by kernel_rfl⟩ ?_
  rintro g st H ⟨d,a,hF,rfl,rfl⟩
  cases g with
  | zero=>exact noneb hF
  | succ g=>
   rw [Zb5] at hF
   refine AWP.seq (AWP.rg0 [] [(2,(.ptr 1 0)),(3,(.ptr 2 0)),(7,(Zau b)),(8,(i64 a)),(9,(vb (decide (a<(5:Int)))))] (AWP.seq ?_))
   refine AWP.cif hF (fun l hF=>?_) (fun l hF=>?_)
   ·refine AWP.skip (AWP.seq (AWP.block (AWP.seq ?_)))
    obtain⟨m,hF⟩:=chkb hF
    refine AWP.rg0 [(1,.ixA Zcu (Arr5.get b) m)] [(2,(.ptr 1 0)),(3,(.ptr 2 0)),(4,(i64 a)),(5,(u32 (Arr5.get b a))),(7,(Zau b)),(8,(i64 a))] ?_
    obtain⟨i,hF⟩:=chkb hF
    refine AWP.rg [(4,.ixd i),(5,.stA (fun o=>Ze (Arr5.set d o (Zh.mk (Arr5.get b a) (Arr5.get b a)))) 0 2 0 i)] [(2,(.ptr 1 0)),(3,(.ptr 2 0)),(7,(Zau b)),(8,(i64 a))] [.cells (Zc c),.cells (Ze Zm),.cells (Ze (Arr5.set d a (Zh.mk (Arr5.get b a) (Arr5.get b a))))] (AWP.rg0 [] [(2,(.ptr 1 0)),(3,(.ptr 2 0)),(7,(Zau b)),(8,(i64 (ZI (a + (1:Int)))))] (LeQ.start (LeQ.pk [2,3,7,8] 3 ?_)))
    exact⟨g,Nat.lt_succ_self _,(Arr5.set d a (Zh.mk (Arr5.get b a) (Arr5.get b a))),(ZI (a + (1:Int))),hF,by kernel_rfl,by kernel_rfl⟩
   ·refine AWP.exit (LeQ.start (LeQ.pk [2,3] 3 ?_))
    have hr:=someb hF
    subst hr
    exact⟨rfl,by kernel_rfl,by kernel_rfl⟩
 ·rintro _ _ _ ⟨rfl,rfl,rfl⟩
  refine AWP.seq (AWP.rg [] [(2,(.ptr 1 0))] [.cells (Zc c),.cells (Ze f),.cells (Ze f)] (AWP.ret ?_))
  have hr:=someb hF
  subst hr
  exact(FnQ.f0 0 (.inr rfl))
def Zhp (r:ZB):PV→List Blk→Prop:=fun p K=>p=(Zx r)∧K=[]
theorem Zhq (a:Zl) (b:Za) (r:ZB) (hF:Zbx a b=some r):ACall Tryd.prog glob 61 [(Zcn a),(Zv b)] [] (Zhp r):=by
 refine ACall.body Tryd.func61 rfl (by kernel_rfl) ?_
 unfold Zbx at hF
 refine AWP.seq (AWP.rg [] [(2,(.ptr 0 0)),(3,(.ptr 1 0)),(4,(.ptr 2 0))] [.cells (Zj a),.cells (Zc b),.cells (Ze Zm)] (AWP.seq ?_))
 obtain⟨c,l,hF⟩:=bindb hF
 refine AWP.rg [(1,.call Tryd.func60 [] (Zkg b c l))] [(2,(.ptr 0 0)),(3,(.ptr 1 0)),(4,(.ptr 2 0)),(5,(.ptr 3 0))] [.cells (Zj a),.cells (Zc b),.cells (Ze Zm),.cells (Ze c)] ?_
 obtain⟨g,m,hF⟩:=bindb hF
 refine AWP.seq ?_
 refine AWP.mid (fun e st H=>e=.normal∧st=[(4,(.ptr 2 0)),(5,(.ptr 3 0))]∧H=[.cells (Zj a),.cells (Zc b),.cells (Ze Zm),.cells (Ze g)]) ?_ ?_
 ·clear hF
  have hF:=m
  refine AWP.seq ?_
  obtain⟨i,j,hF⟩:=bindb hF
  obtain⟨n,f,hF⟩:=bindb hF
  replace f:=someb f
  obtain⟨o,k,hF⟩:=bindb hF
  refine AWP.to [(2,(.ptr 0 0)),(4,(.ptr 2 0)),(5,(.ptr 3 0)),(15,(vb o))] [.cells (Zj a),.cells (Zc b),.cells (Ze Zm),.cells (Ze c)] ?_ ?_
  ·cases n with
   | false=>
    have p:=someb (ifF k rfl)
    subst p
    exact AWP.rgT [(1,.call Tryd.func44 [] (Zbd a i j)),(2,.bool f)]
   | true=>
    have d:=ifT k rfl
    obtain⟨q,s,d⟩:=bindb d
    replace d:=someb d
    subst d
    exact AWP.rgT [(1,.call Tryd.func44 [] (Zbd a i j)),(2,.bool f),(6,.call Tryd.func47 [] (Zcy a.Match b q s))]
  refine AWP.cif hF (fun t hF=>?_) (fun t hF=>?_)
  ·refine AWP.seq (AWP.rg [] [(2,(.ptr 0 0)),(4,(.ptr 2 0)),(5,(.ptr 3 0))] [.cells (Zj a),.cells (Zc b),.cells (Ze Zm),.cells (Ze ({ c with x0:=(Zh.mk a.Addr a.Addr) }:ZB))] (AWP.rg [] [(4,(.ptr 2 0)),(5,(.ptr 3 0))] [.cells (Zj a),.cells (Zc b),.cells (Ze Zm),.cells (Ze ({ ({ c with x0:=(Zh.mk a.Addr a.Addr) }:ZB) with x3:=a.Ports }:ZB))] (LeQ.start (LeQ.pk [4,5] 4 ?_))))
   have hr:=someb hF
   subst hr
   exact⟨rfl,by kernel_rfl,by kernel_rfl⟩
  ·refine AWP.skip (LeQ.start (LeQ.pk [4,5] 4 ?_))
   have hr:=someb hF
   subst hr
   exact⟨rfl,by kernel_rfl,by kernel_rfl⟩
 ·rintro _ _ _ ⟨rfl,rfl,rfl⟩
  refine AWP.seq (AWP.rg [] [(4,(.ptr 2 0))] [.cells (Zj a),.cells (Zc b),.cells (Ze g),.cells (Ze g)] (AWP.ret ?_))
  have hr:=someb hF
  subst hr
  exact(FnQ.f0 0 (.inr rfl))
def Zey (r:ZB):PV→List Blk→Prop:=fun p K=>p=(Zx r)∧K=[]
theorem Zez (b:(List Zl)) (a:Za) (r:ZB) (hF:Zaw b a=some r):ACall Tryd.prog glob 46 [(slc 13 Zj b),(Zv a)] [] (Zey r):=by
 refine ACall.body Tryd.func46 rfl (by kernel_rfl) ?_
 unfold Zaw at hF
 refine AWP.seq (AWP.rg [] [(0,(slc 13 Zj b)),(3,(.ptr 0 0)),(4,(.ptr 1 0))] [.cells (Zc a),.cells (Ze Zm)] (AWP.seq ?_))
 obtain⟨c,i,hF⟩:=bindb hF
 refine AWP.rg0 [(2,.call Tryd.func45 [] (Zdg b a c i))] [(0,(slc 13 Zj b)),(3,(.ptr 0 0)),(4,(.ptr 1 0)),(5,(i64 c))] (AWP.seq (AWP.seq (AWP.rg0 [] [(0,(slc 13 Zj b)),(3,(.ptr 0 0)),(4,(.ptr 1 0)),(5,(i64 c)),(11,(vb (decide (c<(0:Int)))))] ?_)))
 refine AWP.cif hF (fun j hF=>?_) (fun j hF=>?_)
 ·refine AWP.seq ?_
  obtain⟨g,k,hF⟩:=bindb hF
  refine AWP.rg [(1,.call Tryd.func60 [] (Zkg a g k))] [(4,(.ptr 1 0))] [.cells (Zc a),.cells (Ze g)] (AWP.ret ?_)
  have hr:=someb hF
  subst hr
  exact(FnQ.f0 0 (.inr rfl))
 ·refine AWP.skip (AWP.seq ?_)
  obtain⟨l,m,hF⟩:=bindb hF
  obtain⟨d,n,hF⟩:=bindb hF
  refine AWP.dr [(2,.idx Zj m),(5,.call Tryd.func61 [] (Zhq l a d n))] 7 [] [6] [] [(3,(.ptr 0 0)),(4,(.ptr 1 0)),(6,(.ptr 2 0))] [.cells (Zc a),.cells (Ze Zm),.cells (Ze d)] ?_
  obtain⟨f,o,hF⟩:=bindb hF
  refine AWP.seq ?_
  refine AWP.mid (fun e st H=>e=.normal∧st=[(4,(.ptr 1 0)),(6,(.ptr 2 0))]∧H=[.cells (Zc a),.cells (Ze Zm),.cells (Ze f)]) ?_ ?_
  ·clear hF
   have hF:=o
   refine AWP.seq (AWP.rg0 [] [(4,(.ptr 1 0)),(6,(.ptr 2 0)),(21,(u8 a.Proto))] (AWP.block ?_))
   obtain⟨p,q,hF⟩:=bindb hF
   refine AWP.seq ?_
   refine AWP.mid (fun e st H=>e=.normal∧st=[(4,(.ptr 1 0)),(6,(.ptr 2 0)),(24,(vb p))]∧H=[.cells (Zc a),.cells (Ze Zm),.cells (Ze d)]) ?_ ?_
   ·clear hF
    have hF:=q
    refine AWP.seq (AWP.rg0 [] [(4,(.ptr 1 0)),(6,(.ptr 2 0)),(21,(u8 a.Proto)),(24,(vb (a.Proto == (6:Int))))] ?_)
    refine AWP.cif hF (fun s hF=>?_) (fun s hF=>?_)
    ·refine AWP.skip (LeQ.start (LeQ.pk [4,6,24] 3 ?_))
     have hr:=someb hF
     subst hr
     exact⟨rfl,by kernel_rfl,by kernel_rfl⟩
    ·refine AWP.seq (AWP.rg0 [] [(4,(.ptr 1 0)),(6,(.ptr 2 0)),(21,(u8 a.Proto)),(24,(vb (a.Proto == (17:Int))))] ?_)
     refine AWP.cif hF (fun t hF=>?_) (fun t hF=>?_)
     ·refine AWP.skip (LeQ.start (LeQ.pk [4,6,24] 3 ?_))
      have hr:=someb hF
      subst hr
      exact⟨rfl,by kernel_rfl,by kernel_rfl⟩
     ·refine AWP.rg0 [] [(4,(.ptr 1 0)),(6,(.ptr 2 0)),(24,(vb (a.Proto == (1:Int))))] (LeQ.start (LeQ.pk [4,6,24] 3 ?_))
      have hr:=someb hF
      subst hr
      exact⟨rfl,by kernel_rfl,by kernel_rfl⟩
   ·rintro _ _ _ ⟨rfl,rfl,rfl⟩
    refine AWP.cif hF (fun u hF=>?_) (fun u hF=>?_)
    ·refine AWP.skip (LeQ.start (LeQ.pk [4,6] 3 ?_))
     have hr:=someb hF
     subst hr
     exact⟨rfl,by kernel_rfl,by kernel_rfl⟩
    ·refine AWP.rg [] [(4,(.ptr 1 0)),(6,(.ptr 2 0))] [.cells (Zc a),.cells (Ze Zm),.cells (Ze ({ d with x3:=(Zh.mk (0:Int) (0:Int)) }:ZB))] (LeQ.start (LeQ.pk [4,6] 3 ?_))
     have hr:=someb hF
     subst hr
     exact⟨rfl,by kernel_rfl,by kernel_rfl⟩
  ·rintro _ _ _ ⟨rfl,rfl,rfl⟩
   refine AWP.seq (AWP.rg [] [(4,(.ptr 1 0))] [.cells (Zc a),.cells (Ze f),.cells (Ze f)] (AWP.ret ?_))
   have hr:=someb hF
   subst hr
   exact(FnQ.f0 0 (.inr rfl))
def Zf3 (r:Bool):PV→List Blk→Prop:=fun p K=>p=(vb r)∧K=[]
theorem Zdh (c:Za) (f:Bool) (d:Int) (r:Bool) (hF:Za9 c f d=some r):ACall Tryd.prog glob 48 [(Zv c),(vb f),(u32 d)] [] (Zf3 r):=by
 refine ACall.body Tryd.func48 rfl (by kernel_rfl) ?_
 unfold Za9 at hF
 refine AWP.seq (AWP.rg [] [(1,(vb f)),(2,(u32 d)),(3,(.ptr 0 0))] [.cells (Zc c)] (AWP.seq ?_))
 obtain⟨i,a,hF⟩:=bindb hF
 replace a:=someb a
 obtain⟨g,b,hF⟩:=bindb hF
 replace b:=someb b
 refine AWP.to [(6,(vb (g || (d != (8:Int)))))] [.cells (Zc c)] ?_ ?_
 ·cases i with
  | false=>
   cases g with
   | false=>
    exact AWP.rgT [(2,.bool a),(7,.bool b)]
   | true=>
    exact AWP.rgT [(2,.bool a),(7,.bool b)]
  | true=>
   subst b
   exact AWP.rgT [(2,.bool a)]
 refine AWP.ret ?_
 have hr:=someb hF
 subst hr
 exact(FnQ.f0 0 (.inr rfl))
def Zcp (a:Int) (b:(List (Za × Zb))) (r:(Za × Bool)):PV→List Blk→Prop:=fun p K=>p=(.tup [(Zv r.1),(vb r.2)])∧K=[.fm (List.map (entF Zg Zd) b),.cells [(i64 a),(.mp 0)]]
abbrev Zd8 (a:Int) (b:(List (Za × Zb))) (r:(Za × Bool)):Exit→St→List Blk→Prop:=FnQ Tryd.prog Tryd.f31.results 2 (Zcp a b r)
theorem Zd9 (f:Int) (j:(List (Za × Zb))) (a:Zb) (u:Int) (s:(List Zl)) (r:(Za × Bool)) (hF:Zaq f j a u s=some r):ACall Tryd.prog glob 31 [(.ptr 1 0),(Zal a),(i64 u),(slc 13 Zj s)] [.fm (List.map (entF Zg Zd) j),.cells [(i64 f),(.mp 0)]] (Zcp f j r):=by
 refine ACall.body Tryd.func31 rfl (by kernel_rfl) ?_
 unfold Zaq at hF
 refine AWP.seq (AWP.rg [] [(0,(.ptr 1 0)),(2,(i64 u)),(3,(slc 13 Zj s)),(5,(.ptr 2 0)),(8,(.ptr 3 0))] [.fm (List.map (entF Zg Zd) j),.cells [(i64 f),(.mp 0)],.cells (Zf a),.cells (Zc Zk)] (AWP.seq ?_))
 obtain⟨g,b9,hF⟩:=bindb hF
 refine AWP.rg0 [(3,.call Tryd.func45 [] (Zdg s a.Real g b9))] [(0,(.ptr 1 0)),(2,(i64 u)),(3,(slc 13 Zj s)),(5,(.ptr 2 0)),(8,(.ptr 3 0)),(10,(vb (decide (g ≥ (0:Int)))))] (AWP.seq ?_)
 obtain⟨d,c0,hF⟩:=bindb hF
 refine AWP.rg [(3,.call Tryd.func46 [] (Zez s a.Real d c0))] [(0,(.ptr 1 0)),(2,(i64 u)),(5,(.ptr 2 0)),(8,(.ptr 3 0)),(10,(vb (decide (g ≥ (0:Int))))),(11,(.ptr 4 0))] [.fm (List.map (entF Zg Zd) j),.cells [(i64 f),(.mp 0)],.cells (Zf a),.cells (Zc Zk),.cells (Ze d)] (AWP.seq (AWP.seq ?_))
 obtain⟨c1,v,hF⟩:=bindb hF
 replace v:=someb v
 obtain⟨e6,b3,hF⟩:=bindb hF
 obtain⟨c2,w,hF⟩:=bindb hF
 replace w:=someb w
 obtain⟨c3,a8,hF⟩:=bindb hF
 refine AWP.to [(0,(.ptr 1 0)),(5,(.ptr 2 0)),(8,(.ptr 3 0)),(10,(vb (decide (g ≥ (0:Int))))),(11,(.ptr 4 0)),(45,(vb c3))] [.fm (List.map (entF Zg Zd) j),.cells [(i64 f),(.mp 0)],.cells (Zf a),.cells (Zc Zk),.cells (Ze d)] ?_ ?_
 ·cases c1 with
  | false=>
   have c4:=someb (ifF b3 rfl)
   subst c4
   subst w
   have c5:=someb (ifF a8 rfl)
   subst c5
   exact AWP.rgT [(4,.bool v)]
  | true=>
   have x:=ifT b3 rfl
   obtain⟨b4,b5,x⟩:=bindb x
   replace x:=someb x
   subst x
   cases c2 with
   | false=>
    have c6:=someb (ifF a8 rfl)
    subst c6
    exact AWP.rgT [(4,.bool v),(8,.call Tryd.func47 [] (Zcy d a.Delivered b4 b5)),(10,.bool w)]
   | true=>
    have y:=ifT a8 rfl
    obtain⟨c7,c8,y⟩:=bindb y
    replace y:=someb y
    subst y
    exact AWP.rgT [(4,.bool v),(8,.call Tryd.func47 [] (Zcy d a.Delivered b4 b5)),(10,.bool w),(18,.call Tryd.func48 [] (Zdh a.Real (decide (g ≥ (0:Int))) (IntKind.wrap .u32 a.Delivered.SrcPort) c7 c8))]
 refine AWP.cif hF (fun c9 hF=>?_) (fun c9 hF=>?_)
 ·refine AWP.seq (AWP.rg [] [(8,(.ptr 3 0)),(9,(vb true))] [.fm (List.map (entF Zg Zd) j),.cells [(i64 f),(.mp 0)],.cells (Zf a),.cells (Zc a.Delivered),.cells (Ze d)] (AWP.ret ?_))
  have hr:=someb hF
  subst hr
  exact(FnQ.f0 2 (.inr rfl))
 ·refine AWP.skip (AWP.seq (AWP.rg [(0,.mkM)] [(0,(.ptr 1 0)),(5,(.ptr 2 0)),(8,(.ptr 3 0)),(10,(vb (decide (g ≥ (0:Int))))),(11,(.ptr 4 0)),(12,(.mp 5))] [.fm (List.map (entF Zg Zd) j),.cells [(i64 f),(.mp 0)],.cells (Zf a),.cells (Zc Zk),.cells (Ze d),.fm (List.map (entF Zg Value.bool) ([]:(List (Za × Bool))))] (AWP.seq (AWP.seq ?_))))
  refine AWP.openM Zg Zd j 0 (fun b6 c d0=>?_)
  refine AWP.rg [(4,.rngE)] [(5,(.ptr 2 0)),(8,(.ptr 3 0)),(10,(vb (decide (g ≥ (0:Int))))),(11,(.ptr 4 0)),(12,(.mp 5)),(53,(.ptr 6 0))] [.map (List.map (entT Zg Zd) b6) c,.cells [(i64 f),(.mp 0)],.cells (Zf a),.cells (Zc Zk),.cells (Ze d),.fm (List.map (entF Zg Value.bool) ([]:(List (Za × Bool)))),.iter (some 0) c [] c] ?_
  have a9:=allpb hF
  clear hF
  refine AWP.kp [5,8,10,11,12,53] 7 ?_ (hfar:=(farM (farC (by kernel_rfl) (farC (by kernel_rfl) (farC (by kernel_rfl) (farC (by kernel_rfl) (farC (by kernel_rfl) (farC (by kernel_rfl) farN))))))))
  refine AWP.mid (fun e st H=>∃ a2,∃(z:Empty ⊕ (List (Za × Bool))),a2.Perm j∧mfold (Z4 a) a2 ([]:(List (Za × Bool)))=some z∧overM Zg Zd (fun(s_:(List (Za × Bool)))=>j) (fun(s_:(List (Za × Bool)))=>[(5,(.ptr 2 0)),(8,(.ptr 3 0)),(10,(vb (decide (g ≥ (0:Int))))),(11,(.ptr 4 0)),(12,(.mp 5)),(53,(.ptr 6 0))]) (fun(s_:(List (Za × Bool))) (x_ y_:Blk)=>[x_,.cells [(i64 f),(.mp 0)],.cells (Zf a),.cells (Zc Zk),.cells (Ze d),.fm (List.map (entF Zg Value.bool) s_),y_]) (fun(_:Empty) _ _ _=>False) 0 c z e st H) ?_ ?_
  ·refine AWP.rangeQ (it:=53) (t:=54) (b:=55) (i:=0) (q:=6) (cl:=c) (kv:=Zg) (vv:=Zd) (B:=Z4 a) (M:=(fun(s_:(List (Za × Bool)))=>j)) (stf:=(fun(s_:(List (Za × Bool)))=>[(5,(.ptr 2 0)),(8,(.ptr 3 0)),(10,(vb (decide (g ≥ (0:Int))))),(11,(.ptr 4 0)),(12,(.mp 5)),(53,(.ptr 6 0))])) (Hf:=(fun(s_:(List (Za × Bool))) (x_ y_:Blk)=>[x_,.cells [(i64 f),(.mp 0)],.cells (Zf a),.cells (Zc Zk),.cells (Ze d),.fm (List.map (entF Zg Value.bool) s_),y_])) (Qe:=(fun(_:Empty) _ _ _=>False)) (L:=j) (si_:=([]:(List (Za × Bool)))) (Ei_:=b6) (by kernel_rfl) (fun _=>rfl) (fun _ _ _=>rfl) (fun _ _ _=>rfl) (fun _ _ _ _=>rfl) (fun _ _ _=>rfl) (fun y_ _ _ _ _=>(by cases y_)) d0 rfl (fun l_ h_=>isb (a9 l_ h_)) rfl rfl ?_ (fun l_ o_ h1_ h2_ e st H h3_=>LeQ.of ⟨l_,o_,h1_,h2_,h3_⟩)
   rintro a3 a0 ⟨a4,o⟩ l z hF d1 b0
   rw [Z4] at hF
   show AWP _ _ _ _ _ _ [(5,(.ptr 2 0)),(8,(.ptr 3 0)),(10,(vb (decide (g ≥ (0:Int))))),(11,(.ptr 4 0)),(12,(.mp 5)),(53,(.ptr 6 0))] [.map (List.map (entT Zg Zd) a3) c,.cells [(i64 f),(.mp 0)],.cells (Zf a),.cells (Zc Zk),.cells (Ze d),.fm (List.map (entF Zg Value.bool) l),.iter (some 0) c (a0++[a4]) c]
   refine AWP.block (AWP.seq (AWP.rg [(0,.entE Zd b0 a0 d1)] [(5,(.ptr 2 0)),(8,(.ptr 3 0)),(10,(vb (decide (g ≥ (0:Int))))),(11,(.ptr 4 0)),(12,(.mp 5)),(13,(.ptr 7 0)),(14,(.ptr 8 0)),(53,(.ptr 6 0))] [.map (List.map (entT Zg Zd) a3) c,.cells [(i64 f),(.mp 0)],.cells (Zf a),.cells (Zc Zk),.cells (Ze d),.fm (List.map (entF Zg Value.bool) l),.iter (some 0) c (a0++[a4]) c,.cells (Zc o.1),.cells (Zf o.2)] (AWP.seq ?_)))
   obtain⟨b7,a5,hF⟩:=bindb hF
   replace a5:=someb a5
   refine AWP.to [(5,(.ptr 2 0)),(8,(.ptr 3 0)),(10,(vb (decide (g ≥ (0:Int))))),(11,(.ptr 4 0)),(12,(.mp 5)),(14,(.ptr 8 0)),(53,(.ptr 6 0)),(67,(vb (b7 && (o.2.To != (-1:Int)))))] [.map (List.map (entT Zg Zd) a3) c,.cells [(i64 f),(.mp 0)],.cells (Zf a),.cells (Zc Zk),.cells (Ze d),.fm (List.map (entF Zg Value.bool) l),.iter (some 0) c (a0++[a4]) c,.cells (Zc o.1),.cells (Zf o.2)] ?_ ?_
   ·cases b7 with
    | false=>
     exact AWP.rgT [(4,.bool a5)]
    | true=>
     exact AWP.rgT [(4,.bool a5)]
   refine AWP.cif hF (fun d2 hF=>?_) (fun d2 hF=>?_)
   ·refine AWP.rg [(3,.putM Za2 Value.bool l o.2.Delivered true)] [(5,(.ptr 2 0)),(8,(.ptr 3 0)),(10,(vb (decide (g ≥ (0:Int))))),(11,(.ptr 4 0)),(12,(.mp 5)),(53,(.ptr 6 0))] [.map (List.map (entT Zg Zd) a3) c,.cells [(i64 f),(.mp 0)],.cells (Zf a),.cells (Zc Zk),.cells (Ze d),.fm (List.map (entF Zg Value.bool) (mput Zi l o.2.Delivered true)),.iter (some 0) c (a0++[a4]) c,.cells (Zc o.1),.cells (Zf o.2)] (LeQ.start ?_)
    refine LeQ.pk [5,8,10,11,12,53] 7 ?_ (hfar:=(farM (farC (by kernel_rfl) (farC (by kernel_rfl) (farC (by kernel_rfl) (farC (by kernel_rfl) (farC (by kernel_rfl) (farC (by kernel_rfl) farN))))))))
    have hr:=someb hF
    subst hr
    exact roundM.mk b0 (.inl rfl)
   ·refine AWP.skip (LeQ.start ?_)
    refine LeQ.pk [5,8,10,11,12,53] 7 ?_ (hfar:=(farM (farC (by kernel_rfl) (farC (by kernel_rfl) (farC (by kernel_rfl) (farC (by kernel_rfl) (farC (by kernel_rfl) (farC (by kernel_rfl) farN))))))))
    have hr:=someb hF
    subst hr
    exact roundM.mk b0 (.inl rfl)
  ·rintro e st H ⟨a2,z,d3,d4,d5⟩
   have hF:=overb d4 (a9 a2 d3)
   clear a9
   obtain d6 | l:=z
   ·exact (by cases d6)
   ·obtain⟨rfl,e7,p,d7,rfl,rfl⟩:=d5
    refine AWP.closeM Zd 0 d7 ?_
    refine AWP.seq (AWP.rg [] [(5,(.ptr 2 0)),(8,(.ptr 3 0)),(10,(vb (decide (g ≥ (0:Int))))),(11,(.ptr 4 0)),(12,(.mp 5)),(15,(.ptr 7 0))] [.fm (List.map (entF Zg Zd) j),.cells [(i64 f),(.mp 0)],.cells (Zf a),.cells (Zc Zk),.cells (Ze d),.fm (List.map (entF Zg Value.bool) l),.iter (some 0) c p c,.cells (Zc a.Real)] (AWP.seq (AWP.rg [] [(5,(.ptr 2 0)),(8,(.ptr 3 0)),(10,(vb (decide (g ≥ (0:Int))))),(11,(.ptr 4 0)),(12,(.mp 5)),(15,(.ptr 7 0))] [.fm (List.map (entF Zg Zd) j),.cells [(i64 f),(.mp 0)],.cells (Zf a),.cells (Zc Zk),.cells (Ze d),.fm (List.map (entF Zg Value.bool) l),.iter (some 0) c p c,.cells (Zc ({ a.Real with Src:=d.x0.Lo }:Za))] (AWP.seq (AWP.seq (AWP.rg0 [] [(5,(.ptr 2 0)),(8,(.ptr 3 0)),(10,(vb (decide (g ≥ (0:Int))))),(11,(.ptr 4 0)),(12,(.mp 5)),(15,(.ptr 7 0)),(16,(u32 d.x3.Lo))] ?_))))))
    obtain⟨b1,d8,hF⟩:=bindb hF
    refine AWP.mid (fun e st H=>(e=.normal∧∃ a6,b1=(.inl a6)∧st=[(8,(.ptr 3 0))]∧H=[.fm (List.map (entF Zg Zd) j),.cells [(i64 f),(.mp 0)],.cells (Zf a),.cells (Zc Zk),.cells (Ze d),.fm (List.map (entF Zg Value.bool) l),.iter (some 0) c p c,.cells (Zc a6)])∨(e=.ret∧∃ r,b1=(.inr r)∧Zd8 f j r e st H)) ?_ ?_
    ·clear hF
     refine AWP.kp [5,8,10,11,12,15,16] 8 ?_
     refine AWP.bround (fun n st H=>∃ m,∃ k,Z0 a g d l n m k=some b1∧st=[(5,(.ptr 2 0)),(8,(.ptr 3 0)),(10,(vb (decide (g ≥ (0:Int))))),(11,(.ptr 4 0)),(12,(.mp 5)),(15,(.ptr 7 0)),(16,(u32 k))]∧H=[.fm (List.map (entF Zg Zd) j),.cells [(i64 f),(.mp 0)],.cells (Zf a),.cells (Zc Zk),.cells (Ze d),.fm (List.map (entF Zg Value.bool) l),.iter (some 0) c p c,.cells (Zc m)]) fuel ⟨({ a.Real with Src:=d.x0.Lo }:Za),d.x3.Lo,d8,by kernel_rfl,by kernel_rfl⟩ ?_
     rintro b2 st H ⟨m,k,hF,rfl,rfl⟩
     cases b2 with
     | zero=>exact noneb hF
     | succ b2=>
      rw [Z0] at hF
      refine AWP.seq (AWP.seq (AWP.rg0 [] [(5,(.ptr 2 0)),(8,(.ptr 3 0)),(10,(vb (decide (g ≥ (0:Int))))),(11,(.ptr 4 0)),(12,(.mp 5)),(15,(.ptr 7 0)),(16,(u32 k)),(84,(vb (decide (k≤d.x3.Hi))))] ?_))
      refine AWP.cif hF (fun d9 hF=>?_) (fun d9 hF=>?_)
      ·refine AWP.skip (AWP.seq (AWP.block (AWP.seq (AWP.rg [] [(5,(.ptr 2 0)),(8,(.ptr 3 0)),(10,(vb (decide (g ≥ (0:Int))))),(11,(.ptr 4 0)),(12,(.mp 5)),(15,(.ptr 7 0)),(16,(u32 k))] [.fm (List.map (entF Zg Zd) j),.cells [(i64 f),(.mp 0)],.cells (Zf a),.cells (Zc Zk),.cells (Ze d),.fm (List.map (entF Zg Value.bool) l),.iter (some 0) c p c,.cells (Zc ({ m with SrcPort:=(IntKind.wrap .u16 k) }:Za))] (AWP.seq ?_)))))
       obtain⟨e0,a7,hF⟩:=bindb hF
       replace a7:=someb a7
       obtain⟨e1,b8,hF⟩:=bindb hF
       refine AWP.to [(5,(.ptr 2 0)),(8,(.ptr 3 0)),(10,(vb (decide (g ≥ (0:Int))))),(11,(.ptr 4 0)),(12,(.mp 5)),(15,(.ptr 7 0)),(16,(u32 k)),(100,(vb e1))] [.fm (List.map (entF Zg Zd) j),.cells [(i64 f),(.mp 0)],.cells (Zf a),.cells (Zc Zk),.cells (Ze d),.fm (List.map (entF Zg Value.bool) l),.iter (some 0) c p c,.cells (Zc ({ m with SrcPort:=(IntKind.wrap .u16 k) }:Za))] ?_ ?_
       ·cases e0 with
        | false=>
         have e2:=someb (ifF b8 rfl)
         subst e2
         exact AWP.rgT [(2,.lookM Za2 Value.bool false l ({ m with SrcPort:=(IntKind.wrap .u16 k) }:Za)),(4,.bool a7)]
        | true=>
         have a1:=ifT b8 rfl
         obtain⟨e3,e4,a1⟩:=bindb a1
         replace a1:=someb a1
         subst a1
         exact AWP.rgT [(2,.lookM Za2 Value.bool false l ({ m with SrcPort:=(IntKind.wrap .u16 k) }:Za)),(4,.bool a7),(9,.call Tryd.func48 [] (Zdh a.Real (decide (g ≥ (0:Int))) k e3 e4))]
       refine AWP.cif hF (fun e5 hF=>?_) (fun e5 hF=>?_)
       ·refine AWP.seq (AWP.rg [] [(8,(.ptr 3 0)),(9,(vb true))] [.fm (List.map (entF Zg Zd) j),.cells [(i64 f),(.mp 0)],.cells (Zf a),.cells (Zc ({ m with SrcPort:=(IntKind.wrap .u16 k) }:Za)),.cells (Ze d),.fm (List.map (entF Zg Value.bool) l),.iter (some 0) c p c,.cells (Zc ({ m with SrcPort:=(IntKind.wrap .u16 k) }:Za))] (AWP.ret ?_))
        exact LeQ.of (.inr ⟨rfl,(({ m with SrcPort:=(IntKind.wrap .u16 k) }:Za),true),(someb hF).symm,(FnQ.f0 2 (.inr rfl))⟩)
       ·refine AWP.skip (AWP.rg0 [] [(5,(.ptr 2 0)),(8,(.ptr 3 0)),(10,(vb (decide (g ≥ (0:Int))))),(11,(.ptr 4 0)),(12,(.mp 5)),(15,(.ptr 7 0)),(16,(u32 (IntKind.wrap .u32 (k + (1:Int)))))] (LeQ.start (LeQ.pk [5,8,10,11,12,15,16] 8 ?_)))
        exact⟨b2,Nat.lt_succ_self _,({ m with SrcPort:=(IntKind.wrap .u16 k) }:Za),(IntKind.wrap .u32 (k + (1:Int))),hF,by kernel_rfl,by kernel_rfl⟩
      ·refine AWP.exit (LeQ.start (LeQ.pk [8] 8 ?_))
       exact(.inl ⟨rfl,m,(someb hF).symm,by kernel_rfl,by kernel_rfl⟩)
    ·rintro _ _ _ (⟨rfl,a6,rfl,rfl,rfl⟩ | ⟨rfl,e8,rfl,hq⟩)
     ·refine AWP.seq (AWP.rg [] [(8,(.ptr 3 0)),(9,(vb false))] [.fm (List.map (entF Zg Zd) j),.cells [(i64 f),(.mp 0)],.cells (Zf a),.cells (Zc (Za.mk (0:Int) (0:Int) (0:Int) (0:Int) (0:Int))),.cells (Ze d),.fm (List.map (entF Zg Value.bool) l),.iter (some 0) c p c,.cells (Zc a6)] (AWP.ret ?_))
      have hr:=someb hF
      subst hr
      exact(FnQ.f0 2 (.inr rfl))
     ·have hr:=someb hF
      subst hr
      exact hq
def Zfn (r:Int):PV→List Blk→Prop:=fun p K=>p=(i64 r)∧K=[]
theorem Zfo (a:Zb) (r:Int) (hF:Za5 a=some r):ACall Tryd.prog glob 49 [(Zal a)] [] (Zfn r):=by
 refine ACall.body Tryd.func49 rfl (by kernel_rfl) ?_
 unfold Za5 at hF
 refine AWP.seq (AWP.rg [] [(1,(.ptr 0 0))] [.cells (Zf a)] (AWP.seq (AWP.seq (AWP.rg0 [] [(1,(.ptr 0 0)),(6,(vb (a.Real.Proto != (6:Int))))] ?_))))
 refine AWP.cif hF (fun b hF=>?_) (fun b hF=>?_)
 ·refine AWP.seq (AWP.rg0 [] [(2,(i64 (60:Int)))] (AWP.ret ?_))
  have hr:=someb hF
  subst hr
  exact(FnQ.f0 0 (.inr rfl))
 ·refine AWP.skip (AWP.seq (AWP.seq (AWP.rg0 [] [(8,(i64 a.State))] (AWP.block (AWP.seq (AWP.rg0 [] [(8,(i64 a.State)),(9,(vb (a.State == (2:Int))))] ?_))))))
  refine AWP.cif hF (fun c hF=>?_) (fun c hF=>?_)
  ·refine AWP.seq (AWP.rg0 [] [(2,(i64 (600:Int)))] (AWP.ret ?_))
   have hr:=someb hF
   subst hr
   exact(FnQ.f0 0 (.inr rfl))
  ·refine AWP.seq (AWP.rg0 [] [(11,(vb (a.State == (3:Int))))] ?_)
   refine AWP.cif hF (fun d hF=>?_) (fun d hF=>?_)
   ·refine AWP.seq (AWP.rg0 [] [(2,(i64 (10:Int)))] (AWP.ret ?_))
    have hr:=someb hF
    subst hr
    exact(FnQ.f0 0 (.inr rfl))
   ·refine AWP.skip (AWP.seq (AWP.rg0 [] [(2,(i64 (30:Int)))] (AWP.ret ?_)))
    have hr:=someb hF
    subst hr
    exact(FnQ.f0 0 (.inr rfl))
def Ze7 (a:Int) (r:(List (Za × Zb))):PV→List Blk→Prop:=fun p K=>p=(.tup [])∧K=[.fm (List.map (entF Zg Zd) r),.cells [(i64 a),(.mp 0)]]
theorem Ze8 (a:Int) (b:(List (Za × Zb))) (d:Zb) (c:Int) (r:(List (Za × Zb))) (hF:Za0 a b d c=some r):ACall Tryd.prog glob 32 [(.ptr 1 0),(Zal d),(i64 c)] [.fm (List.map (entF Zg Zd) b),.cells [(i64 a),(.mp 0)]] (Ze7 a r):=by
 refine ACall.body Tryd.func32 rfl (by kernel_rfl) ?_
 unfold Za0 at hF
 refine AWP.seq (AWP.rg [] [(0,(.ptr 1 0)),(2,(i64 c)),(4,(.ptr 2 0))] [.fm (List.map (entF Zg Zd) b),.cells [(i64 a),(.mp 0)],.cells (Zf d)] (AWP.seq ?_))
 obtain⟨f,i,hF⟩:=bindb hF
 refine AWP.rg0 [(1,.call Tryd.func49 [] (Zfo d f i))] [(0,(.ptr 1 0)),(2,(i64 c)),(4,(.ptr 2 0)),(6,(i64 f))] (AWP.seq (AWP.rg [] [(0,(.ptr 1 0)),(2,(i64 c)),(4,(.ptr 2 0)),(6,(i64 f))] [.fm (List.map (entF Zg Zd) b),.cells [(i64 a),(.mp 0)],.cells (Zf ({ d with Expires:=(9223372036854775807:Int) }:Zb))] ?_))
 obtain⟨g,j,hF⟩:=bindb hF
 refine AWP.seq ?_
 refine AWP.mid (fun e st H=>e=.normal∧st=[(0,(.ptr 1 0)),(4,(.ptr 2 0))]∧H=[.fm (List.map (entF Zg Zd) b),.cells [(i64 a),(.mp 0)],.cells (Zf g)]) ?_ ?_
 ·clear hF
  have hF:=j
  refine AWP.seq (AWP.rg0 [] [(0,(.ptr 1 0)),(2,(i64 c)),(4,(.ptr 2 0)),(6,(i64 f)),(13,(vb (decide (c≤(ZI ((9223372036854775807:Int) - f))))))] ?_)
  refine AWP.cif hF (fun k hF=>?_) (fun k hF=>?_)
  ·refine AWP.rg [] [(0,(.ptr 1 0)),(4,(.ptr 2 0))] [.fm (List.map (entF Zg Zd) b),.cells [(i64 a),(.mp 0)],.cells (Zf ({ d with Expires:=(ZI (c + f)) }:Zb))] (LeQ.start (LeQ.pk [0,4] 3 ?_))
   have hr:=someb hF
   subst hr
   exact⟨rfl,by kernel_rfl,by kernel_rfl⟩
  ·refine AWP.skip (LeQ.start (LeQ.pk [0,4] 3 ?_))
   have hr:=someb hF
   subst hr
   exact⟨rfl,by kernel_rfl,by kernel_rfl⟩
 ·rintro _ _ _ ⟨rfl,rfl,rfl⟩
  refine AWP.dr [(7,.putM Za2 Zd b g.Real g)] 7 [] [] [] [] [.fm (List.map (entF Zg Zd) (mput Zi b g.Real g)),.cells [(i64 a),(.mp 0)],.cells (Zf g)] ?_
  have hr:=someb hF
  subst hr
  exact(FnQ.f0 2 (.inl rfl))
def Zek (a:Int) (r:(Za × Int × (List (Za × Zb)))):PV→List Blk→Prop:=fun p K=>p=(.tup [(Zv r.1),(i64 r.2.1)])∧K=[.fm (List.map (entF Zg Zd) r.2.2),.cells [(i64 a),(.mp 0)]]
theorem Zel (a:Int) (n:(List (Za × Zb))) (b:Int) (c:Za) (d:ByteArray) (k:(List Zl)) (l:Bool) (g:Int) (r:(Za × Int × (List (Za × Zb)))) (hF:Zar a n b c d k l g=some r):ACall Tryd.prog glob 11 [(.ptr 1 0),(i64 b),(Zv c),(vstr d),(slc 13 Zj k),(vb l),(i64 g)] [.fm (List.map (entF Zg Zd) n),.cells [(i64 a),(.mp 0)]] (Zek a r):=by
 refine ACall.body Tryd.func11 rfl (by kernel_rfl) ?_
 unfold Zar at hF
 refine AWP.seq (AWP.rg [] [(0,(.ptr 1 0)),(1,(i64 b)),(3,(vstr d)),(4,(slc 13 Zj k)),(5,(vb l)),(6,(i64 g)),(9,(.ptr 2 0)),(14,(.ptr 3 0))] [.fm (List.map (entF Zg Zd) n),.cells [(i64 a),(.mp 0)],.cells (Zc c),.cells (Zc Zk)] (AWP.seq (AWP.seq (AWP.rg0 [(1,.ptrNil)] [(0,(.ptr 1 0)),(1,(i64 b)),(3,(vstr d)),(4,(slc 13 Zj k)),(5,(vb l)),(6,(i64 g)),(9,(.ptr 2 0)),(14,(.ptr 3 0)),(21,(vb false))] ?_))))
 refine AWP.cF ?_
 refine AWP.skip (AWP.seq ?_)
 obtain⟨j,s,hF⟩:=bindb hF
 refine AWP.rg [(2,.callS Tryd.func24 [0,1] [] (Zb0 a n g j s))] [(0,(.ptr 1 0)),(1,(i64 b)),(3,(vstr d)),(4,(slc 13 Zj k)),(5,(vb l)),(6,(i64 g)),(9,(.ptr 2 0)),(14,(.ptr 3 0))] [.fm (List.map (entF Zg Zd) j.2),.cells [(i64 a),(.mp 0)],.cells (Zc c),.cells (Zc Zk)] (AWP.seq (AWP.seq ?_))
 obtain⟨t,o,hF⟩:=bindb hF
 replace o:=someb o
 obtain⟨u,q,hF⟩:=bindb hF
 refine AWP.to [(0,(.ptr 1 0)),(1,(i64 b)),(3,(vstr d)),(4,(slc 13 Zj k)),(5,(vb l)),(6,(i64 g)),(9,(.ptr 2 0)),(14,(.ptr 3 0)),(32,(vb u))] [.fm (List.map (entF Zg Zd) j.2),.cells [(i64 a),(.mp 0)],.cells (Zc c),.cells (Zc Zk)] ?_ ?_
 ·cases t with
  | false=>
   have m:=ifF q rfl
   obtain⟨v,w,m⟩:=bindb m
   replace m:=someb m
   subst m
   exact AWP.rgT [(2,.bool o),(4,.call Tryd.func28 [] (Zfm k v w))]
  | true=>
   have x:=someb (ifT q rfl)
   subst x
   exact AWP.rgT [(2,.bool o)]
 refine AWP.cif hF (fun y hF=>?_) (fun y hF=>?_)
 ·refine AWP.seq (AWP.rg [] [(14,(.ptr 3 0)),(15,(i64 (1:Int)))] [.fm (List.map (entF Zg Zd) j.2),.cells [(i64 a),(.mp 0)],.cells (Zc c),.cells (Zc (Za.mk (0:Int) (0:Int) (0:Int) (0:Int) (0:Int)))] (AWP.ret ?_))
  have hr:=someb hF
  subst hr
  exact(FnQ.f0 2 (.inr rfl))
 ·refine AWP.skip (AWP.seq ?_)
  obtain⟨f,z,hF⟩:=bindb hF
  refine AWP.rg [(3,.callS Tryd.func29 [0,1] [] (Zcf a j.2 c l f z))] [(0,(.ptr 1 0)),(1,(i64 b)),(3,(vstr d)),(4,(slc 13 Zj k)),(6,(i64 g)),(14,(.ptr 3 0)),(16,(.ptr 4 0)),(17,(i64 f.2))] [.fm (List.map (entF Zg Zd) j.2),.cells [(i64 a),(.mp 0)],.cells (Zc c),.cells (Zc Zk),.cells (Zf f.1)] (AWP.seq (AWP.seq (AWP.rg0 [] [(0,(.ptr 1 0)),(1,(i64 b)),(3,(vstr d)),(4,(slc 13 Zj k)),(6,(i64 g)),(14,(.ptr 3 0)),(16,(.ptr 4 0)),(17,(i64 f.2)),(42,(vb (f.2 != (0:Int))))] ?_)))
  refine AWP.cif hF (fun a0 hF=>?_) (fun a0 hF=>?_)
  ·refine AWP.seq (AWP.rg [] [(14,(.ptr 3 0)),(15,(i64 f.2))] [.fm (List.map (entF Zg Zd) j.2),.cells [(i64 a),(.mp 0)],.cells (Zc c),.cells (Zc (Za.mk (0:Int) (0:Int) (0:Int) (0:Int) (0:Int))),.cells (Zf f.1)] (AWP.ret ?_))
   have hr:=someb hF
   subst hr
   exact(FnQ.f0 2 (.inr rfl))
  ·refine AWP.skip (AWP.seq ?_)
   obtain⟨i,a1,hF⟩:=bindb hF
   refine AWP.rg [(4,.callS Tryd.func31 [0,1] [] (Zd9 a j.2 f.1 b k i a1))] [(0,(.ptr 1 0)),(1,(i64 b)),(3,(vstr d)),(6,(i64 g)),(14,(.ptr 3 0)),(16,(.ptr 4 0)),(18,(.ptr 5 0)),(19,(vb i.2))] [.fm (List.map (entF Zg Zd) j.2),.cells [(i64 a),(.mp 0)],.cells (Zc c),.cells (Zc Zk),.cells (Zf f.1),.cells (Zc i.1)] (AWP.seq (AWP.seq (AWP.rg0 [] [(0,(.ptr 1 0)),(1,(i64 b)),(3,(vstr d)),(6,(i64 g)),(14,(.ptr 3 0)),(16,(.ptr 4 0)),(18,(.ptr 5 0)),(54,(vb (!i.2)))] ?_)))
   refine AWP.cif hF (fun a2 hF=>?_) (fun a2 hF=>?_)
   ·refine AWP.seq (AWP.rg [] [(14,(.ptr 3 0)),(15,(i64 (9:Int)))] [.fm (List.map (entF Zg Zd) j.2),.cells [(i64 a),(.mp 0)],.cells (Zc c),.cells (Zc (Za.mk (0:Int) (0:Int) (0:Int) (0:Int) (0:Int))),.cells (Zf f.1),.cells (Zc i.1)] (AWP.ret ?_))
    have hr:=someb hF
    subst hr
    exact(FnQ.f0 2 (.inr rfl))
   ·refine AWP.skip (AWP.seq (AWP.dr [] 7 [] [4,6] [] [(0,(.ptr 1 0)),(6,(i64 g)),(14,(.ptr 3 0)),(16,(.ptr 4 0)),(18,(.ptr 5 0))] [.fm (List.map (entF Zg Zd) j.2),.cells [(i64 a),(.mp 0)],.cells (Zc c),.cells (Zc Zk),.cells (Zf ({ ({ ({ f.1 with To:=b }:Zb) with Delivered:=i.1 }:Zb) with Class:=d }:Zb)),.cells (Zc i.1)] (AWP.seq ?_)))
    obtain⟨p,a3,hF⟩:=bindb hF
    refine AWP.rg [(3,.callS Tryd.func32 [0,1] [] (Ze8 a j.2 ({ ({ ({ f.1 with To:=b }:Zb) with Delivered:=i.1 }:Zb) with Class:=d }:Zb) g p a3))] [(14,(.ptr 3 0)),(18,(.ptr 5 0))] [.fm (List.map (entF Zg Zd) p),.cells [(i64 a),(.mp 0)],.cells (Zc c),.cells (Zc Zk),.cells (Zf ({ ({ ({ f.1 with To:=b }:Zb) with Delivered:=i.1 }:Zb) with Class:=d }:Zb)),.cells (Zc i.1)] (AWP.seq (AWP.rg [] [(14,(.ptr 3 0)),(15,(i64 (0:Int)))] [.fm (List.map (entF Zg Zd) p),.cells [(i64 a),(.mp 0)],.cells (Zc c),.cells (Zc i.1),.cells (Zf ({ ({ ({ f.1 with To:=b }:Zb) with Delivered:=i.1 }:Zb) with Class:=d }:Zb)),.cells (Zc i.1)] (AWP.ret ?_)))
    have hr:=someb hF
    subst hr
    exact(FnQ.f0 2 (.inr rfl))
def Zgm (r:Za):PV→List Blk→Prop:=fun p K=>p=(Zv r)∧K=[]
theorem Zgn (a:Za) (r:Za) (hF:Zb3 a=some r):ACall Tryd.prog glob 13 [(Zv a)] [] (Zgm r):=by
 refine ACall.body Tryd.func13 rfl (by kernel_rfl) ?_
 unfold Zb3 at hF
 refine AWP.seq (AWP.rg [] [(1,(.ptr 0 0)),(2,(.ptr 1 0))] [.cells (Zc a),.cells (Zc Zk)] (AWP.seq (AWP.rg [] [(2,(.ptr 1 0))] [.cells (Zc a),.cells (Zc (Za.mk a.Dst a.Src a.Proto a.DstPort a.SrcPort))] (AWP.ret ?_))))
 have hr:=someb hF
 subst hr
 exact(FnQ.f0 0 (.inr rfl))
def Zhr (r:Za):PV→List Blk→Prop:=fun p K=>p=(Zv r)∧K=[]
theorem Zhs (a:Za) (r:Za) (hF:Zck a=some r):ACall Tryd.prog glob 33 [(Zv a)] [] (Zhr r):=by
 refine ACall.body Tryd.func33 rfl (by kernel_rfl) ?_
 unfold Zck at hF
 refine AWP.seq (AWP.rg [] [(1,(.ptr 0 0)),(2,(.ptr 1 0))] [.cells (Zc a),.cells (Zc Zk)] (AWP.seq (AWP.rg [] [(2,(.ptr 1 0))] [.cells (Zc a),.cells (Zc (Za.mk a.Dst a.Src a.Proto a.DstPort a.SrcPort))] (AWP.ret ?_))))
 have hr:=someb hF
 subst hr
 exact(FnQ.f0 0 (.inr rfl))
def Zcg (a:Int) (r:(Zb × Bool × (List (Za × Zb)))):PV→List Blk→Prop:=fun p K=>p=(.tup [(Zal r.1),(vb r.2.1)])∧K=[.fm (List.map (entF Zg Zd) r.2.2),.cells [(i64 a),(.mp 0)]]
abbrev Zch (a:Int) (r:(Zb × Bool × (List (Za × Zb)))):Exit→St→List Blk→Prop:=FnQ Tryd.prog Tryd.f12.results 2 (Zcg a r)
theorem Zdx (c:Int) (k:(List (Za × Zb))) (d:Int) (f:Za) (l:Int) (r:(Zb × Bool × (List (Za × Zb)))) (hF:Zaj c k d f l=some r):ACall Tryd.prog glob 12 [(.ptr 1 0),(i64 d),(Zv f),(i64 l)] [.fm (List.map (entF Zg Zd) k),.cells [(i64 c),(.mp 0)]] (Zcg c r):=by
 refine ACall.body Tryd.func12 rfl (by kernel_rfl) ?_
 unfold Zaj at hF
 refine AWP.seq (AWP.rg [] [(0,(.ptr 1 0)),(1,(i64 d)),(3,(i64 l)),(6,(.ptr 2 0)),(8,(.ptr 3 0))] [.fm (List.map (entF Zg Zd) k),.cells [(i64 c),(.mp 0)],.cells (Zc f),.cells (Zf Zp)] (AWP.seq (AWP.seq (AWP.rg0 [(1,.ptrNil)] [(0,(.ptr 1 0)),(1,(i64 d)),(3,(i64 l)),(6,(.ptr 2 0)),(8,(.ptr 3 0)),(18,(vb (decide (d<(0:Int)))))] ?_))))
 refine AWP.cif hF (fun a1 hF=>?_) (fun a1 hF=>?_)
 ·refine AWP.seq (AWP.rg [] [(8,(.ptr 3 0)),(9,(vb false))] [.fm (List.map (entF Zg Zd) k),.cells [(i64 c),(.mp 0)],.cells (Zc f),.cells (Zf (Zb.mk Zk Zk Zk (0:Int) (0:Int) false ByteArray.empty (0:Int) (0:Int)))] (AWP.ret ?_))
  have hr:=someb hF
  subst hr
  exact(FnQ.f0 2 (.inr rfl))
 ·refine AWP.skip (AWP.seq ?_)
  obtain⟨j,a2,hF⟩:=bindb hF
  refine AWP.rg [(2,.callS Tryd.func24 [0,1] [] (Zb0 c k l j a2))] [(0,(.ptr 1 0)),(1,(i64 d)),(6,(.ptr 2 0)),(8,(.ptr 3 0))] [.fm (List.map (entF Zg Zd) j.2),.cells [(i64 c),(.mp 0)],.cells (Zc f),.cells (Zf Zp)] (AWP.seq ?_)
  obtain⟨g,a3,hF⟩:=bindb hF
  refine AWP.rg [(1,.call Tryd.func33 [] (Zhs f g a3))] [(0,(.ptr 1 0)),(1,(i64 d)),(8,(.ptr 3 0)),(10,(.ptr 4 0))] [.fm (List.map (entF Zg Zd) j.2),.cells [(i64 c),(.mp 0)],.cells (Zc f),.cells (Zf Zp),.cells (Zc g)] (AWP.seq (AWP.seq ?_))
  refine AWP.openM Zg Zd j.2 0 (fun y a a4=>?_)
  refine AWP.rg [(4,.rngE)] [(1,(i64 d)),(8,(.ptr 3 0)),(10,(.ptr 4 0)),(29,(.ptr 5 0))] [.map (List.map (entT Zg Zd) y) a,.cells [(i64 c),(.mp 0)],.cells (Zc f),.cells (Zf Zp),.cells (Zc g),.iter (some 0) a [] a] ?_
  have w:=allpb hF
  clear hF
  refine AWP.kp [1,8,10,29] 6 ?_ (hfar:=(farM (farC (by kernel_rfl) (farC (by kernel_rfl) (farC (by kernel_rfl) (farC (by kernel_rfl) (farC (by kernel_rfl) farN)))))))
  refine AWP.mid (fun e st H=>∃ p,∃(m:(Zb × Bool × (List (Za × Zb))) ⊕ Unit),p.Perm j.2∧mfold (Z6 d j g) p ()=some m∧overM Zg Zd (fun(s_:Unit)=>j.2) (fun(s_:Unit)=>[(1,(i64 d)),(8,(.ptr 3 0)),(10,(.ptr 4 0)),(29,(.ptr 5 0))]) (fun(s_:Unit) (x_ y_:Blk)=>[x_,.cells [(i64 c),(.mp 0)],.cells (Zc f),.cells (Zf Zp),.cells (Zc g),y_]) (fun(y_:(Zb × Bool × (List (Za × Zb)))) e st H=>e=.ret∧Zch c y_ e st H) 0 a m e st H) ?_ ?_
  ·refine AWP.rangeQ (it:=29) (t:=30) (b:=31) (i:=0) (q:=5) (cl:=a) (kv:=Zg) (vv:=Zd) (B:=Z6 d j g) (M:=(fun(s_:Unit)=>j.2)) (stf:=(fun(s_:Unit)=>[(1,(i64 d)),(8,(.ptr 3 0)),(10,(.ptr 4 0)),(29,(.ptr 5 0))])) (Hf:=(fun(s_:Unit) (x_ y_:Blk)=>[x_,.cells [(i64 c),(.mp 0)],.cells (Zc f),.cells (Zf Zp),.cells (Zc g),y_])) (Qe:=(fun(y_:(Zb × Bool × (List (Za × Zb)))) e st H=>e=.ret∧Zch c y_ e st H)) (L:=j.2) (si_:=()) (Ei_:=y) (by kernel_rfl) (fun _=>rfl) (fun _ _ _=>rfl) (fun _ _ _=>rfl) (fun _ _ _ _=>rfl) (fun _ _ _=>rfl) (fun _ _ _ _ h_=>retNe h_.1) a4 rfl (fun l_ h_=>isb (w l_ h_)) rfl rfl ?_ (fun l_ o_ h1_ h2_ e st H h3_=>LeQ.of ⟨l_,o_,h1_,h2_,h3_⟩)
   rintro s n ⟨u,o⟩ ⟨⟩ m hF a5 x
   rw [Z6] at hF
   show AWP _ _ _ _ _ _ [(1,(i64 d)),(8,(.ptr 3 0)),(10,(.ptr 4 0)),(29,(.ptr 5 0))] [.map (List.map (entT Zg Zd) s) a,.cells [(i64 c),(.mp 0)],.cells (Zc f),.cells (Zf Zp),.cells (Zc g),.iter (some 0) a (n++[u]) a]
   refine AWP.block (AWP.seq (AWP.rg [(0,.entE Zd x n a5)] [(1,(i64 d)),(8,(.ptr 3 0)),(10,(.ptr 4 0)),(12,(.ptr 6 0)),(29,(.ptr 5 0))] [.map (List.map (entT Zg Zd) s) a,.cells [(i64 c),(.mp 0)],.cells (Zc f),.cells (Zf Zp),.cells (Zc g),.iter (some 0) a (n++[u]) a,.cells (Zf o.2)] (AWP.seq ?_)))
   obtain⟨z,v,hF⟩:=bindb hF
   replace v:=someb v
   refine AWP.to [(1,(i64 d)),(8,(.ptr 3 0)),(10,(.ptr 4 0)),(12,(.ptr 6 0)),(29,(.ptr 5 0)),(43,(vb (z && (Zi o.2.Delivered g))))] [.map (List.map (entT Zg Zd) s) a,.cells [(i64 c),(.mp 0)],.cells (Zc f),.cells (Zf Zp),.cells (Zc g),.iter (some 0) a (n++[u]) a,.cells (Zf o.2)] ?_ ?_
   ·cases z with
    | false=>
     exact AWP.rgT [(4,.bool v)]
    | true=>
     exact AWP.rgT [(4,.bool v)]
   refine AWP.cif hF (fun a6 hF=>?_) (fun a6 hF=>?_)
   ·refine AWP.seq (AWP.rg [] [(8,(.ptr 3 0)),(9,(vb true))] [.map (List.map (entT Zg Zd) s) a,.cells [(i64 c),(.mp 0)],.cells (Zc f),.cells (Zf o.2),.cells (Zc g),.iter (some 0) a (n++[u]) a,.cells (Zf o.2)] (AWP.ret ?_))
    refine LeQ.closeM Zd 0 x ?_
    have hr:=someb hF
    subst hr
    exact LeQ.of (roundM.ret ⟨rfl,(FnQ.f0 2 (.inr rfl))⟩)
   ·refine AWP.skip (LeQ.start ?_)
    refine LeQ.pk [1,8,10,29] 6 ?_ (hfar:=(farM (farC (by kernel_rfl) (farC (by kernel_rfl) (farC (by kernel_rfl) (farC (by kernel_rfl) (farC (by kernel_rfl) farN)))))))
    have hr:=someb hF
    subst hr
    exact roundM.mk x (.inl rfl)
  ·rintro e st H ⟨p,m,a7,a8,a0⟩
   have hF:=overb a8 (w p a7)
   clear w
   obtain b1 | ⟨⟩:=m
   ·obtain⟨rfl,hq⟩:=a0
    have hr:=someb hF
    subst hr
    exact hq
   ·obtain⟨rfl,b2,a9,b0,rfl,rfl⟩:=a0
    refine AWP.closeM Zd 0 b0 ?_
    refine AWP.seq (AWP.rg [] [(8,(.ptr 3 0)),(9,(vb false))] [.fm (List.map (entF Zg Zd) j.2),.cells [(i64 c),(.mp 0)],.cells (Zc f),.cells (Zf (Zb.mk Zk Zk Zk (0:Int) (0:Int) false ByteArray.empty (0:Int) (0:Int))),.cells (Zc g),.iter (some 0) a a9 a] (AWP.ret ?_))
    have hr:=someb hF
    subst hr
    exact(FnQ.f0 2 (.inr rfl))
def Zeu (r:Bool):PV→List Blk→Prop:=fun p K=>p=(vb r)∧K=[]
abbrev Zio (r:Bool):Exit→St→List Blk→Prop:=FnQ Tryd.prog Tryd.f35.results 0 (Zeu r)
theorem Zcq (a:ZB) (r:Bool) (hF:Zbj a=some r):ACall Tryd.prog glob 35 [(Zx a)] [] (Zeu r):=by
 refine ACall.body Tryd.func35 rfl (by kernel_rfl) ?_
 unfold Zbj at hF
 refine AWP.seq (AWP.rg [] [(1,(.ptr 0 0))] [.cells (Ze a)] (AWP.seq (AWP.seq (AWP.rg0 [] [(1,(.ptr 0 0)),(3,(i64 (0:Int)))] ?_))))
 obtain⟨i,m,hF⟩:=bindb hF
 refine AWP.mid (fun e st H=>(e=.normal∧i=(.inl ())∧st=[]∧H=[.cells (Ze a)])∨(e=.ret∧∃ r,i=(.inr r)∧Zio r e st H)) ?_ ?_
 ·clear hF
  refine AWP.kp [1,3] 1 ?_
  refine AWP.bround (fun n st H=>∃ b,Zs a n b=some i∧st=[(1,(.ptr 0 0)),(3,(i64 b))]∧H=[.cells (Ze a)]) fuel ⟨(0:Int),m,by kernel_rfl,by kernel_rfl⟩ ?_
  rintro j st H ⟨b,hF,rfl,rfl⟩
  cases j with
  | zero=>exact noneb hF
  | succ j=>
   rw [Zs] at hF
   refine AWP.seq (AWP.seq (AWP.rg0 [] [(1,(.ptr 0 0)),(3,(i64 b)),(5,(vb (decide (b<(5:Int)))))] ?_))
   refine AWP.cif hF (fun o hF=>?_) (fun o hF=>?_)
   ·refine AWP.skip (AWP.seq (AWP.block (AWP.seq ?_)))
    obtain⟨d,hF⟩:=chkb hF
    obtain⟨f,hF⟩:=chkb hF
    obtain⟨p,g,hF⟩:=bindb hF
    replace g:=someb g
    obtain⟨q,k,hF⟩:=bindb hF
    refine AWP.to [(1,(.ptr 0 0)),(3,(i64 b)),(25,(vb q))] [.cells (Ze a)] ?_ ?_
    ·cases p with
     | false=>
      have c:=ifF k rfl
      obtain⟨l,c⟩:=chkb c
      obtain⟨s,t,c⟩:=bindb c
      replace c:=someb c
      subst c
      exact AWP.drT [(1,.ixd d),(3,.ldA Z8 (Arr5.get a) 0 2 0 d),(5,.ixd f),(7,.ldA Z8 (Arr5.get a) 0 2 1 f),(9,.bool g),(11,.ixd l),(13,.ldA Z8 (Arr5.get a) 0 2 1 l),(15,.call Tryd.func26 [] (Zf0 b s t))] 18 [] [] []
     | true=>
      have u:=someb (ifT k rfl)
      subst u
      exact AWP.drT [(1,.ixd d),(3,.ldA Z8 (Arr5.get a) 0 2 0 d),(5,.ixd f),(7,.ldA Z8 (Arr5.get a) 0 2 1 f),(9,.bool g)] 18 [] [] []
    refine AWP.cif hF (fun v hF=>?_) (fun v hF=>?_)
    ·refine AWP.seq (AWP.rg0 [] [(2,(vb false))] (AWP.ret ?_))
     exact LeQ.of (.inr ⟨rfl,false,(someb hF).symm,(FnQ.f0 0 (.inr rfl))⟩)
    ·refine AWP.skip (AWP.rg0 [] [(1,(.ptr 0 0)),(3,(i64 (ZI (b + (1:Int)))))] (LeQ.start (LeQ.pk [1,3] 1 ?_)))
     exact⟨j,Nat.lt_succ_self _,(ZI (b + (1:Int))),hF,by kernel_rfl,by kernel_rfl⟩
   ·refine AWP.exit (LeQ.start (LeQ.pk [] 1 ?_))
    exact(.inl ⟨rfl,(someb hF).symm,by kernel_rfl,by kernel_rfl⟩)
 ·rintro _ _ _ (⟨rfl,rfl,rfl,rfl⟩ | ⟨rfl,w,rfl,hq⟩)
  ·refine AWP.seq (AWP.rg0 [] [(2,(vb true))] (AWP.ret ?_))
   have hr:=someb hF
   subst hr
   exact(FnQ.f0 0 (.inr rfl))
  ·have hr:=someb hF
   subst hr
   exact hq
def Zf4 (r:Bool):PV→List Blk→Prop:=fun p K=>p=(vb r)∧K=[]
theorem Zdi (a:Zl) (r:Bool) (hF:Zba a=some r):ACall Tryd.prog glob 36 [(Zcn a)] [] (Zf4 r):=by
 refine ACall.body Tryd.func36 rfl (by kernel_rfl) ?_
 unfold Zba at hF
 refine AWP.seq (AWP.rg [] [(1,(.ptr 0 0))] [.cells (Zj a)] (AWP.seq ?_))
 obtain⟨d,f,hF⟩:=bindb hF
 obtain⟨i,b,hF⟩:=bindb hF
 replace b:=someb b
 obtain⟨g,c,hF⟩:=bindb hF
 replace c:=someb c
 refine AWP.to [(2,(vb (g && (decide (a.Ports.Hi≤(65535:Int))))))] [.cells (Zj a)] ?_ ?_
 ·cases i with
  | false=>
   subst c
   exact AWP.rgT [(2,.call Tryd.func35 [] (Zcq a.Match d f)),(3,.bool b)]
  | true=>
   cases g with
   | false=>
    exact AWP.rgT [(2,.call Tryd.func35 [] (Zcq a.Match d f)),(3,.bool b),(12,.bool c)]
   | true=>
    exact AWP.rgT [(2,.call Tryd.func35 [] (Zcq a.Match d f)),(3,.bool b),(12,.bool c)]
 refine AWP.ret ?_
 have hr:=someb hF
 subst hr
 exact(FnQ.f0 0 (.inr rfl))
def Zip (r:(Arr5 Int)):PV→List Blk→Prop:=fun p K=>p=(Zau r)∧K=[]
theorem Zev (a:Za) (r:(Arr5 Int)) (hF:Zbk a=some r):ACall Tryd.prog glob 34 [(Zv a)] [] (Zip r):=by
 refine ACall.body Tryd.func34 rfl (by kernel_rfl) ?_
 unfold Zbk at hF
 refine AWP.seq (AWP.rg [] [(1,(.ptr 0 0)),(2,(.ptr 1 0))] [.cells (Zc a),.cells (Zak Zka)] (AWP.seq (AWP.rg [] [(2,(.ptr 1 0))] [.cells (Zc a),.cells (Zak (Arr5.mk a.Src a.Dst (IntKind.wrap .u32 a.Proto) (IntKind.wrap .u32 a.SrcPort) (IntKind.wrap .u32 a.DstPort)))] (AWP.ret ?_))))
 have hr:=someb hF
 subst hr
 exact(FnQ.f0 0 (.inr rfl))
def Zdy (r:Bool):PV→List Blk→Prop:=fun p K=>p=(vb r)∧K=[]
abbrev Zgo (r:Bool):Exit→St→List Blk→Prop:=FnQ Tryd.prog Tryd.f14.results 0 (Zdy r)
theorem Za3 (a:ZB) (c:Za) (r:Bool) (hF:Za1 a c=some r):ACall Tryd.prog glob 14 [(Zx a),(Zv c)] [] (Zdy r):=by
 refine ACall.body Tryd.func14 rfl (by kernel_rfl) ?_
 unfold Za1 at hF
 refine AWP.seq (AWP.rg [] [(2,(.ptr 0 0)),(3,(.ptr 1 0))] [.cells (Ze a),.cells (Zc c)] (AWP.seq ?_))
 obtain⟨b,s,hF⟩:=bindb hF
 refine AWP.rg [(1,.call Tryd.func34 [] (Zev c b s))] [(2,(.ptr 0 0)),(5,(.ptr 2 0))] [.cells (Ze a),.cells (Zc c),.cells (Zak b)] (AWP.seq (AWP.seq (AWP.rg0 [] [(2,(.ptr 0 0)),(5,(.ptr 2 0)),(6,(i64 (0:Int)))] ?_)))
 obtain⟨k,t,hF⟩:=bindb hF
 refine AWP.mid (fun e st H=>(e=.normal∧k=(.inl ())∧st=[(2,(.ptr 0 0))]∧H=[.cells (Ze a),.cells (Zc c),.cells (Zak b)])∨(e=.ret∧∃ r,k=(.inr r)∧Zgo r e st H)) ?_ ?_
 ·clear hF
  refine AWP.kp [2,5,6] 3 ?_
  refine AWP.bround (fun n st H=>∃ d,Z9 a b n d=some k∧st=[(2,(.ptr 0 0)),(5,(.ptr 2 0)),(6,(i64 d))]∧H=[.cells (Ze a),.cells (Zc c),.cells (Zak b)]) fuel ⟨(0:Int),t,by kernel_rfl,by kernel_rfl⟩ ?_
  rintro l st H ⟨d,hF,rfl,rfl⟩
  cases l with
  | zero=>exact noneb hF
  | succ l=>
   rw [Z9] at hF
   refine AWP.seq (AWP.seq (AWP.rg0 [] [(2,(.ptr 0 0)),(5,(.ptr 2 0)),(6,(i64 d)),(10,(vb (decide (d<(5:Int)))))] ?_))
   refine AWP.cif hF (fun u hF=>?_) (fun u hF=>?_)
   ·refine AWP.skip (AWP.seq (AWP.block (AWP.seq ?_)))
    obtain⟨g,hF⟩:=chkb hF
    obtain⟨i,hF⟩:=chkb hF
    obtain⟨v,j,hF⟩:=bindb hF
    replace j:=someb j
    obtain⟨w,m,hF⟩:=bindb hF
    refine AWP.to [(2,(.ptr 0 0)),(5,(.ptr 2 0)),(6,(i64 d)),(30,(vb w))] [.cells (Ze a),.cells (Zc c),.cells (Zak b)] ?_ ?_
    ·cases v with
     | false=>
      have f:=ifF m rfl
      obtain⟨o,f⟩:=chkb f
      obtain⟨p,f⟩:=chkb f
      replace f:=someb f
      subst f
      exact AWP.drT [(1,.ixd g),(2,.ldA Zcu (Arr5.get b) 0 1 0 g),(4,.ixd i),(6,.ldA Z8 (Arr5.get a) 0 2 0 i),(8,.bool j),(10,.ixd o),(11,.ldA Zcu (Arr5.get b) 0 1 0 o),(13,.ixd p),(15,.ldA Z8 (Arr5.get a) 0 2 1 p)] 18 [] [] []
     | true=>
      have x:=someb (ifT m rfl)
      subst x
      exact AWP.drT [(1,.ixd g),(2,.ldA Zcu (Arr5.get b) 0 1 0 g),(4,.ixd i),(6,.ldA Z8 (Arr5.get a) 0 2 0 i),(8,.bool j)] 18 [] [] []
    refine AWP.cif hF (fun y hF=>?_) (fun y hF=>?_)
    ·refine AWP.seq (AWP.rg0 [] [(4,(vb false))] (AWP.ret ?_))
     exact LeQ.of (.inr ⟨rfl,false,(someb hF).symm,(FnQ.f0 0 (.inr rfl))⟩)
    ·refine AWP.skip (AWP.rg0 [] [(2,(.ptr 0 0)),(5,(.ptr 2 0)),(6,(i64 (ZI (d + (1:Int)))))] (LeQ.start (LeQ.pk [2,5,6] 3 ?_)))
     exact⟨l,Nat.lt_succ_self _,(ZI (d + (1:Int))),hF,by kernel_rfl,by kernel_rfl⟩
   ·refine AWP.exit (LeQ.start (LeQ.pk [2] 3 ?_))
    exact(.inl ⟨rfl,(someb hF).symm,by kernel_rfl,by kernel_rfl⟩)
 ·rintro _ _ _ (⟨rfl,rfl,rfl,rfl⟩ | ⟨rfl,a0,rfl,hq⟩)
  ·refine AWP.seq ?_
   obtain⟨q,z,hF⟩:=bindb hF
   refine AWP.rg0 [(1,.call Tryd.func35 [] (Zcq a q z))] [(4,(vb q))] (AWP.ret ?_)
   have hr:=someb hF
   subst hr
   exact(FnQ.f0 0 (.inr rfl))
  ·have hr:=someb hF
   subst hr
   exact hq
def Zkh (r:ZB):PV→List Blk→Prop:=fun p K=>p=(Zx r)∧K=[]
theorem Zgp (c:Za) (r:ZB) (hF:Zcc c=some r):ACall Tryd.prog glob 37 [(Zv c)] [] (Zkh r):=by
 refine ACall.body Tryd.func37 rfl (by kernel_rfl) ?_
 unfold Zcc at hF
 refine AWP.seq (AWP.rg [] [(1,(.ptr 0 0)),(2,(.ptr 1 0))] [.cells (Zc c),.cells (Ze Zm)] (AWP.seq (AWP.rg [] [(1,(.ptr 0 0)),(2,(.ptr 1 0)),(3,(.ptr 2 0))] [.cells (Zc c),.cells (Ze Zm),.cells (Ze Zm)] (AWP.seq ?_))))
 obtain⟨b,l,hF⟩:=bindb hF
 refine AWP.rg [(1,.call Tryd.func34 [] (Zev c b l))] [(2,(.ptr 1 0)),(3,(.ptr 2 0)),(4,(.ptr 3 0))] [.cells (Zc c),.cells (Ze Zm),.cells (Ze Zm),.cells (Zak b)] (AWP.seq (AWP.seq (AWP.rg0 [] [(2,(.ptr 1 0)),(3,(.ptr 2 0)),(4,(.ptr 3 0)),(5,(i64 (0:Int)))] ?_)))
 obtain⟨f,m,hF⟩:=bindb hF
 refine AWP.mid (fun e st H=>e=.normal∧st=[(2,(.ptr 1 0)),(3,(.ptr 2 0))]∧H=[.cells (Zc c),.cells (Ze Zm),.cells (Ze f),.cells (Zak b)]) ?_ ?_
 ·clear hF
  refine AWP.kp [2,3,4,5] 4 ?_
  refine AWP.bround (fun n st H=>∃ d,∃ a,Za6 b n d a=some f∧st=[(2,(.ptr 1 0)),(3,(.ptr 2 0)),(4,(.ptr 3 0)),(5,(i64 a))]∧H=[.cells (Zc c),.cells (Ze Zm),.cells (Ze d),.cells (Zak b)]) fuel ⟨Zm,(0:Int),m,by kernel_rfl,by kernel_rfl⟩ ?_
  rintro g st H ⟨d,a,hF,rfl,rfl⟩
  cases g with
  | zero=>exact noneb hF
  | succ g=>
   rw [Za6] at hF
   refine AWP.seq (AWP.seq (AWP.rg0 [] [(2,(.ptr 1 0)),(3,(.ptr 2 0)),(4,(.ptr 3 0)),(5,(i64 a)),(9,(vb (decide (a<(5:Int)))))] ?_))
   refine AWP.cif hF (fun o hF=>?_) (fun o hF=>?_)
   ·refine AWP.skip (AWP.seq (AWP.block ?_))
    obtain⟨i,hF⟩:=chkb hF
    obtain⟨j,hF⟩:=chkb hF
    obtain⟨k,hF⟩:=chkb hF
    refine AWP.dr [(2,.ixd i),(3,.ldA Zcu (Arr5.get b) 0 1 0 i),(5,.ixd j),(6,.ldA Zcu (Arr5.get b) 0 1 0 j),(8,.ixd k),(9,.stA (fun p=>Ze (Arr5.set d p (Zh.mk (Arr5.get b a) (Arr5.get b a)))) 0 2 0 k)] 8 [] [] [] [(2,(.ptr 1 0)),(3,(.ptr 2 0)),(4,(.ptr 3 0)),(5,(i64 a))] [.cells (Zc c),.cells (Ze Zm),.cells (Ze (Arr5.set d a (Zh.mk (Arr5.get b a) (Arr5.get b a)))),.cells (Zak b)] (AWP.rg0 [] [(2,(.ptr 1 0)),(3,(.ptr 2 0)),(4,(.ptr 3 0)),(5,(i64 (ZI (a + (1:Int)))))] (LeQ.start (LeQ.pk [2,3,4,5] 4 ?_)))
    exact⟨g,Nat.lt_succ_self _,(Arr5.set d a (Zh.mk (Arr5.get b a) (Arr5.get b a))),(ZI (a + (1:Int))),hF,by kernel_rfl,by kernel_rfl⟩
   ·refine AWP.exit (LeQ.start (LeQ.pk [2,3] 4 ?_))
    have hr:=someb hF
    subst hr
    exact⟨rfl,by kernel_rfl,by kernel_rfl⟩
 ·rintro _ _ _ ⟨rfl,rfl,rfl⟩
  refine AWP.seq (AWP.rg [] [(2,(.ptr 1 0))] [.cells (Zc c),.cells (Ze f),.cells (Ze f),.cells (Zak b)] (AWP.ret ?_))
  have hr:=someb hF
  subst hr
  exact(FnQ.f0 0 (.inr rfl))
def Zht (r:ZB):PV→List Blk→Prop:=fun p K=>p=(Zx r)∧K=[]
theorem Zhu (a:Zl) (b:ZB) (r:ZB) (hF:Zc3 a b=some r):ACall Tryd.prog glob 38 [(Zcn a),(Zx b)] [] (Zht r):=by
 refine ACall.body Tryd.func38 rfl (by kernel_rfl) ?_
 unfold Zc3 at hF
 refine AWP.seq (AWP.rg [] [(2,(.ptr 0 0)),(3,(.ptr 1 0)),(4,(.ptr 2 0))] [.cells (Zj a),.cells (Ze b),.cells (Ze Zm)] (AWP.seq (AWP.dr [] 9 [] [8] [] [(3,(.ptr 1 0)),(4,(.ptr 2 0))] [.cells (Zj a),.cells (Ze ({ ({ b with x0:=(Zh.mk a.Addr a.Addr) }:ZB) with x3:=a.Ports }:ZB)),.cells (Ze Zm)] (AWP.seq (AWP.rg [] [(4,(.ptr 2 0))] [.cells (Zj a),.cells (Ze ({ ({ b with x0:=(Zh.mk a.Addr a.Addr) }:ZB) with x3:=a.Ports }:ZB)),.cells (Ze ({ ({ b with x0:=(Zh.mk a.Addr a.Addr) }:ZB) with x3:=a.Ports }:ZB))] (AWP.ret ?_))))))
 have hr:=someb hF
 subst hr
 exact(FnQ.f0 0 (.inr rfl))
def Zhv (r:ZB):PV→List Blk→Prop:=fun p K=>p=(Zx r)∧K=[]
theorem Zbz (a:Zl) (b:Za) (r:ZB) (hF:Zby a b=some r):ACall Tryd.prog glob 15 [(Zcn a),(Zv b)] [] (Zhv r):=by
 refine ACall.body Tryd.func15 rfl (by kernel_rfl) ?_
 unfold Zby at hF
 refine AWP.seq (AWP.rg [] [(2,(.ptr 0 0)),(3,(.ptr 1 0)),(4,(.ptr 2 0))] [.cells (Zj a),.cells (Zc b),.cells (Ze Zm)] (AWP.seq (AWP.seq ?_)))
 obtain⟨f,g,hF⟩:=bindb hF
 obtain⟨m,d,hF⟩:=bindb hF
 replace d:=someb d
 obtain⟨n,i,hF⟩:=bindb hF
 refine AWP.to [(2,(.ptr 0 0)),(3,(.ptr 1 0)),(4,(.ptr 2 0)),(14,(vb n))] [.cells (Zj a),.cells (Zc b),.cells (Ze Zm)] ?_ ?_
 ·cases m with
  | false=>
   have c:=ifF i rfl
   obtain⟨o,p,c⟩:=bindb c
   replace c:=someb c
   subst c
   exact AWP.rgT [(1,.call Tryd.func36 [] (Zdi a f g)),(3,.bool d),(7,.call Tryd.func14 [] (Za3 a.Match b o p))]
  | true=>
   have q:=someb (ifT i rfl)
   subst q
   exact AWP.rgT [(1,.call Tryd.func36 [] (Zdi a f g)),(3,.bool d)]
 refine AWP.cif hF (fun s hF=>?_) (fun s hF=>?_)
 ·refine AWP.seq ?_
  obtain⟨j,t,hF⟩:=bindb hF
  refine AWP.rg [(1,.call Tryd.func37 [] (Zgp b j t))] [(4,(.ptr 2 0))] [.cells (Zj a),.cells (Zc b),.cells (Ze j)] (AWP.ret ?_)
  have hr:=someb hF
  subst hr
  exact(FnQ.f0 0 (.inr rfl))
 ·refine AWP.skip (AWP.seq ?_)
  obtain⟨k,u,hF⟩:=bindb hF
  obtain⟨l,v,hF⟩:=bindb hF
  refine AWP.dr [(2,.call Tryd.func37 [] (Zgp b k u)),(3,.call Tryd.func38 [] (Zhu a k l v))] 4 [] [] [] [(4,(.ptr 2 0))] [.cells (Zj a),.cells (Zc b),.cells (Ze l)] (AWP.ret ?_)
  have hr:=someb hF
  subst hr
  exact(FnQ.f0 0 (.inr rfl))
def Zgq (r:Bool):PV→List Blk→Prop:=fun p K=>p=(vb r)∧K=[]
theorem Zdz (a:Int) (r:Bool) (hF:Zbh a=some r):ACall Tryd.prog glob 73 [(u32 a)] [] (Zgq r):=by
 refine ACall.body Tryd.func73 rfl (by kernel_rfl) ?_
 unfold Zbh at hF
 refine AWP.seq (AWP.rg0 [] [(0,(u32 a))] (AWP.seq (AWP.rg0 [] [(2,(vb (a != a)))] (AWP.ret ?_))))
 have hr:=someb hF
 subst hr
 exact(FnQ.f0 0 (.inr rfl))
def Zfp (r:Int):PV→List Blk→Prop:=fun p K=>p=(i64 r)∧K=[]
theorem Zde (a:Int) (b:Int) (r:Int) (hF:Zas a b=some r):ACall Tryd.prog glob 53 [(u32 a),(u32 b)] [] (Zfp r):=by
 refine ACall.body Tryd.func53 rfl (by kernel_rfl) ?_
 unfold Zas at hF
 refine AWP.seq (AWP.rg0 [] [(0,(u32 a)),(1,(u32 b))] (AWP.seq ?_))
 obtain⟨d,f,hF⟩:=bindb hF
 refine AWP.rg0 [(1,.call Tryd.func73 [] (Zdz a d f))] [(0,(u32 a)),(1,(u32 b)),(5,(vb d))] (AWP.seq ?_)
 obtain⟨c,g,hF⟩:=bindb hF
 refine AWP.rg0 [(1,.call Tryd.func73 [] (Zdz b c g))] [(0,(u32 a)),(1,(u32 b)),(5,(vb d)),(6,(vb c))] (AWP.seq (AWP.seq (AWP.rg0 [] [(0,(u32 a)),(1,(u32 b)),(6,(vb c)),(11,(vb d))] ?_)))
 refine AWP.cif hF (fun i hF=>?_) (fun i hF=>?_)
 ·refine AWP.seq (AWP.seq (AWP.rg0 [] [(12,(vb c))] ?_))
  refine AWP.cif hF (fun j hF=>?_) (fun j hF=>?_)
  ·refine AWP.seq (AWP.rg0 [] [(4,(i64 (0:Int)))] (AWP.ret ?_))
   have hr:=someb hF
   subst hr
   exact(FnQ.f0 0 (.inr rfl))
  ·refine AWP.skip (AWP.seq (AWP.rg0 [] [(4,(i64 (-1:Int)))] (AWP.ret ?_)))
   have hr:=someb hF
   subst hr
   exact(FnQ.f0 0 (.inr rfl))
 ·refine AWP.skip (AWP.seq (AWP.seq (AWP.rg0 [] [(0,(u32 a)),(1,(u32 b)),(13,(vb c))] ?_)))
  refine AWP.cif hF (fun k hF=>?_) (fun k hF=>?_)
  ·refine AWP.seq (AWP.rg0 [] [(4,(i64 (1:Int)))] (AWP.ret ?_))
   have hr:=someb hF
   subst hr
   exact(FnQ.f0 0 (.inr rfl))
  ·refine AWP.skip (AWP.seq (AWP.seq (AWP.rg0 [] [(0,(u32 a)),(1,(u32 b)),(16,(vb (decide (a<b))))] ?_)))
   refine AWP.cif hF (fun l hF=>?_) (fun l hF=>?_)
   ·refine AWP.seq (AWP.rg0 [] [(4,(i64 (-1:Int)))] (AWP.ret ?_))
    have hr:=someb hF
    subst hr
    exact(FnQ.f0 0 (.inr rfl))
   ·refine AWP.skip (AWP.seq (AWP.seq (AWP.rg0 [] [(19,(vb (decide (a > b))))] ?_)))
    refine AWP.cif hF (fun m hF=>?_) (fun m hF=>?_)
    ·refine AWP.seq (AWP.rg0 [] [(4,(i64 (1:Int)))] (AWP.ret ?_))
     have hr:=someb hF
     subst hr
     exact(FnQ.f0 0 (.inr rfl))
    ·refine AWP.skip (AWP.seq (AWP.rg0 [] [(4,(i64 (0:Int)))] (AWP.ret ?_)))
     have hr:=someb hF
     subst hr
     exact(FnQ.f0 0 (.inr rfl))
def Zg2 (r:Bool):PV→List Blk→Prop:=fun p K=>p=(vb r)∧K=[]
theorem Zd6 (a:Int) (r:Bool) (hF:Zbn a=some r):ACall Tryd.prog glob 74 [(u8 a)] [] (Zg2 r):=by
 refine ACall.body Tryd.func74 rfl (by kernel_rfl) ?_
 unfold Zbn at hF
 refine AWP.seq (AWP.rg0 [] [(0,(u8 a))] (AWP.seq (AWP.rg0 [] [(2,(vb (a != a)))] (AWP.ret ?_))))
 have hr:=someb hF
 subst hr
 exact(FnQ.f0 0 (.inr rfl))
def Zf5 (r:Int):PV→List Blk→Prop:=fun p K=>p=(i64 r)∧K=[]
theorem Zf6 (a:Int) (b:Int) (r:Int) (hF:Zbb a b=some r):ACall Tryd.prog glob 54 [(u8 a),(u8 b)] [] (Zf5 r):=by
 refine ACall.body Tryd.func54 rfl (by kernel_rfl) ?_
 unfold Zbb at hF
 refine AWP.seq (AWP.rg0 [] [(0,(u8 a)),(1,(u8 b))] (AWP.seq ?_))
 obtain⟨d,f,hF⟩:=bindb hF
 refine AWP.rg0 [(1,.call Tryd.func74 [] (Zd6 a d f))] [(0,(u8 a)),(1,(u8 b)),(5,(vb d))] (AWP.seq ?_)
 obtain⟨c,g,hF⟩:=bindb hF
 refine AWP.rg0 [(1,.call Tryd.func74 [] (Zd6 b c g))] [(0,(u8 a)),(1,(u8 b)),(5,(vb d)),(6,(vb c))] (AWP.seq (AWP.seq (AWP.rg0 [] [(0,(u8 a)),(1,(u8 b)),(6,(vb c)),(11,(vb d))] ?_)))
 refine AWP.cif hF (fun i hF=>?_) (fun i hF=>?_)
 ·refine AWP.seq (AWP.seq (AWP.rg0 [] [(12,(vb c))] ?_))
  refine AWP.cif hF (fun j hF=>?_) (fun j hF=>?_)
  ·refine AWP.seq (AWP.rg0 [] [(4,(i64 (0:Int)))] (AWP.ret ?_))
   have hr:=someb hF
   subst hr
   exact(FnQ.f0 0 (.inr rfl))
  ·refine AWP.skip (AWP.seq (AWP.rg0 [] [(4,(i64 (-1:Int)))] (AWP.ret ?_)))
   have hr:=someb hF
   subst hr
   exact(FnQ.f0 0 (.inr rfl))
 ·refine AWP.skip (AWP.seq (AWP.seq (AWP.rg0 [] [(0,(u8 a)),(1,(u8 b)),(13,(vb c))] ?_)))
  refine AWP.cif hF (fun k hF=>?_) (fun k hF=>?_)
  ·refine AWP.seq (AWP.rg0 [] [(4,(i64 (1:Int)))] (AWP.ret ?_))
   have hr:=someb hF
   subst hr
   exact(FnQ.f0 0 (.inr rfl))
  ·refine AWP.skip (AWP.seq (AWP.seq (AWP.rg0 [] [(0,(u8 a)),(1,(u8 b)),(16,(vb (decide (a<b))))] ?_)))
   refine AWP.cif hF (fun l hF=>?_) (fun l hF=>?_)
   ·refine AWP.seq (AWP.rg0 [] [(4,(i64 (-1:Int)))] (AWP.ret ?_))
    have hr:=someb hF
    subst hr
    exact(FnQ.f0 0 (.inr rfl))
   ·refine AWP.skip (AWP.seq (AWP.seq (AWP.rg0 [] [(19,(vb (decide (a > b))))] ?_)))
    refine AWP.cif hF (fun m hF=>?_) (fun m hF=>?_)
    ·refine AWP.seq (AWP.rg0 [] [(4,(i64 (1:Int)))] (AWP.ret ?_))
     have hr:=someb hF
     subst hr
     exact(FnQ.f0 0 (.inr rfl))
    ·refine AWP.skip (AWP.seq (AWP.rg0 [] [(4,(i64 (0:Int)))] (AWP.ret ?_)))
     have hr:=someb hF
     subst hr
     exact(FnQ.f0 0 (.inr rfl))
def Zgr (r:Bool):PV→List Blk→Prop:=fun p K=>p=(vb r)∧K=[]
theorem Zd0 (a:Int) (r:Bool) (hF:Zbi a=some r):ACall Tryd.prog glob 75 [(u16 a)] [] (Zgr r):=by
 refine ACall.body Tryd.func75 rfl (by kernel_rfl) ?_
 unfold Zbi at hF
 refine AWP.seq (AWP.rg0 [] [(0,(u16 a))] (AWP.seq (AWP.rg0 [] [(2,(vb (a != a)))] (AWP.ret ?_))))
 have hr:=someb hF
 subst hr
 exact(FnQ.f0 0 (.inr rfl))
def Zfq (r:Int):PV→List Blk→Prop:=fun p K=>p=(i64 r)∧K=[]
theorem Zdf (a:Int) (b:Int) (r:Int) (hF:Zat a b=some r):ACall Tryd.prog glob 55 [(u16 a),(u16 b)] [] (Zfq r):=by
 refine ACall.body Tryd.func55 rfl (by kernel_rfl) ?_
 unfold Zat at hF
 refine AWP.seq (AWP.rg0 [] [(0,(u16 a)),(1,(u16 b))] (AWP.seq ?_))
 obtain⟨d,f,hF⟩:=bindb hF
 refine AWP.rg0 [(1,.call Tryd.func75 [] (Zd0 a d f))] [(0,(u16 a)),(1,(u16 b)),(5,(vb d))] (AWP.seq ?_)
 obtain⟨c,g,hF⟩:=bindb hF
 refine AWP.rg0 [(1,.call Tryd.func75 [] (Zd0 b c g))] [(0,(u16 a)),(1,(u16 b)),(5,(vb d)),(6,(vb c))] (AWP.seq (AWP.seq (AWP.rg0 [] [(0,(u16 a)),(1,(u16 b)),(6,(vb c)),(11,(vb d))] ?_)))
 refine AWP.cif hF (fun i hF=>?_) (fun i hF=>?_)
 ·refine AWP.seq (AWP.seq (AWP.rg0 [] [(12,(vb c))] ?_))
  refine AWP.cif hF (fun j hF=>?_) (fun j hF=>?_)
  ·refine AWP.seq (AWP.rg0 [] [(4,(i64 (0:Int)))] (AWP.ret ?_))
   have hr:=someb hF
   subst hr
   exact(FnQ.f0 0 (.inr rfl))
  ·refine AWP.skip (AWP.seq (AWP.rg0 [] [(4,(i64 (-1:Int)))] (AWP.ret ?_)))
   have hr:=someb hF
   subst hr
   exact(FnQ.f0 0 (.inr rfl))
 ·refine AWP.skip (AWP.seq (AWP.seq (AWP.rg0 [] [(0,(u16 a)),(1,(u16 b)),(13,(vb c))] ?_)))
  refine AWP.cif hF (fun k hF=>?_) (fun k hF=>?_)
  ·refine AWP.seq (AWP.rg0 [] [(4,(i64 (1:Int)))] (AWP.ret ?_))
   have hr:=someb hF
   subst hr
   exact(FnQ.f0 0 (.inr rfl))
  ·refine AWP.skip (AWP.seq (AWP.seq (AWP.rg0 [] [(0,(u16 a)),(1,(u16 b)),(16,(vb (decide (a<b))))] ?_)))
   refine AWP.cif hF (fun l hF=>?_) (fun l hF=>?_)
   ·refine AWP.seq (AWP.rg0 [] [(4,(i64 (-1:Int)))] (AWP.ret ?_))
    have hr:=someb hF
    subst hr
    exact(FnQ.f0 0 (.inr rfl))
   ·refine AWP.skip (AWP.seq (AWP.seq (AWP.rg0 [] [(19,(vb (decide (a > b))))] ?_)))
    refine AWP.cif hF (fun m hF=>?_) (fun m hF=>?_)
    ·refine AWP.seq (AWP.rg0 [] [(4,(i64 (1:Int)))] (AWP.ret ?_))
     have hr:=someb hF
     subst hr
     exact(FnQ.f0 0 (.inr rfl))
    ·refine AWP.skip (AWP.seq (AWP.rg0 [] [(4,(i64 (0:Int)))] (AWP.ret ?_)))
     have hr:=someb hF
     subst hr
     exact(FnQ.f0 0 (.inr rfl))
def Zgs (r:Int):PV→List Blk→Prop:=fun p K=>p=(i64 r)∧K=[]
abbrev Zki (r:Int):Exit→St→List Blk→Prop:=FnQ Tryd.prog Tryd.f52.results 0 (Zgs r)
theorem Zkj (a:(List Int)) (r:Int) (hF:Zcs a=some r):ACall Tryd.prog glob 52 [(slc 1 Zab a)] [] (Zgs r):=by
 refine ACall.body Tryd.func52 rfl (by kernel_rfl) ?_
 unfold Zcs at hF
 refine AWP.seq (AWP.rg0 [] [(0,(slc 1 Zab a))] (AWP.seq (AWP.rg0 [] [(0,(slc 1 Zab a)),(3,(i64 (0:Int)))] (AWP.seq (AWP.seq (AWP.rg0 [(1,.len Zab a)] [(3,(i64 (0:Int))),(6,(slc 1 Zab a)),(7,(i64 (List.length a:Int))),(8,(i64 (0:Int)))] ?_))))))
 obtain⟨d,g,hF⟩:=bindb hF
 refine AWP.mid (fun e st H=>(e=.normal∧d=(.inl ())∧st=[(3,(i64 (0:Int)))]∧H=[])∨(e=.ret∧∃ r,d=(.inr r)∧Zki r e st H)) ?_ ?_
 ·clear hF
  refine AWP.kp [3,6,7,8] 0 ?_
  refine AWP.bround (fun n st H=>∃ b,Za7 a n b=some d∧st=[(3,(i64 (0:Int))),(6,(slc 1 Zab a)),(7,(i64 (List.length a:Int))),(8,(i64 b))]∧H=[]) fuel ⟨(0:Int),g,by kernel_rfl,by kernel_rfl⟩ ?_
  rintro f st H ⟨b,hF,rfl,rfl⟩
  cases f with
  | zero=>exact noneb hF
  | succ f=>
   rw [Za7] at hF
   refine AWP.seq (AWP.rg0 [] [(3,(i64 (0:Int))),(6,(slc 1 Zab a)),(7,(i64 (List.length a:Int))),(8,(i64 b)),(9,(vb (decide (b<(List.length a:Int)))))] (AWP.seq ?_))
   refine AWP.cif hF (fun i hF=>?_) (fun i hF=>?_)
   ·refine AWP.skip (AWP.seq (AWP.block (AWP.seq ?_)))
    obtain⟨c,j,hF⟩:=bindb hF
    refine AWP.rg0 [(0,.idx Zab j)] [(3,(i64 (0:Int))),(5,(i64 c)),(6,(slc 1 Zab a)),(7,(i64 (List.length a:Int))),(8,(i64 b))] (AWP.seq (AWP.rg0 [] [(3,(i64 (0:Int))),(5,(i64 c)),(6,(slc 1 Zab a)),(7,(i64 (List.length a:Int))),(8,(i64 b)),(14,(vb (c != (0:Int))))] ?_))
    refine AWP.cif hF (fun k hF=>?_) (fun k hF=>?_)
    ·refine AWP.seq (AWP.rg0 [] [(2,(i64 c))] (AWP.ret ?_))
     exact LeQ.of (.inr ⟨rfl,c,(someb hF).symm,(FnQ.f0 0 (.inr rfl))⟩)
    ·refine AWP.skip (AWP.rg0 [] [(3,(i64 (0:Int))),(6,(slc 1 Zab a)),(7,(i64 (List.length a:Int))),(8,(i64 (ZI (b + (1:Int)))))] (LeQ.start (LeQ.pk [3,6,7,8] 0 ?_)))
     exact⟨f,Nat.lt_succ_self _,(ZI (b + (1:Int))),hF,by kernel_rfl,by kernel_rfl⟩
   ·refine AWP.exit (LeQ.start (LeQ.pk [3] 0 ?_))
    exact(.inl ⟨rfl,(someb hF).symm,by kernel_rfl,by kernel_rfl⟩)
 ·rintro _ _ _ (⟨rfl,rfl,rfl,rfl⟩ | ⟨rfl,l,rfl,hq⟩)
  ·refine AWP.seq (AWP.rg0 [] [(2,(i64 (0:Int)))] (AWP.ret ?_))
   have hr:=someb hF
   subst hr
   exact(FnQ.f0 0 (.inr rfl))
  ·have hr:=someb hF
   subst hr
   exact hq
def Zf7 (r:Int):PV→List Blk→Prop:=fun p K=>p=(i64 r)∧K=[]
theorem Zf8 (a:Za) (b:Za) (r:Int) (hF:Zbc a b=some r):ACall Tryd.prog glob 41 [(Zv a),(Zv b)] [] (Zf7 r):=by
 refine ACall.body Tryd.func41 rfl (by kernel_rfl) ?_
 unfold Zbc at hF
 refine AWP.seq (AWP.rg [] [(2,(.ptr 0 0)),(3,(.ptr 1 0))] [.cells (Zc a),.cells (Zc b)] (AWP.seq ?_))
 obtain⟨c,k,hF⟩:=bindb hF
 obtain⟨d,l,hF⟩:=bindb hF
 obtain⟨f,m,hF⟩:=bindb hF
 obtain⟨g,n,hF⟩:=bindb hF
 obtain⟨i,o,hF⟩:=bindb hF
 obtain⟨j,p,hF⟩:=bindb hF
 refine AWP.dr [(4,.call Tryd.func53 [] (Zde a.Src b.Src c k)),(9,.call Tryd.func53 [] (Zde a.Dst b.Dst d l)),(14,.call Tryd.func54 [] (Zf6 a.Proto b.Proto f m)),(19,.call Tryd.func55 [] (Zdf a.SrcPort b.SrcPort g n)),(24,.call Tryd.func55 [] (Zdf a.DstPort b.DstPort i o)),(26,.call Tryd.func52 [] (Zkj [c,d,f,g,i] j p))] 27 [] [] [] [(4,(i64 j))] [.cells (Zc a),.cells (Zc b)] (AWP.ret ?_)
 have hr:=someb hF
 subst hr
 exact(FnQ.f0 0 (.inr rfl))
def Zem (r:Int):PV→List Blk→Prop:=fun p K=>p=(i64 r)∧K=[]
theorem Zen (a:Zb) (b:Zb) (r:Int) (hF:Z2 a b=some r):ACall Tryd.prog glob 40 [(Zal a),(Zal b)] [] (Zem r):=by
 refine ACall.body Tryd.func40 rfl (by kernel_rfl) ?_
 unfold Z2 at hF
 refine AWP.seq (AWP.rg [] [(2,(.ptr 0 0)),(3,(.ptr 1 0))] [.cells (Zf a),.cells (Zf b)] (AWP.seq ?_))
 obtain⟨c,d,hF⟩:=bindb hF
 refine AWP.rg0 [(4,.call Tryd.func41 [] (Zf8 a.Real b.Real c d))] [(4,(i64 c))] (AWP.ret ?_)
 have hr:=someb hF
 subst hr
 exact(FnQ.f0 0 (.inr rfl))
def Ze0 (a:Int) (r:((List Zb) × (List (Za × Zb)))):PV→List Blk→Prop:=fun p K=>p=(slc 21 Zf r.1)∧K=[.fm (List.map (entF Zg Zd) r.2),.cells [(i64 a),(.mp 0)]]
theorem Ze1 (c:Int) (p:(List (Za × Zb))) (g:Int) (r:((List Zb) × (List (Za × Zb)))) (hF:Zax c p g=some r):ACall Tryd.prog glob 16 [(.ptr 1 0),(i64 g)] [.fm (List.map (entF Zg Zd) p),.cells [(i64 c),(.mp 0)]] (Ze0 c r):=by
 refine ACall.body Tryd.func16 rfl (by kernel_rfl) ?_
 unfold Zax at hF
 refine AWP.seq (AWP.rg0 [] [(0,(.ptr 1 0)),(1,(i64 g))] (AWP.seq (AWP.seq (AWP.rg0 [(1,.ptrNil)] [(0,(.ptr 1 0)),(1,(i64 g)),(9,(vb false))] ?_))))
 refine AWP.cF ?_
 refine AWP.skip (AWP.seq ?_)
 obtain⟨d,a3,hF⟩:=bindb hF
 refine AWP.rg [(2,.callS Tryd.func24 [0,1] [] (Zb0 c p g d a3))] [(0,(.ptr 1 0))] [.fm (List.map (entF Zg Zd) d.2),.cells [(i64 c),(.mp 0)]] (AWP.seq (AWP.rg0 [] [(0,(.ptr 1 0)),(5,nils)] ?_))
 refine AWP.own (H':=[.fm (List.map (entF Zg Zd) d.2),.cells [(i64 c),(.mp 0)],bf 21 46 Zf ([]:(List Zb)) false]) (st':=[(5,(.own 2 (List.length ([]:(List Zb))))),(0,(.ptr 1 0))]) 5 21 46 (by kernel_rfl) (by kernel_rfl) (by kernel_rfl) ?_
 refine AWP.pick (st':=[(0,(.ptr 1 0)),(5,(.own 2 (List.length ([]:(List Zb)))))]) (ks:=[0,5]) (by kernel_rfl) ?_
 refine AWP.seq (AWP.seq ?_)
 refine AWP.openM Zg Zd d.2 0 (fun a0 a a4=>?_)
 refine AWP.rg [(4,.rngE)] [(5,(.own 2 (List.length ([]:(List Zb))))),(17,(.ptr 3 0))] [.map (List.map (entT Zg Zd) a0) a,.cells [(i64 c),(.mp 0)],bf 21 46 Zf ([]:(List Zb)) false,.iter (some 0) a [] a] ?_
 have u:=allpb hF
 clear hF
 refine AWP.kp [5,17] 4 ?_ (hfar:=(farM (farC (by kernel_rfl) (farC (by kernel_rfl) (farC (by kernel_rfl) farN)))))
 refine AWP.mid (fun e st H=>∃ k,∃(j:Empty ⊕ (List Zb)),k.Perm d.2∧mfold (Zae) k ([]:(List Zb))=some j∧overM Zg Zd (fun(s_:(List Zb))=>d.2) (fun(s_:(List Zb))=>[(5,(.own 2 (List.length s_))),(17,(.ptr 3 0))]) (fun(s_:(List Zb)) (x_ y_:Blk)=>[x_,.cells [(i64 c),(.mp 0)],bf 21 46 Zf s_ false,y_]) (fun(_:Empty) _ _ _=>False) 0 a j e st H) ?_ ?_
 ·refine AWP.rangeQ (it:=17) (t:=18) (b:=19) (i:=0) (q:=3) (cl:=a) (kv:=Zg) (vv:=Zd) (B:=Zae) (M:=(fun(s_:(List Zb))=>d.2)) (stf:=(fun(s_:(List Zb))=>[(5,(.own 2 (List.length s_))),(17,(.ptr 3 0))])) (Hf:=(fun(s_:(List Zb)) (x_ y_:Blk)=>[x_,.cells [(i64 c),(.mp 0)],bf 21 46 Zf s_ false,y_])) (Qe:=(fun(_:Empty) _ _ _=>False)) (L:=d.2) (si_:=([]:(List Zb))) (Ei_:=a0) (by kernel_rfl) (fun _=>rfl) (fun _ _ _=>rfl) (fun _ _ _=>rfl) (fun _ _ _ _=>rfl) (fun _ _ _=>rfl) (fun y_ _ _ _ _=>(by cases y_)) a4 rfl (fun l_ h_=>isb (u l_ h_)) rfl rfl ?_ (fun l_ o_ h1_ h2_ e st H h3_=>LeQ.of ⟨l_,o_,h1_,h2_,h3_⟩)
  rintro w m ⟨z,n⟩ f j hF a5 a1
  rw [Zae] at hF
  show AWP _ _ _ _ _ _ [(5,(.own 2 (List.length f))),(17,(.ptr 3 0))] [.map (List.map (entT Zg Zd) w) a,.cells [(i64 c),(.mp 0)],bf 21 46 Zf f false,.iter (some 0) a (m++[z]) a]
  refine AWP.block (AWP.seq (AWP.rg [(0,.entE Zd a1 m a5)] [(5,(.own 2 (List.length f))),(7,(.ptr 4 0)),(17,(.ptr 3 0))] [.map (List.map (entT Zg Zd) w) a,.cells [(i64 c),(.mp 0)],bf 21 46 Zf f false,.iter (some 0) a (m++[z]) a,.cells (Zf n.2)] ?_))
  obtain⟨a6,hF⟩:=chkb hF
  refine AWP.rg [(3,.app Zf (fun _=>by kernel_rfl) a6)] [(5,(.own 2 (List.length (f++[n.2])))),(17,(.ptr 3 0))] [.map (List.map (entT Zg Zd) w) a,.cells [(i64 c),(.mp 0)],bf 21 46 Zf (f++[n.2]) false,.iter (some 0) a (m++[z]) a,.cells (Zf n.2)] (LeQ.start ?_)
  refine LeQ.pk [5,17] 4 ?_ (hfar:=(farM (farC (by kernel_rfl) (farC (by kernel_rfl) (farC (by kernel_rfl) farN)))))
  have hr:=someb hF
  subst hr
  exact roundM.mk a1 (.inl rfl)
 ·rintro e st H ⟨k,j,a7,a8,a9⟩
  have hF:=overb a8 (u k a7)
  clear u
  obtain b0 | f:=j
  ·exact (by cases b0)
  ·obtain⟨rfl,b4,b1,b2,rfl,rfl⟩:=a9
   refine AWP.closeM Zd 0 b2 ?_
   refine AWP.seq ?_
   obtain⟨o,b3,hF⟩:=bindb hF
   obtain⟨a2,hF⟩:=chkb hF
   refine AWP.rg [(1,.callBZ (s:=21) Zf Tryd.func39 (fun _=>rfl) a2 (fun hn sp=>ACall.sortF Tryd.srt39 Tryd.isAgg46 Tryd.sizeOf46 Zb6 (fun _=>rfl) (fun x v hv=>by simp only [Zb6,List.mem_cons,List.not_mem_nil,or_false] at hv; rcases hv with rfl | rfl | rfl | rfl | rfl | rfl | rfl | rfl | rfl | rfl | rfl | rfl | rfl | rfl | rfl | rfl | rfl | rfl | rfl | rfl | rfl <;> rfl) (enters_of Tryd.func40 (by kernel_rfl) rfl) (fun x y r h=>Zen x y r h) b3 hn sp) (ACall.sortF0 Tryd.srt39 _ _))] [(5,(.own 2 (List.length f)))] [.fm (List.map (entF Zg Zd) d.2),.cells [(i64 c),(.mp 0)],bf 21 46 Zf o true,.iter (some 0) a b1 a] ?_
   rw [show ([(5,(.own 2 (List.length f)))]:St)=[(5,(.own 2 (List.length o)))] by simp only [a2]]
   refine AWP.seq (AWP.rg0 [] [(4,(.own 2 (List.length o)))] (AWP.ret ?_))
   have hr:=someb hF
   subst hr
   exact(FnQ.f1 2 (.inr rfl) (.inl (Wk.ownT (i:=2) (s:=21) (t:=46) (l:=o) (sh:=true) (row:=Zf) (by kernel_rfl) (.inl rfl))))
def Ze9 (r:Unit):PV→List Blk→Prop:=fun p K=>p=(.tup [(.sc (.pointer none)),(i64 (2:Int))])∧K=[]
theorem Zfa (a:Int) (r:Unit) (hF:Zcd a=some r):ACall Tryd.prog glob 6 [(i64 a)] [] (Ze9 r):=by
 refine ACall.body Tryd.func6 rfl (by kernel_rfl) ?_
 unfold Zcd at hF
 refine AWP.seq (AWP.rg0 [] [(0,(i64 a))] (AWP.seq (AWP.seq ?_)))
 obtain⟨c,b,hF⟩:=bindb hF
 replace b:=someb b
 refine AWP.to [(0,(i64 a)),(9,(vb (c || (decide (a > (64:Int))))))] [] ?_ ?_
 ·cases c with
  | false=>
   exact AWP.rgT [(2,.bool b)]
  | true=>
   exact AWP.rgT [(2,.bool b)]
 refine AWP.cif hF (fun d hF=>?_) (fun d hF=>?_)
 ·refine AWP.seq (AWP.rg0 [] [(2,(.sc (.pointer none))),(3,(i64 (2:Int)))] (AWP.ret ?_))
  have hr:=someb hF
  subst hr
  exact(FnQ.f0 0 (.inr rfl))
 ·refine AWP.skip (AWP.seq (AWP.rg [(1,.mkM)] [(2,(.ptr 1 0)),(3,(i64 (0:Int)))] [.fm (List.map (entF Zg Zd) ([]:(List (Za × Zb)))),.cells [(i64 a),(.mp 0)]] (AWP.ret ?_)))
  exact noneb hF
def Zbs (r:Bool):PV→List Blk→Prop:=fun p K=>p=(vb r)∧K=[]
abbrev Zah (r:Bool):Exit→St→List Blk→Prop:=FnQ Tryd.prog Tryd.f3.results 0 (Zbs r)
theorem Zc1 (o:(List Int)) (k:Int) (r:Bool) (hF:Zag o k=some r):ACall Tryd.prog glob 3 [(slc 1 Zab o),(i64 k)] [] (Zbs r):=by
 refine ACall.body Tryd.func3 rfl (by kernel_rfl) ?_
 unfold Zag at hF
 refine AWP.seq (AWP.rg0 [] [(0,(slc 1 Zab o)),(1,(i64 k))] (AWP.seq ?_))
 rcases iteb hF with ⟨_,hF⟩ | ⟨_,hF⟩
 ·obtain⟨b,c3,hF⟩:=bindb hF
  refine AWP.rg [(0,.call Tryd.func6 [] (Zgi (8:Int) b c3))] [(0,(slc 1 Zab o)),(1,(i64 k)),(5,(.ptr 1 0)),(6,(i64 (0:Int)))] [.fm (List.map (entF Zg Zd) b.2),.cells [(i64 b.1),(.mp 0)]] (AWP.seq (AWP.seq (AWP.rg0 [(4,.ptrNil)] [(0,(slc 1 Zab o)),(1,(i64 k)),(5,(.ptr 1 0)),(28,(vb false))] ?_)))
  refine AWP.cF ?_
  refine AWP.skip (AWP.seq ?_)
  obtain⟨x,c4,hF⟩:=bindb hF
  refine AWP.rg [(1,.call Tryd.func7 [] (Zkd o x c4))] [(1,(i64 k)),(5,(.ptr 1 0)),(7,(.ptr 2 0))] [.fm (List.map (entF Zg Zd) b.2),.cells [(i64 b.1),(.mp 0)],.cells (Zn x)] (AWP.seq ?_)
  obtain⟨a,c5,hF⟩:=bindb hF
  refine AWP.rg [(0,.call Tryd.func8 [] (Ziy a c5))] [(1,(i64 k)),(5,(.ptr 1 0)),(7,(.ptr 2 0)),(8,(.ptr 3 0))] [.fm (List.map (entF Zg Zd) b.2),.cells [(i64 b.1),(.mp 0)],.cells (Zn x),.cells (Ze a)] (AWP.seq ?_)
  obtain⟨i,c6,hF⟩:=bindb hF
  refine AWP.dr [(2,.call Tryd.func9 [] (Zgj k (4:Int) i c6))] 8 [] [] [] [(5,(.ptr 1 0)),(7,(.ptr 2 0)),(9,(slc 13 Zj [(Zl.mk a (3325256705:Int) (Zh.mk (1024:Int) (IntKind.wrap .u32 ((1024:Int) + (IntKind.wrap .u32 i)))))]))] [.fm (List.map (entF Zg Zd) b.2),.cells [(i64 b.1),(.mp 0)],.cells (Zn x),.cells (Ze a)] (AWP.seq (AWP.seq (AWP.rg0 [] [(5,(.ptr 1 0)),(7,(.ptr 2 0)),(9,(slc 13 Zj [(Zl.mk a (3325256705:Int) (Zh.mk (1024:Int) (IntKind.wrap .u32 ((1024:Int) + (IntKind.wrap .u32 i)))))])),(10,(i64 (0:Int)))] ?_)))
  obtain⟨b0,c7,hF⟩:=bindb hF
  refine AWP.mid (fun e st H=>(e=.normal∧∃ a5,∃ l,b0=(.inl (a5,l))∧st=[(5,(.ptr 1 0))]∧H=[.fm (List.map (entF Zg Zd) a5),.cells [(i64 b.1),(.mp 0)],.cells (Zn l),.cells (Ze a)])∨(e=.ret∧∃ r,b0=(.inr r)∧Zah r e st H)) ?_ ?_
  ·clear hF
   refine AWP.kp [5,7,9,10] 4 ?_
   refine AWP.bround (fun n st H=>∃ v,∃ y,∃ j,Zw b a i n v y j=some b0∧st=[(5,(.ptr 1 0)),(7,(.ptr 2 0)),(9,(slc 13 Zj [(Zl.mk a (3325256705:Int) (Zh.mk (1024:Int) (IntKind.wrap .u32 ((1024:Int) + (IntKind.wrap .u32 i)))))])),(10,(i64 j))]∧H=[.fm (List.map (entF Zg Zd) v),.cells [(i64 b.1),(.mp 0)],.cells (Zn y),.cells (Ze a)]) fuel ⟨b.2,x,(0:Int),c7,by kernel_rfl,by kernel_rfl⟩ ?_
   rintro b1 st H ⟨v,y,j,hF,rfl,rfl⟩
   cases b1 with
   | zero=>exact noneb hF
   | succ b1=>
    rw [Zw] at hF
    refine AWP.seq (AWP.seq (AWP.rg0 [] [(5,(.ptr 1 0)),(7,(.ptr 2 0)),(9,(slc 13 Zj [(Zl.mk a (3325256705:Int) (Zh.mk (1024:Int) (IntKind.wrap .u32 ((1024:Int) + (IntKind.wrap .u32 i)))))])),(10,(i64 j)),(41,(vb (decide (j<(12:Int)))))] ?_))
    refine AWP.cif hF (fun c8 hF=>?_) (fun c8 hF=>?_)
    ·refine AWP.skip ?_
     obtain⟨b7,c9,hF⟩:=bindb hF
     refine AWP.seq ?_
     refine AWP.mid (fun e st H=>(e=.normal∧∃ a6,∃ a7,b7=(.inl (a6,a7))∧st=[(5,(.ptr 1 0)),(7,(.ptr 2 0)),(9,(slc 13 Zj [(Zl.mk a (3325256705:Int) (Zh.mk (1024:Int) (IntKind.wrap .u32 ((1024:Int) + (IntKind.wrap .u32 i)))))])),(10,(i64 j))]∧H=[.fm (List.map (entF Zg Zd) a6),.cells [(i64 b.1),(.mp 0)],.cells (Zn a7),.cells (Ze a)])∨(e=.ret∧∃ r,b7=(.inr r)∧Zah r e st H)) ?_ ?_
     ·clear hF
      have hF:=c9
      refine AWP.block (AWP.seq ?_)
      obtain⟨d,d0,hF⟩:=bindb hF
      refine AWP.rg [(1,.call Tryd.func10 [] (Zin y d d0))] [(5,(.ptr 1 0)),(7,(.ptr 2 0)),(9,(slc 13 Zj [(Zl.mk a (3325256705:Int) (Zh.mk (1024:Int) (IntKind.wrap .u32 ((1024:Int) + (IntKind.wrap .u32 i)))))])),(10,(i64 j)),(11,(.ptr 4 0))] [.fm (List.map (entF Zg Zd) v),.cells [(i64 b.1),(.mp 0)],.cells (Zn d.2),.cells (Ze a),.cells (Zc d.1)] (AWP.seq ?_)
      obtain⟨f,d1,hF⟩:=bindb hF
      refine AWP.rg [(3,.callS Tryd.func11 [0,1] [] (Zel b.1 v (1:Int) d.1 ByteArray.empty [(Zl.mk a (3325256705:Int) (Zh.mk (1024:Int) (IntKind.wrap .u32 ((1024:Int) + (IntKind.wrap .u32 i)))))] true (0:Int) f d1))] [(5,(.ptr 1 0)),(7,(.ptr 2 0)),(9,(slc 13 Zj [(Zl.mk a (3325256705:Int) (Zh.mk (1024:Int) (IntKind.wrap .u32 ((1024:Int) + (IntKind.wrap .u32 i)))))])),(10,(i64 j)),(11,(.ptr 4 0)),(12,(.ptr 5 0)),(13,(i64 f.2.1))] [.fm (List.map (entF Zg Zd) f.2.2),.cells [(i64 b.1),(.mp 0)],.cells (Zn d.2),.cells (Ze a),.cells (Zc d.1),.cells (Zc f.1)] (AWP.seq (AWP.seq (AWP.rg0 [] [(5,(.ptr 1 0)),(7,(.ptr 2 0)),(9,(slc 13 Zj [(Zl.mk a (3325256705:Int) (Zh.mk (1024:Int) (IntKind.wrap .u32 ((1024:Int) + (IntKind.wrap .u32 i)))))])),(10,(i64 j)),(11,(.ptr 4 0)),(12,(.ptr 5 0)),(54,(vb (f.2.1 != (0:Int))))] ?_)))
      refine AWP.cif hF (fun d2 hF=>?_) (fun d2 hF=>?_)
      ·refine AWP.exit (LeQ.start (LeQ.pk [5,7,9,10] 4 ?_))
       exact(.inl ⟨rfl,f.2.2,d.2,(someb hF).symm,by kernel_rfl,by kernel_rfl⟩)
      ·refine AWP.skip (AWP.seq ?_)
       obtain⟨b8,d3,hF⟩:=bindb hF
       obtain⟨p,d4,hF⟩:=bindb hF
       refine AWP.rg [(2,.call Tryd.func13 [] (Zgn f.1 b8 d3)),(3,.callS Tryd.func12 [0,1] [] (Zdx b.1 f.2.2 (1:Int) b8 (0:Int) p d4))] [(5,(.ptr 1 0)),(7,(.ptr 2 0)),(9,(slc 13 Zj [(Zl.mk a (3325256705:Int) (Zh.mk (1024:Int) (IntKind.wrap .u32 ((1024:Int) + (IntKind.wrap .u32 i)))))])),(10,(i64 j)),(11,(.ptr 4 0)),(12,(.ptr 5 0)),(14,(.ptr 6 0)),(15,(vb p.2.1))] [.fm (List.map (entF Zg Zd) p.2.2),.cells [(i64 b.1),(.mp 0)],.cells (Zn d.2),.cells (Ze a),.cells (Zc d.1),.cells (Zc f.1),.cells (Zf p.1)] (AWP.seq ?_)
       obtain⟨z,a0,hF⟩:=bindb hF
       obtain⟨m,a1,hF⟩:=bindb hF
       obtain⟨a2,a3,hF⟩:=bindb hF
       obtain⟨d5,s,hF⟩:=bindb hF
       replace s:=someb s
       obtain⟨d6,w,hF⟩:=bindb hF
       replace w:=someb w
       obtain⟨b2,t,hF⟩:=bindb hF
       replace t:=someb t
       refine AWP.to [(5,(.ptr 1 0)),(7,(.ptr 2 0)),(9,(slc 13 Zj [(Zl.mk a (3325256705:Int) (Zh.mk (1024:Int) (IntKind.wrap .u32 ((1024:Int) + (IntKind.wrap .u32 i)))))])),(10,(i64 j)),(84,(vb (b2 || (!(Zi p.1.Real d.1)))))] [.fm (List.map (entF Zg Zd) p.2.2),.cells [(i64 b.1),(.mp 0)],.cells (Zn d.2),.cells (Ze a),.cells (Zc d.1),.cells (Zc f.1),.cells (Zf p.1)] ?_ ?_
       ·cases d5 with
        | false=>
         subst w
         cases b2 with
         | false=>
          exact AWP.drT [(1,.idx Zj a0),(4,.call Tryd.func15 [] (Zbz z d.1 m a1)),(6,.call Tryd.func14 [] (Za3 m f.1 a2 a3)),(8,.bool s),(17,.bool t)] 23 [] [] []
         | true=>
          exact AWP.drT [(1,.idx Zj a0),(4,.call Tryd.func15 [] (Zbz z d.1 m a1)),(6,.call Tryd.func14 [] (Za3 m f.1 a2 a3)),(8,.bool s),(17,.bool t)] 23 [] [] []
        | true=>
         cases d6 with
         | false=>
          cases b2 with
          | false=>
           exact AWP.drT [(1,.idx Zj a0),(4,.call Tryd.func15 [] (Zbz z d.1 m a1)),(6,.call Tryd.func14 [] (Za3 m f.1 a2 a3)),(8,.bool s),(13,.bool w),(17,.bool t)] 23 [] [] []
          | true=>
           exact AWP.drT [(1,.idx Zj a0),(4,.call Tryd.func15 [] (Zbz z d.1 m a1)),(6,.call Tryd.func14 [] (Za3 m f.1 a2 a3)),(8,.bool s),(13,.bool w),(17,.bool t)] 23 [] [] []
         | true=>
          subst t
          exact AWP.drT [(1,.idx Zj a0),(4,.call Tryd.func15 [] (Zbz z d.1 m a1)),(6,.call Tryd.func14 [] (Za3 m f.1 a2 a3)),(8,.bool s),(13,.bool w)] 23 [] [] []
       refine AWP.cif hF (fun d7 hF=>?_) (fun d7 hF=>?_)
       ·refine AWP.seq (AWP.rg0 [] [(4,(vb false))] (AWP.ret ?_))
        exact LeQ.of (.inr ⟨rfl,false,(someb hF).symm,(FnQ.f0 0 (.inr rfl))⟩)
       ·refine AWP.skip (LeQ.start (LeQ.pk [5,7,9,10] 4 ?_))
        exact(.inl ⟨rfl,p.2.2,d.2,(someb hF).symm,by kernel_rfl,by kernel_rfl⟩)
     ·rintro _ _ _ (⟨rfl,a6,a7,rfl,rfl,rfl⟩ | ⟨rfl,d8,rfl,hq⟩)
      ·refine AWP.rg0 [] [(5,(.ptr 1 0)),(7,(.ptr 2 0)),(9,(slc 13 Zj [(Zl.mk a (3325256705:Int) (Zh.mk (1024:Int) (IntKind.wrap .u32 ((1024:Int) + (IntKind.wrap .u32 i)))))])),(10,(i64 (ZI (j + (1:Int)))))] (LeQ.start (LeQ.pk [5,7,9,10] 4 ?_))
       exact⟨b1,Nat.lt_succ_self _,a6,a7,(ZI (j + (1:Int))),hF,by kernel_rfl,by kernel_rfl⟩
      ·exact LeQ.of (.inr ⟨rfl,d8,(someb hF).symm,hq⟩)
    ·refine AWP.exit (LeQ.start (LeQ.pk [5] 4 ?_))
     exact(.inl ⟨rfl,v,y,(someb hF).symm,by kernel_rfl,by kernel_rfl⟩)
  ·rintro _ _ _ (⟨rfl,a5,l,rfl,rfl,rfl⟩ | ⟨rfl,f9,rfl,hq⟩)
   ·refine AWP.seq ?_
    obtain⟨c,d9,hF⟩:=bindb hF
    refine AWP.rg [(1,.callS Tryd.func16 [0,1] [] (Ze1 b.1 a5 (0:Int) c d9))] [(16,(slc 21 Zf c.1))] [.fm (List.map (entF Zg Zd) c.2),.cells [(i64 b.1),(.mp 0)],.cells (Zn l),.cells (Ze a)] (AWP.seq (AWP.seq (AWP.rg0 [] [(16,(slc 21 Zf c.1)),(17,(i64 (0:Int)))] ?_)))
    obtain⟨b3,e0,hF⟩:=bindb hF
    refine AWP.mid (fun e st H=>(e=.normal∧b3=(.inl ())∧st=[(16,(slc 21 Zf c.1))]∧H=[.fm (List.map (entF Zg Zd) c.2),.cells [(i64 b.1),(.mp 0)],.cells (Zn l),.cells (Ze a)])∨(e=.ret∧∃ r,b3=(.inr r)∧Zah r e st H)) ?_ ?_
    ·clear hF
     refine AWP.kp [16,17] 4 ?_
     refine AWP.bround (fun n st H=>∃ g,Zu c n g=some b3∧st=[(16,(slc 21 Zf c.1)),(17,(i64 g))]∧H=[.fm (List.map (entF Zg Zd) c.2),.cells [(i64 b.1),(.mp 0)],.cells (Zn l),.cells (Ze a)]) fuel ⟨(0:Int),e0,by kernel_rfl,by kernel_rfl⟩ ?_
     rintro b4 st H ⟨g,hF,rfl,rfl⟩
     cases b4 with
     | zero=>exact noneb hF
     | succ b4=>
      rw [Zu] at hF
      refine AWP.seq (AWP.seq (AWP.rg0 [(2,.len Zf c.1)] [(16,(slc 21 Zf c.1)),(17,(i64 g)),(90,(vb (decide (g<(List.length c.1:Int)))))] ?_))
      refine AWP.cif hF (fun e1 hF=>?_) (fun e1 hF=>?_)
      ·refine AWP.skip (AWP.seq (AWP.block (AWP.seq (AWP.rg0 [] [(16,(slc 21 Zf c.1)),(17,(i64 g)),(18,(i64 (0:Int)))] ?_))))
       obtain⟨b5,e2,hF⟩:=bindb hF
       refine AWP.mid (fun e st H=>(e=.normal∧b5=(.inl ())∧st=[(16,(slc 21 Zf c.1)),(17,(i64 g))]∧H=[.fm (List.map (entF Zg Zd) c.2),.cells [(i64 b.1),(.mp 0)],.cells (Zn l),.cells (Ze a)])∨(e=.ret∧∃ r,b5=(.inr r)∧Zah r e st H)) ?_ ?_
       ·clear hF
        refine AWP.kp [16,17,18] 4 ?_
        refine AWP.bround (fun n st H=>∃ q,Zt c g n q=some b5∧st=[(16,(slc 21 Zf c.1)),(17,(i64 g)),(18,(i64 q))]∧H=[.fm (List.map (entF Zg Zd) c.2),.cells [(i64 b.1),(.mp 0)],.cells (Zn l),.cells (Ze a)]) fuel ⟨(0:Int),e2,by kernel_rfl,by kernel_rfl⟩ ?_
        rintro b6 st H ⟨q,hF,rfl,rfl⟩
        cases b6 with
        | zero=>exact noneb hF
        | succ b6=>
         rw [Zt] at hF
         refine AWP.seq (AWP.seq (AWP.rg0 [] [(16,(slc 21 Zf c.1)),(17,(i64 g)),(18,(i64 q)),(95,(vb (decide (q<g))))] ?_))
         refine AWP.cif hF (fun e3 hF=>?_) (fun e3 hF=>?_)
         ·refine AWP.skip (AWP.seq (AWP.block (AWP.seq ?_)))
          obtain⟨g0,b9,hF⟩:=bindb hF
          obtain⟨g1,c0,hF⟩:=bindb hF
          obtain⟨e4,a8,hF⟩:=bindb hF
          replace a8:=someb a8
          obtain⟨e5,c1,hF⟩:=bindb hF
          refine AWP.to [(16,(slc 21 Zf c.1)),(17,(i64 g)),(18,(i64 q)),(121,(vb e5))] [.fm (List.map (entF Zg Zd) c.2),.cells [(i64 b.1),(.mp 0)],.cells (Zn l),.cells (Ze a)] ?_ ?_
          ·cases e4 with
           | false=>
            have u:=ifF c1 rfl
            obtain⟨g2,e6,u⟩:=bindb u
            obtain⟨g3,e7,u⟩:=bindb u
            replace u:=someb u
            subst u
            exact AWP.drT [(2,.idx Zf b9),(7,.idx Zf c0),(11,.bool a8),(14,.idx Zf e6),(19,.idx Zf e7)] 24 [] [] []
           | true=>
            have e8:=someb (ifT c1 rfl)
            subst e8
            exact AWP.drT [(2,.idx Zf b9),(7,.idx Zf c0),(11,.bool a8)] 24 [] [] []
          refine AWP.cif hF (fun e9 hF=>?_) (fun e9 hF=>?_)
          ·refine AWP.seq (AWP.rg0 [] [(4,(vb false))] (AWP.ret ?_))
           exact LeQ.of (.inr ⟨rfl,false,(someb hF).symm,(FnQ.f0 0 (.inr rfl))⟩)
          ·refine AWP.skip (AWP.rg0 [] [(16,(slc 21 Zf c.1)),(17,(i64 g)),(18,(i64 (ZI (q + (1:Int)))))] (LeQ.start (LeQ.pk [16,17,18] 4 ?_)))
           exact⟨b6,Nat.lt_succ_self _,(ZI (q + (1:Int))),hF,by kernel_rfl,by kernel_rfl⟩
         ·refine AWP.exit (LeQ.start (LeQ.pk [16,17] 4 ?_))
          exact(.inl ⟨rfl,(someb hF).symm,by kernel_rfl,by kernel_rfl⟩)
       ·rintro _ _ _ (⟨rfl,rfl,rfl,rfl⟩ | ⟨rfl,f1,rfl,hq⟩)
        ·refine AWP.rg0 [] [(16,(slc 21 Zf c.1)),(17,(i64 (ZI (g + (1:Int)))))] (LeQ.start (LeQ.pk [16,17] 4 ?_))
         exact⟨b4,Nat.lt_succ_self _,(ZI (g + (1:Int))),hF,by kernel_rfl,by kernel_rfl⟩
        ·exact LeQ.of (.inr ⟨rfl,f1,(someb hF).symm,hq⟩)
      ·refine AWP.exit (LeQ.start (LeQ.pk [16] 4 ?_))
       exact(.inl ⟨rfl,(someb hF).symm,by kernel_rfl,by kernel_rfl⟩)
    ·rintro _ _ _ (⟨rfl,rfl,rfl,rfl⟩ | ⟨rfl,g4,rfl,hq⟩)
     ·refine AWP.seq ?_
      obtain⟨f2,a9,hF⟩:=bindb hF
      replace a9:=someb a9
      obtain⟨f3,c2,hF⟩:=bindb hF
      refine AWP.to [(4,(vb f3))] [.fm (List.map (entF Zg Zd) c.2),.cells [(i64 b.1),(.mp 0)],.cells (Zn l),.cells (Ze a)] ?_ ?_
      ·cases f2 with
       | false=>
        have f4:=someb (ifF c2 rfl)
        subst f4
        exact AWP.rgT [(1,.len Zf c.1),(3,.bool a9)]
       | true=>
        have a4:=ifT c2 rfl
        obtain⟨f5,f6,a4⟩:=bindb a4
        replace a4:=someb a4
        subst a4
        exact AWP.rgT [(1,.len Zf c.1),(3,.bool a9),(4,.call Tryd.func17 [] (Zil f5 f6))]
      refine AWP.ret ?_
      have hr:=someb hF
      subst hr
      exact(FnQ.f0 0 (.inr rfl))
     ·have hr:=someb hF
      subst hr
      exact hq
   ·have hr:=someb hF
    subst hr
    exact hq
 ·obtain⟨f7,f8,hF⟩:=bindb hF
  refine AWP.rg0 [(0,.call Tryd.func6 [] (Zfa (8:Int) f7 f8))] [(0,(slc 1 Zab o)),(1,(i64 k)),(5,(.sc (.pointer none))),(6,(i64 (2:Int)))] (AWP.seq (AWP.seq (AWP.rg0 [] [(0,(slc 1 Zab o)),(1,(i64 k)),(5,(.sc (.pointer none))),(28,(vb true))] ?_)))
  refine AWP.cT ?_
  refine AWP.seq (AWP.rg0 [] [(4,(vb false))] (AWP.ret ?_))
  have hr:=someb hF
  subst hr
  exact(FnQ.f0 0 (.inr rfl))
end Go.AM
set_option maxRecDepth 100000
namespace Go.AM
open Go
def Ok {α:Type} (x:Option α) (p:α→Prop):Prop:=∃ r,x=some r∧p r
theorem Ok.bind {α γ:Type} {x:Option α} {p:α→Prop} {f:α→Option γ} {q:γ→Prop} (h:Ok x p) (k:∀ v,p v→Ok (f v) q):Ok (x.bind f) q:=by
 obtain⟨v,rfl,hv⟩:=h
 exact k v hv
theorem Ok.ret {α:Type} {r:α} {p:α→Prop} (h:p r):Ok (some r) p:=⟨r,rfl,h⟩
theorem Ok.chk {α:Type} {c:Prop} [Decidable c] {x:Option α} {p:α→Prop} (hc:c) (h:Ok x p):Ok (if c then x else none) p:=by rw [if_pos hc]; exact h
theorem Ok.ite {α:Type} {c:Prop} [Decidable c] {x y:Option α} {p:α→Prop} (h1:c→Ok x p) (h2:¬ c→Ok y p):Ok (if c then x else y) p:=by
 split
 ·exact h1 (by assumption)
 ·exact h2 (by assumption)
theorem Ok.lift {α γ:Type} {b:α} {f:α→Option γ} {q:γ→Prop} (h:Ok (f b) q):Ok ((Option.some b).bind f) q:=h
theorem Ok.mono {α:Type} {x:Option α} {p q:α→Prop} (h:Ok x p) (k:∀ v,p v→q v):Ok x q:=by
 obtain⟨v,h1,h2⟩:=h
 exact⟨v,h1,k v h2⟩
theorem Ok.get {α:Type} {x:Option α} {p:α→Prop} (h:Ok x p) {r:α} (e:x=some r):p r:=by
 obtain⟨v,h1,h2⟩:=h
 rw [h1] at e; cases e; exact h2
theorem Ok.eq {α:Type} {x:Option α} {r:α} (h:Ok x (·=r)):x=some r:=by
 obtain⟨v,h1,rfl⟩:=h; exact h1
theorem Ok.of_eq {α:Type} {x:Option α} {r:α} (h:x=some r):Ok x (·=r):=⟨r,h,rfl⟩
theorem Ok.idx {α:Type} {l:List α} {i:Int} {p:α→Prop} (h0:0≤i) (h1:i<l.length) (h:∀ x∈l,p x):Ok (idx l i) p:=by
 have hi:i.toNat<l.length:=by omega
 exact⟨l[i.toNat],by simp [AM.idx,h0,hi],h _ (List.getElem_mem hi)⟩
theorem Zec {α:Type} {l:List α} {i:Nat} (h:i<l.length):AM.idx l (i:Int)=some l[i]:=by simp [AM.idx,h]
theorem wi64 {x:Int} (h0:-9223372036854775808≤x) (h1:x<9223372036854775808):IntKind.wrap .i64 x=x:=by
 simp only [IntKind.wrap,IntKind.bits,IntKind.signed]
 simp
 omega
theorem wu64 {x:Int} (h0:0≤x) (h1:x<18446744073709551616):IntKind.wrap .u64 x=x:=by
 simp only [IntKind.wrap,IntKind.bits,IntKind.signed]
 simp
 omega
theorem wu32 {x:Int} (h0:0≤x) (h1:x<4294967296):IntKind.wrap .u32 x=x:=by
 simp only [IntKind.wrap,IntKind.bits,IntKind.signed]
 simp
 omega
theorem Zlv (x:Int):0≤IntKind.wrap .u64 x∧IntKind.wrap .u64 x<18446744073709551616:=by
 simp only [IntKind.wrap,IntKind.bits,IntKind.signed]
 simp
 omega
structure TOk (t:Zr):Prop where
 h0:0≤t.f_i
 h1:t.f_i≤t.f_l.length
 h2:(t.f_l.length:Int)<9223372036854775808
theorem New_ok {l:List Int} (h:(l.length:Int)<9223372036854775808):Ok (Zdc l) TOk:=Ok.ret ⟨Int.le_refl 0,by simp,h⟩
theorem Mod_ok {x n:Int} (h1:1≤n) (h2:n<9223372036854775808):Ok (Zcb x n) fun v=>0≤v∧v<n:=by
 unfold Zcb
 have hn:IntKind.wrap .u64 n=n:=wu64 (by omega) (by omega)
 rw [hn]
 have hx:=Zlv x
 have h3:0≤Int.tmod (IntKind.wrap .u64 x) n:=Int.tmod_nonneg _ hx.1
 have h4:Int.tmod (IntKind.wrap .u64 x) n<n:=Int.tmod_lt_of_pos _ (by omega)
 refine Ok.chk (by omega) (Ok.ret ?_)
 rw [wi64 (by omega) (by omega)]
 exact⟨h3,h4⟩
theorem Znf {t:Zr} (ht:TOk t) (n:Int) (h2:n<9223372036854775808):Ok (Zai t n) fun r=>(0≤r.1∧(r.1<n∨r.1=0))∧TOk r.2:=by
 unfold Zai
 refine Ok.lift (Ok.ite (fun hc=>Ok.ret ⟨⟨by simp,.inr rfl⟩,ht⟩) fun hc=>?_)
 simp only [Bool.or_eq_true,decide_eq_true_eq] at hc
 have hc1:¬ n≤1:=fun h=>hc (.inl h)
 have hc2:¬ t.f_i ≥ t.f_l.length:=fun h=>hc (.inr h)
 have h0:=ht.h0
 have h1:=ht.h2
 have e1:IntKind.wrap .i64 (t.f_i + 1)=t.f_i + 1:=wi64 (by omega) (by omega)
 rw [e1]
 have e2:IntKind.wrap .i64 (t.f_i + 1 - 1)=t.f_i:=by rw [Int.add_sub_cancel]; exact wi64 (by omega) (by omega)
 rw [e2]
 refine Ok.bind (Ok.idx (p:=fun _=>True) h0 (by omega) fun _ _=>trivial) fun x _=>?_
 refine Ok.bind (Mod_ok (by omega) h2) fun v hv=>Ok.ret ⟨⟨hv.1,.inl hv.2⟩,?_⟩
 exact⟨by show 0≤t.f_i + 1; omega,by show t.f_i + 1≤t.f_l.length; omega,h1⟩
theorem Zi0 {t:Zr} (ht:TOk t) (n:Int) (h1:1≤n) (h2:n<9223372036854775808):Ok (Zai t n) fun r=>(0≤r.1∧r.1<n)∧TOk r.2:=
 (Znf ht n h2).mono fun r ⟨⟨h3,h4⟩,h5⟩=>⟨⟨h3,by omega⟩,h5⟩
def full:Arr5 Zh:=⟨⟨0,4294967295⟩,⟨0,4294967295⟩,⟨0,255⟩,⟨0,65535⟩,⟨0,65535⟩⟩
theorem Zng:Zcx=some full:=by kernel_rfl
structure ROk (top:Int) (r:Zh):Prop where
 h0:0≤r.Lo
 h1:r.Lo≤r.Hi
 h2:r.Hi≤top
structure RIn (r:Zh):Prop where
 h0:0≤r.Lo
 h1:r.Lo<4294967296
 h2:0≤r.Hi
 h3:r.Hi<4294967296
structure BOk (b:Arr5 Zh):Prop where
 h0:ROk 4294967295 b.x0
 h1:ROk 4294967295 b.x1
 h2:ROk 255 b.x2
 h3:ROk 65535 b.x3
 h4:ROk 65535 b.x4
structure BIn (b:Arr5 Zh):Prop where
 h0:RIn b.x0
 h1:RIn b.x1
 h2:RIn b.x2
 h3:RIn b.x3
 h4:RIn b.x4
def topOf (i:Int):Int:=if i=0 then 4294967295 else if i=1 then 4294967295 else if i=2 then 255 else 65535
theorem Top_eq (f:Int) (h0:0≤f) (h1:f<5):Zcl f=some (topOf f):=by
 have hk:f=0∨f=1∨f=2∨f=3∨f=4:=by omega
 rcases hk with rfl | rfl | rfl | rfl | rfl <;> rfl
theorem fuel6:fuel=1180591620717411303418 + 6:=by kernel_rfl
theorem five {k:Int} (h0:0≤k) (h1:k<5):k=0∨k=1∨k=2∨k=3∨k=4:=by omega
theorem wnext {k:Int} (h0:0≤k) (h1:k<1000000):IntKind.wrap .i64 (k + (1:Int))=k + 1:=wi64 (by omega) (by omega)
def sideBad (top:Int) (r:Zh):Bool:=decide (r.Lo > r.Hi) || decide (r.Hi > top)
theorem Zm0 {k:Int} (h0:0≤k) (h1:k<5):Arr5.get Zbm k=topOf k:=by
 rcases five h0 h1 with rfl | rfl | rfl | rfl | rfl <;> rfl
theorem vstep (b:Arr5 Zh) (n:Nat) {k:Int} (h0:0≤k) (h1:k<5):Zy b (n + 1) k=if sideBad (topOf k) (b.get k)=true then some (.inr false) else Zy b n (k + 1):=by
 rw [Zy,if_pos (decide_eq_true h1),if_pos ⟨h0,h1⟩,if_pos ⟨h0,h1⟩,Zm0 h0 h1,wnext h0 (by omega)]
 unfold sideBad
 cases decide ((b.get k).Lo > (b.get k).Hi) <;> simp
theorem rvstep (b:Arr5 Zh) (n:Nat) {k:Int} (h0:0≤k) (h1:k<5):Zs b (n + 1) k=if sideBad (topOf k) (b.get k)=true then some (.inr false) else Zs b n (k + 1):=by
 rw [Zs,if_pos (decide_eq_true h1),if_pos ⟨h0,h1⟩,if_pos ⟨h0,h1⟩,if_pos ⟨h0,h1⟩,Top_eq k h0 h1,wnext h0 (by omega)]
 unfold sideBad
 cases decide ((b.get k).Lo > (b.get k).Hi) <;> simp
def vB (b:Arr5 Zh):Bool:=
 if sideBad 4294967295 b.x0=true then false else if sideBad 4294967295 b.x1=true then false else if sideBad 255 b.x2=true then false else if sideBad 65535 b.x3=true then false else if sideBad 65535 b.x4=true then false else true
theorem Zkk (b:Arr5 Zh):Zco b=some (vB b):=by
 unfold Zco
 rw [fuel6]
 generalize (1180591620717411303418:Nat)=m
 have s0:Zy b (m + 6) 0=if sideBad 4294967295 b.x0=true then some (.inr false) else Zy b (m + 5) 1:=vstep b (m + 5) (by omega) (by omega)
 have s1:Zy b (m + 5) 1=if sideBad 4294967295 b.x1=true then some (.inr false) else Zy b (m + 4) 2:=vstep b (m + 4) (by omega) (by omega)
 have s2:Zy b (m + 4) 2=if sideBad 255 b.x2=true then some (.inr false) else Zy b (m + 3) 3:=vstep b (m + 3) (by omega) (by omega)
 have s3:Zy b (m + 3) 3=if sideBad 65535 b.x3=true then some (.inr false) else Zy b (m + 2) 4:=vstep b (m + 2) (by omega) (by omega)
 have s4:Zy b (m + 2) 4=if sideBad 65535 b.x4=true then some (.inr false) else Zy b (m + 1) 5:=vstep b (m + 1) (by omega) (by omega)
 have s5:Zy b (m + 1) 5=some (.inl ()):=by rw [Zy]; rfl
 rw [s0,s1,s2,s3,s4,s5]
 unfold vB
 repeat' split
 all_goals first | rfl | (simp_all; done) | skip
theorem Zjj (b:Arr5 Zh):Zbj b=some (vB b):=by
 unfold Zbj
 rw [fuel6]
 generalize (1180591620717411303418:Nat)=m
 have s0:Zs b (m + 6) 0=if sideBad 4294967295 b.x0=true then some (.inr false) else Zs b (m + 5) 1:=rvstep b (m + 5) (by omega) (by omega)
 have s1:Zs b (m + 5) 1=if sideBad 4294967295 b.x1=true then some (.inr false) else Zs b (m + 4) 2:=rvstep b (m + 4) (by omega) (by omega)
 have s2:Zs b (m + 4) 2=if sideBad 255 b.x2=true then some (.inr false) else Zs b (m + 3) 3:=rvstep b (m + 3) (by omega) (by omega)
 have s3:Zs b (m + 3) 3=if sideBad 65535 b.x3=true then some (.inr false) else Zs b (m + 2) 4:=rvstep b (m + 2) (by omega) (by omega)
 have s4:Zs b (m + 2) 4=if sideBad 65535 b.x4=true then some (.inr false) else Zs b (m + 1) 5:=rvstep b (m + 1) (by omega) (by omega)
 have s5:Zs b (m + 1) 5=some (.inl ()):=by rw [Zs]; rfl
 rw [s0,s1,s2,s3,s4,s5]
 unfold vB
 repeat' split
 all_goals first | rfl | (simp_all; done) | skip
theorem BIn.get {b:Arr5 Zh} (h:BIn b) (k:Int):RIn (b.get k):=by
 unfold Arr5.get
 split
 ·exact h.h0
 split
 ·exact h.h1
 split
 ·exact h.h2
 split
 ·exact h.h3
 ·exact h.h4
theorem BIn.set {b:Arr5 Zh} (h:BIn b) {r:Zh} (hr:RIn r) (k:Int):BIn (b.set k r):=by
 unfold Arr5.set
 split
 ·exact⟨hr,h.h1,h.h2,h.h3,h.h4⟩
 split
 ·exact⟨h.h0,hr,h.h2,h.h3,h.h4⟩
 split
 ·exact⟨h.h0,h.h1,hr,h.h3,h.h4⟩
 split
 ·exact⟨h.h0,h.h1,h.h2,hr,h.h4⟩
 ·exact⟨h.h0,h.h1,h.h2,h.h3,hr⟩
theorem Zm1 (m:Nat) (h:m≤1000000000000):∃ n,fuel=n + m + 1:=⟨fuel - m - 1,by unfold fuel; omega⟩
end Go.AM
set_option maxRecDepth 100000
namespace Go.AM
open Go
theorem Zjk {ρ:Type} {L:Nat→Int→Option (Unit ⊕ ρ)} {bad:Int→Bool} {v:ρ}
  (step:∀ n (k:Int),0≤k→k<5→L (n + 1) k=if bad k=true then some (.inr v) else L n (k + 1)) (stop:∀ n,L (n + 1) 5=some (.inl ())) :
  L fuel 0=some (if (bad 0 || bad 1 || bad 2 || bad 3 || bad 4)=true then .inr v else .inl ()):=by
 rw [fuel6]
 rw [step _ 0 (by omega) (by omega),step _ (0 + 1) (by omega) (by omega),step _ (0 + 1 + 1) (by omega) (by omega),step _ (0 + 1 + 1 + 1) (by omega) (by omega),step _ (0 + 1 + 1 + 1 + 1) (by omega) (by omega)]
 rw [show (0:Int) + 1 + 1 + 1 + 1 + 1=5 from rfl,stop,show (0:Int) + 1=1 from rfl,show (1:Int) + 1=2 from rfl,show (2:Int) + 1=3 from rfl,show (3:Int) + 1=4 from rfl]
 cases bad 0 <;> cases bad 1 <;> cases bad 2 <;> cases bad 3 <;> cases bad 4 <;> rfl
theorem Zjl {σ ρ:Type} {L:Nat→σ→Int→Option ρ} {f:σ→Int→σ} {fin:σ→ρ}
  (step:∀ n s (k:Int),0≤k→k<5→L (n + 1) s k=L n (f s k) (k + 1)) (stop:∀ n s,L (n + 1) s 5=some (fin s)) (s:σ) :
  L fuel s 0=some (fin (f (f (f (f (f s 0) 1) 2) 3) 4)):=by
 rw [fuel6]
 rw [step _ _ 0 (by omega) (by omega),step _ _ (0 + 1) (by omega) (by omega),step _ _ (0 + 1 + 1) (by omega) (by omega),step _ _ (0 + 1 + 1 + 1) (by omega) (by omega),step _ _ (0 + 1 + 1 + 1 + 1) (by omega) (by omega)]
 rw [show (0:Int) + 1 + 1 + 1 + 1 + 1=5 from rfl,stop,show (0:Int) + 1=1 from rfl,show (1:Int) + 1=2 from rfl,show (2:Int) + 1=3 from rfl,show (3:Int) + 1=4 from rfl]
theorem wsucc {i:Nat} (h:i<1000000000001):IntKind.wrap .i64 ((i:Int) + (1:Int))=((i + 1:Nat):Int):=by
 rw [wi64 (by omega) (by omega)]; omega
def findI {α ρ:Type} (g:Nat→α→Option ρ):Nat→List α→Option ρ
 | _,[]=>none
 | i,x :: xs=>match g i x with
  | some r=>some r
  | none=>findI g (i + 1) xs
def orS {ρ:Type}:Option ρ→Unit ⊕ ρ
 | some r=>.inr r
 | none=>.inl ()
theorem Zd1 {α ρ:Type} {L:Nat→Int→Option (Unit ⊕ ρ)} (l:List α) (g:Nat→α→Option ρ) (hl:l.length≤1000000000000)
  (step:∀ n (i:Nat) (h:i<l.length),L (n + 1) (i:Int)=match g i l[i] with
   | some r=>some (.inr r)
   | none=>L n ((i + 1:Nat):Int))
  (stop:∀ n,L (n + 1) (l.length:Int)=some (.inl ())):L fuel 0=some (orS (findI g 0 l)):=by
 have key:∀(m n i:Nat),i + m=l.length→L (n + m + 1) (i:Int)=some (orS (findI g i (l.drop i))):=by
  intro m
  induction m with
  | zero=>
   intro n i h
   have hi:i=l.length:=by omega
   subst hi
   rw [List.drop_length]
   exact stop _
  | succ m ih=>
   intro n i h
   have hi:i<l.length:=by omega
   rw [show n + (m + 1) + 1=(n + m + 1) + 1 by omega,step _ i hi,List.drop_eq_getElem_cons hi]
   simp only [findI]
   cases hg:g i l[i] with
   | some r=>rfl
   | none=>exact ih n (i + 1) (by omega)
 obtain⟨f,hf⟩:=Zm1 l.length hl
 rw [hf]
 exact key l.length f 0 (by omega)
end Go.AM
set_option maxRecDepth 100000
namespace Go.AM
open Go
def hv (h:Za):Arr5 Int:=⟨h.Src,h.Dst,h.Proto,h.SrcPort,h.DstPort⟩
theorem Zhw {h:Za} (hh:Zo h):Zbk h=some (hv h):=by
 obtain⟨h1,h2,h3,h4,h5,_⟩:=hh
 unfold ok_u8 at h3; unfold Zbf at h4 h5
 simp only [Zbk,hv]
 rw [wu32 (x:=h.Proto) (by omega) (by omega),wu32 (x:=h.SrcPort) (by omega) (by omega),wu32 (x:=h.DstPort) (by omega) (by omega)]
theorem Zjm {h:Za} (hh:Zo h):Zcr h=some (hv h):=Zhw hh
def outB (b:Arr5 Zh) (v:Arr5 Int) (k:Int):Bool:=decide (v.get k<(b.get k).Lo) || decide (v.get k > (b.get k).Hi)
def allF (f:Int→Bool):Bool:=!(f 0 || f 1 || f 2 || f 3 || f 4)
def cB (b:Arr5 Zh) (h:Za):Bool:=vB b && allF (outB b (hv h))
theorem cstep1 (b:Arr5 Zh) (v:Arr5 Int) (n:Nat) (k:Int) (h0:0≤k) (h1:k<5):Zam b v (n + 1) k=if outB b v k=true then some (.inr false) else Zam b v n (k + 1):=by
 rw [Zam]
 simp only [show k<5 from h1,decide_true,if_true,show 0≤k∧k<5 from ⟨h0,h1⟩,and_self,Option.bind_some,wnext h0 (by omega:k<1000000)]
 unfold outB
 cases decide (v.get k<(b.get k).Lo) <;> simp
theorem cstep2 (b:Arr5 Zh) (v:Arr5 Int) (n:Nat) (k:Int) (h0:0≤k) (h1:k<5):Z9 b v (n + 1) k=if outB b v k=true then some (.inr false) else Z9 b v n (k + 1):=by
 rw [Z9]
 simp only [show k<5 from h1,decide_true,if_true,show 0≤k∧k<5 from ⟨h0,h1⟩,and_self,Option.bind_some,wnext h0 (by omega:k<1000000)]
 unfold outB
 cases decide (v.get k<(b.get k).Lo) <;> simp
theorem Ze2 {h:Za} (hh:Zo h) (b:Arr5 Zh):Zbe b h=some (cB b h):=by
 unfold Zbe cB
 rw [Zkk,Zjm hh]
 simp only [Option.bind_some]
 rw [Zjk (bad:=outB b (hv h)) (cstep1 b (hv h)) (fun n=>by rw [Zam]; rfl)]
 cases vB b
 ·rfl
 ·unfold allF
  cases (outB b (hv h) 0 || outB b (hv h) 1 || outB b (hv h) 2 || outB b (hv h) 3 || outB b (hv h) 4) <;> rfl
theorem Zgt {h:Za} (hh:Zo h) (b:Arr5 Zh):Za1 b h=some (cB b h):=by
 unfold Za1 cB
 rw [Zhw hh]
 simp only [Option.bind_some]
 rw [Zjk (bad:=outB b (hv h)) (cstep2 b (hv h)) (fun n=>by rw [Z9]; rfl),Zjj]
 unfold allF
 cases (outB b (hv h) 0 || outB b (hv h) 1 || outB b (hv h) 2 || outB b (hv h) 3 || outB b (hv h) 4) <;> cases vB b <;> rfl
def orN (o:Option Int):Int:=match o with | some r=>r | none=>-1
end Go.AM

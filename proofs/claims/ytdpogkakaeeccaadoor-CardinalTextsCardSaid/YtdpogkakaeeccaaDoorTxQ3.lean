/- Parts of a proof, printed short. No condition. -/
import Derived.Laws.OwnMore
import Derived.Laws.Cover3
import Derived.Laws.Pointers
import Derived.Laws.BytesString
import Derived.MapKept
import Derived.Laws.Externs
import Derived.Laws.Concat
import Derived.Test.YtdpogkakaeeccaaDoorProg
import Derived.Lib.Mul64
import Derived.Laws.Strings
import Derived.Test.YtdpogkakaeeccaaDoorTxQ2
namespace Go.AM
section
variable {P:Program} {G:Glob} {n0 nt:Nat} {o:Oper} {st:St} {H:List Blk} {ops:Array Oper} {Q:Exit→St→List Blk→Prop} {E:Eval}
theorem key_lt {α:Type}:∀(rs:List (Nat × α)) (j:Nat) (p:α),rs.lookup j=some p→j<rs.foldr (fun x n=>max (x.1 + 1) n) 0
 | [],_,_,h=>by simp at h
 | (i,q) :: rs,j,p,h=>by
  simp only [List.lookup] at h
  simp only [List.foldr_cons]
  split at h
  ·rename_i hj
   have:j=i:=by simpa using hj
   omega
  ·have:=key_lt rs j p h
   omega
mutual
def PV.top:PV→Nat
 | .ptr i _=>i + 1
 | .own i _=>i + 1
 | .ept i _ _ _=>i + 1
 | .mp i=>i + 1
 | .vw i _ _=>i + 1
 | .ow i _ _ _=>i + 1
 | .agg cs=>PV.tops cs
 | .tup cs=>PV.tops cs
 | .fn _ cs=>PV.tops cs
 | _=>0
def PV.tops:List PV→Nat
 | []=>0
 | p :: ps=>max p.top (PV.tops ps)
end
theorem Zft {α:Type} {x y:α} {t:Nat} (h:[x][t]? = some y):y=x:=by
 cases t with
 | zero=>simpa using h.symm
 | succ t=>simp at h
theorem Zeq {k:Nat} {cand give:List Nat} {t0:Tr} {rs:List (Nat × PV)} {Hs:List (List Blk)} {Hf:List Blk} {ch late:List Nat} :
  ∀(l:List Nat) (rs0:List (Nat × PV)) (Hs0:List (List Blk)) (H0:List Blk) (ch0 late0:List Nat),gox P G E ops k cand give t0 l rs0 Hs0 H0 ch0 late0=some (rs,Hs,Hf,ch,late) →
  (∀ j∈l,∃ p,rs.lookup j=some p)∧(∀ j p,rs0.lookup j=some p→∃ q,rs.lookup j=some q)
 | [],rs0,Hs0,H0,ch0,late0,h=>by
  simp only [gox,Option.some.injEq,Prod.mk.injEq] at h
  obtain⟨rfl,_⟩:=h
  exact⟨fun j hj=>by (cases hj),fun j p hp=>⟨p,hp⟩⟩
 | i :: l,rs0,Hs0,H0,ch0,late0,h=>by
  have key:∀ {p:PV} {Hs1:List (List Blk)} {H1:List Blk} {ch1 late1:List Nat},gox P G E ops k cand give t0 l ((i,p) :: rs0) Hs1 H1 ch1 late1=some (rs,Hs,Hf,ch,late) →
    (∀ j∈i :: l,∃ p,rs.lookup j=some p)∧(∀ j p,rs0.lookup j=some p→∃ q,rs.lookup j=some q):=fun {p _ _ _ _} h=>by
   obtain⟨h1,h2⟩:=Zeq l _ _ _ _ _ h
   refine⟨fun j hj=>?_,fun j q hq=>?_⟩
   ·rcases List.mem_cons.1 hj with rfl | hj
    ·exact h2 j p (by simp)
    ·exact h1 j hj
   ·by_cases hji:j=i
    ·subst hji; exact h2 j p (by simp)
    ·exact h2 j q (by rw [Zaw hji]; exact hq)
  simp only [gox] at h
  split at h
  ·cases h
  ·split at h
   ·cases h
   ·exact key h
   ·split at h
    ·split at h
     ·exact key h
     ·cases h
    ·split at h
     ·exact key h
     ·split at h
      ·exact key h
      ·cases h
theorem Zgo {k:Nat} {cand give:List Nat} {t0:Tr} {rs:List (Nat × PV)} {Hs:List (List Blk)} {Hf:List Blk} {ch late:List Nat} (l:List Nat) (rs0:List (Nat × PV)) (Hs0:List (List Blk)) (H0:List Blk) (ch0 late0:List Nat)
  (h:gox P G E ops k cand give t0 l rs0 Hs0 H0 ch0 late0=some (rs,Hs,Hf,ch,late)):∀ j∈l,∃ p,rs.lookup j=some p:=(Zeq l _ _ _ _ _ h).1
theorem Zcf {rs:List (Nat × PV)}:∀(l:List Nat) (t:Tr),(∀ j∈l,match dstJ ops j with | some d=>Nat.blt d 512=true | none=>True)→∀ x∈(putsX ops rs l t).st,(∃ j∈l,dstJ ops j=some x.1∧rs.lookup j=some x.2)∨(x∈t.st∧∀ j∈l,∀ p,rs.lookup j=some p→dstJ ops j ≠ some x.1)
 | [],t,_,x,hx=>.inr ⟨hx,fun j hj=>by cases hj⟩
 | j :: l,t,hd,x,hx=>by
  unfold putsX at hx
  have hd':∀ j∈l,match dstJ ops j with | some d=>Nat.blt d 512=true | none=>True:=fun j hj=>hd j (List.mem_cons_of_mem _ hj)
  split at hx
  ·rename_i d p h1 h2
   have hlt:d<512:=by have:=hd j (by simp); rw [h1] at this; exact Nat.blt_eq ▸ this
   rcases Zcf l _ hd' x hx with ⟨i,hi,h3⟩ | ⟨h3,h4⟩
   ·exact .inl ⟨i,List.mem_cons_of_mem _ hi,h3⟩
   ·rcases List.mem_cons.1 (Zbf hlt x h3) with h5 | h5
    ·exact .inl ⟨j,by simp,by rw [h5]; exact h1,by rw [h5]; exact h2⟩
    ·obtain⟨h6,h7⟩:=List.mem_filter.1 h5
     refine .inr ⟨h6,fun i hi q hq=>?_⟩
     rcases List.mem_cons.1 hi with rfl | hi
     ·rw [h1]; intro e; simp at e; rw [e] at h7; simp at h7
     ·exact h4 i hi q hq
  ·rename_i hno
   rcases Zcf l t hd' x hx with ⟨i,hi,h3⟩ | ⟨h3,h4⟩
   ·exact .inl ⟨i,List.mem_cons_of_mem _ hi,h3⟩
   ·refine .inr ⟨h3,fun i hi q hq=>?_⟩
    rcases List.mem_cons.1 hi with rfl | hi
    ·intro e; exact hno _ _ e hq
    ·exact h4 i hi q hq
theorem ADraw.le {st':St} {H':List Blk} (h:Le G n0 nt st H st' H') (k:ADraw P G n0 nt ops Q st' H'):ADraw P G n0 nt ops Q st H:=fun c a w β l h0 h1 hr hl=>
 let ⟨β',hr'⟩:=h c a w β h0 h1 hr
 k c a w β' l h0 h1 hr' hl
theorem ADraw.draw {st0:St} {res:List PV} {ch:List Nat} {Hs:List (List Blk)} {k:Nat} {Hf:List Blk} {rk:List Nat} (hs:∀ x∈st0,x∈st) (hok:drawOk nt ops ch k rk=true) (hfree:∀ i,i<k→FreeOk P G n0 nt ops st0 res ch Hs k i)
  (hfirst:Hs[0]? = some H) (hlast:Hs[ch.length]? = some Hf) (htail:AOps P G n0 nt ops (List.range' k (ops.size - k)) Q (stL ops st0 res (List.range k)) Hf):ADraw P G n0 nt ops Q st H:=by
 intro c a w β lo h0 h1 hr hlin
 have hl':∀ j,(Array.replicate ops.size false).getD j false=false:=fun j=>by simp [Array.getD]
 have hfil:(List.range k).filter ((Array.replicate ops.size false).getD · false)=[]:=List.filter_eq_nil_iff.2 fun x _=>by simp only [hl']; simp
 refine Zca _ _ _ _ _ (Zda hok hfree hlast htail ops.size (Array.replicate ops.size false) 0 H c a w β h0 h1 (by simp) (by rw [hfil]; simp) (fun i _=>hl' i)
  (fun j _ hj=>by rw [hl'] at hj; cases hj) (fun s x hx=>?_) (Nat.zero_le _) hfirst ?_) hlin
 ·rw [hl']; simp
 ·rw [hfil]
  have h9:stL ops st0 res []=st0:=by simp [stL]
  rw [h9]; exact hr.sub hs
theorem ADraw.drx (hE:E.ok P G) {t t':Tr} {H':List Blk} (h:drx P G E nt ops t H=some (t',H')) (hq:Q .normal t'.st H'):ADraw P G n0 nt ops Q t.st H:=by
 unfold AM.drx at h
 split at h
 ·rename_i hp
  unfold planS at hp
  simp only [Bool.and_eq_true] at hp
  obtain⟨hd,hnd,hall,hds⟩:=hp
  generalize hk:(planOf ops).k=k at *
  generalize ho:(planOf ops).ord=ord at *
  generalize hr:(planOf ops).rk=rk at *
  generalize (planOf ops).cand=cand at *
  generalize (planOf ops).give=give at *
  generalize hs:shareX (planOf ops).keep t H=r at *
  obtain⟨t0,H0⟩:=r
  simp only [] at h
  split at h
  ·cases h
  ·rename_i rs Hs Hf ch late hg
   split at h
   ·rename_i hc
    simp only [Bool.and_eq_true,Bool.or_eq_true,List.isEmpty_iff] at hc
    refine ADraw.le (st':=t0.st) (H':=H0) (fun c a w β _ _ hr=>by
     have:=Z1 (G:=G) (planOf ops).keep t H c a w β hr
     rw [hs] at this
     exact this) ?_
    let N:=rs.foldr (fun x n=>max (x.1 + 1) n) 0
    let res:List PV:=(List.range N).map fun i=>(rs.lookup i).getD (.sc undef)
    have hres:∀ j p,rs.lookup j=some p→res[j]? = some p:=fun j p hp=>by
     have:j<N:=key_lt rs j p hp
     simp [res,this,hp]
    have hchk:chOk ops ch.reverse k=true:=by
     rcases hc.1 with rfl | h1
     ·simp [chOk]
     ·exact h1
    obtain⟨_,⟨t,g2⟩,⟨c,g3,g3'⟩,_,g5,g6⟩:=gox_ok (n0:=n0) hE hres rfl rfl ord [] [] H0 [] [] hg (of_decide_eq_true hnd) (fun _ _=>rfl) (fun _ h=>by cases h) rfl
    have hdone:=Zgo ord [] [] H0 [] [] hg
    have hfree:∀ i,i<k→FreeOk P G n0 nt ops t0.st res ch.reverse (Hf :: Hs).reverse k i:=fun i hi=>by
     have hio:i∈ord:=by
      have:=List.all_eq_true.1 hall i (List.mem_range.2 hi)
      simpa using this
     rcases g6 i hio with h1 | ⟨hl,o,p,t,H1,ho,hni,hw,hp,ht,hop⟩
     ·exact h1
     ·refine .quiet o p ho hni hw hp fun t' H' ht' hpos=>?_
      rcases hc.2 with rfl | h2
      ·have hs0:Hs=[]:=List.eq_nil_of_length_eq_zero (by rw [← g5]; rfl)
       subst hs0
       simp only [List.reverse_cons,List.reverse_nil,List.nil_append] at ht ht'
       have e1:H1=Hf:=Zft ht
       have e2:H'=Hf:=Zft ht'
       subst e1 e2
       exact hop
      ·have:=List.all_eq_true.1 h2 i hl
       unfold lateOne at this
       rw [ho] at this
       split at this
       ·rename_i o' p' ho' hp'
        simp only [Option.some.injEq] at ho'; subst ho'
        have h3:=hres _ _ hp'
        rw [hp] at h3
        simp only [Option.some.injEq] at h3; subst h3
        exact Zdx hres _ 0 this t' H' ht' (by rw [Nat.zero_add]; exact hpos)
       ·cases this
    refine ADraw.draw (st0:=t0.st) (res:=res) (ch:=ch.reverse) (Hs:=(Hf :: Hs).reverse) (k:=k) (Hf:=Hf) (rk:=rk) (fun _ h=>h) (Zgf hd hchk) hfree ?_ ?_ ?_
    ·rw [g2]; simp
    ·simp [g5]
    ·refine AOps.sub ?_ (AOps.sqx hE _ _ _ _ _ h hq)
     intro x hx
     have hall':∀ j∈List.range k,match dstJ ops j with | some d=>Nat.blt d 512=true | none=>True:=fun j hj=>by
      have h3:=List.all_eq_true.1 hds j hj
      cases hdj:dstJ ops j with
      | none=>trivial
      | some d=>rw [hdj] at h3; exact h3
     rcases Zcf _ _ hall' x hx with ⟨j,hj,h1,h2⟩ | ⟨h1,h2⟩
     ·refine List.mem_append_left _ (List.mem_filterMap.2 ⟨j,hj,?_⟩)
      have h1':(ops[j]?).bind (·.dst)=some x.1:=h1
      rw [h1',hres _ _ h2]
     ·refine List.mem_append_right _ (List.mem_filter.2 ⟨h1,List.all_eq_true.2 fun j hj=>?_⟩)
      have hjk:j<k:=List.mem_range.1 hj
      obtain⟨p,hp⟩:=hdone j (by have:=List.all_eq_true.1 hall j hj; simpa using this)
      have h9:¬ ((ops[j]?).bind (·.dst)=some x.1):=h2 j hj p hp
      simpa using h9
   ·cases h
 ·cases h
def oeq:Option PV→Option PV→Bool
 | none,none=>true
 | some p,some q=>peq p q
 | _,_=>false
theorem oeq_eq {a b:Option PV} (h:oeq a b=true):a=b:=by
 unfold oeq at h
 split at h
 ·rfl
 ·rw [peq_eq _ _ h]
 ·cases h
def N8.eqs {α:Type} (f:α→α→Bool) (s t:N8 α):Bool:=match s,t with
 | .mk a b c d e g h i,.mk a' b' c' d' e' g' h' i'=>f a a' && f b b' && f c c' && f d d' && f e e' && f g g' && f h h' && f i i'
theorem N8.eqs_eq {α:Type} {f:α→α→Bool} (hf:∀ a b,f a b=true→a=b) {s t:N8 α} (h:N8.eqs f s t=true):s=t:=by
 cases s; cases t
 simp only [N8.eqs,Bool.and_eq_true] at h
 obtain⟨⟨⟨⟨⟨⟨⟨h1,h2⟩,h3⟩,h4⟩,h5⟩,h6⟩,h7⟩,h8⟩:=h
 rw [hf _ _ h1,hf _ _ h2,hf _ _ h3,hf _ _ h4,hf _ _ h5,hf _ _ h6,hf _ _ h7,hf _ _ h8]
def teq (s t:Tr):Bool:=N8.eqs (N8.eqs (N8.eqs oeq)) s t
theorem teq_eq {s t:Tr} (h:teq s t=true):s=t:=N8.eqs_eq (fun _ _ h=>N8.eqs_eq (fun _ _ h=>N8.eqs_eq (fun _ _ h=>oeq_eq h) h) h) h
def eeqs:List Ent→List Ent→Bool
 | [],[]=>true
 | x :: xs,y :: ys=>Nat.beq x.1 y.1 && veq x.2.1 y.2.1 && peq x.2.2 y.2.2 && eeqs xs ys
 | _,_=>false
theorem Zfu:∀(xs ys:List Ent),eeqs xs ys=true→xs=ys
 | [],[],_=>rfl
 | [],_ :: _,h=>by simp [eeqs] at h
 | _ :: _,[],h=>by simp [eeqs] at h
 | (a,b,c) :: xs,(a',b',c') :: ys,h=>by
  simp only [eeqs,Bool.and_eq_true] at h
  rw [Nat.eq_of_beq_eq_true h.1.1.1,veq_eq _ _ h.1.1.2,peq_eq _ _ h.1.2,Zfu xs ys h.2]
def neqs:List Nat→List Nat→Bool
 | [],[]=>true
 | x :: xs,y :: ys=>Nat.beq x y && neqs xs ys
 | _,_=>false
theorem Zfv:∀(xs ys:List Nat),neqs xs ys=true→xs=ys
 | [],[],_=>rfl
 | [],_ :: _,h=>by simp [neqs] at h
 | _ :: _,[],h=>by simp [neqs] at h
 | x :: xs,y :: ys,h=>by
  simp only [neqs,Bool.and_eq_true] at h
  rw [Nat.eq_of_beq_eq_true h.1,Zfv xs ys h.2]
def beqB:Blk→Blk→Bool
 | .cells cs,.cells ds=>peqs cs ds
 | .far cs,.far ds=>peqs cs ds
 | .buf s t xs sh,.buf s' t' ys sh'=>Nat.beq s s' && Nat.beq t t' && peqss xs ys && (sh == sh')
 | .map es c,.map es' c'=>eeqs es es' && Nat.beq c c'
 | .iter (some m) a s l,.iter (some m') a' s' l'=>Nat.beq m m' && Nat.beq a a' && neqs s s' && Nat.beq l l'
 | _,_=>false
theorem Zgz {a b:Blk} (h:beqB a b=true):a=b:=by
 unfold beqB at h
 split at h
 ·rw [peqs_eq _ _ h]
 ·rw [peqs_eq _ _ h]
 ·simp only [Bool.and_eq_true,beq_iff_eq] at h
  rw [Nat.eq_of_beq_eq_true h.1.1.1,Nat.eq_of_beq_eq_true h.1.1.2,peqss_eq _ _ h.1.2,h.2]
 ·simp only [Bool.and_eq_true] at h
  rw [Zfu _ _ h.1,Nat.eq_of_beq_eq_true h.2]
 ·simp only [Bool.and_eq_true] at h
  rw [Nat.eq_of_beq_eq_true h.1.1.1,Nat.eq_of_beq_eq_true h.1.1.2,Zfv _ _ h.1.2,Nat.eq_of_beq_eq_true h.2]
 ·cases h
def heqs:List Blk→List Blk→Bool
 | [],[]=>true
 | x :: xs,y :: ys=>beqB x y && heqs xs ys
 | _,_=>false
theorem Zfw:∀(xs ys:List Blk),heqs xs ys=true→xs=ys
 | [],[],_=>rfl
 | [],_ :: _,h=>by simp [heqs] at h
 | _ :: _,[],h=>by simp [heqs] at h
 | x :: xs,y :: ys,h=>by
  simp only [heqs,Bool.and_eq_true] at h
  rw [Zgz h.1,Zfw xs ys h.2]
def badPair (ops:Array Oper):List Nat→Option (Nat × Nat)
 | x :: y :: l=>match ops[y]? with
  | some o=>if (bindsOn o).contains x then badPair ops (y :: l) else some (x,y)
  | none=>none
 | _=>none
def memsOf (ops:Array Oper):List Nat:=(List.range (kOf ops)).filter fun i=>match ops[i]? with | some o=>isMem o && !isLook o | none=>false
def drE (P:Program) (G:Glob) (E:Eval) (nt:Nat):Nat→Array Oper→Tr→List Blk→Option (Tr × List Blk)
 | 0,ops,t,H=>drx P G E nt ops t H
 | f + 1,ops,t,H=>match drx P G E nt ops t H with
  | some r=>some r
  | none=>match badPair ops (memsOf ops) with
   | some (x,y)=>match Nat.beq x y with
    | true=>none
    | false=>match drE P G E nt f (addEdge ops x y) t H with
     | some (t1,H1)=>match drE P G E nt f (addEdge ops y x) t H with
      | some (t2,H2)=>match teq t1 t2 && heqs H1 H2 with
       | true=>some (t1,H1)
       | false=>none
      | none=>none
     | none=>none
   | none=>none
theorem ADraw.drE (hE:E.ok P G) {Q:Exit→St→List Blk→Prop}:∀(f:Nat) (ops:Array Oper) (t t':Tr) (H H':List Blk),drE P G E nt f ops t H=some (t',H')→Q .normal t'.st H'→ADraw P G n0 nt ops Q t.st H
 | 0,_,_,_,_,_,h,hq=>ADraw.drx hE h hq
 | f + 1,ops,t,t',H,H',h,hq=>by
  unfold AM.drE at h
  split at h
  ·rename_i r hr
   simp only [Option.some.injEq] at h
   subst h
   exact ADraw.drx hE hr hq
  ·split at h
   ·rename_i x y _
    split at h
    ·cases h
    ·rename_i hxy
     split at h
     ·rename_i t1 H1 h1
      split at h
      ·rename_i t2 H2 h2
       split at h
       ·rename_i hc
        simp only [Bool.and_eq_true] at hc
        simp only [Option.some.injEq,Prod.mk.injEq] at h
        obtain⟨rfl,rfl⟩:=h
        have e1:=teq_eq hc.1
        have e2:=Zfw _ _ hc.2
        subst e1 e2
        exact ADraw.either x y hxy (ADraw.drE hE f _ _ _ _ _ h1 hq) (ADraw.drE hE f _ _ _ _ _ h2 hq)
       ·cases h
      ·cases h
     ·cases h
   ·cases h
theorem AWP.drE {id:Nat} (hE:E.ok P G) (hm:P.follows .mixedOrders=true) {f:Nat} {t t':Tr} {H':List Blk} (h:drE P G E nt f ops t H=some (t',H')) (hq:Q .normal t'.st H'):AWP P G n0 nt (.region id ops true) Q t.st H:=AWP.of_draw hm (ADraw.drE hE f ops t t' H H' h hq)
def slotsOf (rs:Array ResultVar):List Nat:=rs.toList.map fun r=>match r with
 | .tmp t=>t
 | .cell t _=>t
def Blk.top:Blk→Nat
 | .far cs=>PV.tops cs
 | .map es _=>PV.tops (es.map (·.2.2))
 | _=>0
def cloK (K:List Blk):Nat→Nat→Nat
 | 0,m=>max m K.length
 | f + 1,m=>match ((K.take m).map Blk.top).foldl max m with
  | m'=>if Nat.beq m' m then m else cloK K f m'
def finM (m0:Nat) (p:PV) (K:List Blk) (m:Nat):Option (PV × List Blk):=if p.ids (fun j=>Nat.blt j m) && Nat.ble m0 m && ((K.take m).all (Blk.farOk m) || Nat.ble K.length m) then some (p,K.take m) else none
def finx (P:Program) (rs:Array ResultVar) (m0:Nat) (t:Tr) (K:List Blk):Option (PV × List Blk):=match ares P (t.pick (slotsOf rs)) K rs with
 | some p=>finM m0 p K (cloK K 20 (max m0 p.top))
 | none=>none
def ofArgs:Nat→List PV→Tr
 | _,[]=>Tr.e
 | i,p :: ps=>Tr.put (ofArgs (i + 1) ps) p (path i)
theorem Zdy:∀(ps:List PV) (i:Nat),i + ps.length≤512→∀ x∈(ofArgs i ps).st,x∈numb i ps
 | [],i,_,x,hx=>by
  obtain⟨_,h⟩:=mem_st.1 hx
  simp [ofArgs,Tr.get_e] at h
 | p :: ps,i,hl,x,hx=>by
  simp only [List.length_cons] at hl
  rcases List.mem_cons.1 (Zbf (by omega) x hx) with h | h
  ·rw [h]; simp [numb]
  ·have:=Zdy ps (i + 1) (by omega) x (List.mem_filter.1 h).1
   simp [numb,this]
def callx (P:Program) (X:Ev):Eval:=fun f args H=>match P.funcs[f]? with
 | none=>none
 | some fn=>match fn.body with
  | none=>none
  | some code=>match !(fn.name == "runtime.NumGoroutine") && Nat.ble args.length fn.ntmps && Nat.ble args.length 512 with
   | true=>match X H.length fn.ntmps code (ofArgs 0 args) H with
    | some (.ret,st,K)=>finx P fn.results H.length st K
    | some (.normal,st,K)=>finx P fn.results H.length st K
    | _=>none
   | false=>none
abbrev Tab:=List (Nat × List PV × PV)
def Tab.ok (P:Program) (G:Glob) (T:Tab):Prop:=∀ x∈T,ACall P G x.1 x.2.1 [] (fun q K=>q=x.2.2∧K=[])∧x.2.2.ids (fun _=>false)=true
def shareA:List PV→List Blk→Option (List PV × List Blk)
 | [],H=>some ([],H)
 | p :: ps,H=>match p with
  | .own i n=>match H[i]? with
   | some (.buf s t xs _)=>match Nat.beq n xs.length with
    | true=>match shareA ps (H.set i (.buf s t xs true)) with
     | some (qs,H')=>some (.sl s xs :: qs,H')
     | none=>none
    | false=>none
   | _=>none
  | p=>match p.ids (fun _=>false) with
   | true=>match shareA ps H with
    | some (qs,H')=>some (p :: qs,H')
    | none=>none
   | false=>none
theorem Zcg:∀(ps:List PV) (H:List Blk) (qs:List PV) (H':List Blk),shareA ps H=some (qs,H')→(∀ st c a w β,RelB G c β st H a w→∃ β',RelB G c β' st H' a w)∧(∀(i:Nat) s t xs,H[i]? = some (.buf s t xs true)→H'[i]? = some (.buf s t xs true))∧Wks H' false ps qs∧PV.idss (fun _=>false) qs=true
 | [],H,qs,H',h=>by
  simp only [shareA,Option.some.injEq,Prod.mk.injEq] at h
  obtain⟨rfl,rfl⟩:=h
  exact⟨fun _ _ _ _ β hr=>⟨β,hr⟩,fun _ _ _ _ h=>h,.nil,rfl⟩
 | p :: ps,H,qs,H',h=>by
  unfold shareA at h
  split at h
  ·rename_i i n
   split at h
   ·rename_i s t xs sh hb
    have hil:=(List.getElem?_eq_some_iff.1 hb).1
    split at h
    ·rename_i hn
     have hn:=Nat.eq_of_beq_eq_true hn
     subst hn
     split at h
     ·rename_i qs' K hq
      simp only [Option.some.injEq,Prod.mk.injEq] at h
      obtain⟨rfl,rfl⟩:=h
      obtain⟨g1,g2,g3,g4⟩:=Zcg ps _ _ _ hq
      refine⟨fun st c a w β hr=>g1 st c a w β (hr.share hb),fun j s' t' xs' hj=>g2 j s' t' xs' ?_,.cons _ _ _ _ (.own i s t xs true (g2 i s t xs (by rw [List.getElem?_set_self hil])) (.inr rfl)) g3,by simp only [PV.idss,PV.ids,g4,Bool.and_self]⟩
      by_cases hji:j=i
      ·subst hji; rw [List.getElem?_set_self hil]; rw [hb] at hj; simp at hj ⊢; obtain⟨rfl,rfl,rfl,_⟩:=hj; exact⟨rfl,rfl,rfl⟩
      ·rw [List.getElem?_set_ne (Ne.symm hji)]; exact hj
     ·cases h
    ·cases h
   ·cases h
  ·split at h
   ·rename_i hc
    split at h
    ·rename_i qs' K hq
     simp only [Option.some.injEq,Prod.mk.injEq] at h
     obtain⟨rfl,rfl⟩:=h
     obtain⟨g1,g2,g3,g4⟩:=Zcg ps _ _ _ hq
     exact⟨g1,g2,.cons _ _ _ _ (.refl _) g3,by simp only [PV.idss,hc,g4,Bool.and_self]⟩
    ·cases h
   ·cases h
def findT (f:Nat) (args:List PV):Tab→Option PV
 | []=>none
 | x :: T=>match Nat.beq x.1 f with
  | true=>match peqs x.2.1 args with
   | true=>some x.2.2
   | false=>findT f args T
  | false=>findT f args T
theorem Zch {f:Nat} {args:List PV} {q:PV}:∀(T:Tab),findT f args T=some q→(f,args,q)∈T
 | [],h=>by simp [findT] at h
 | (g,bs,r) :: T,h=>by
  unfold findT at h
  split at h
  ·rename_i hf
   split at h
   ·rename_i ha
    simp only [Option.some.injEq] at h
    have h1:=Nat.eq_of_beq_eq_true hf
    have h2:=peqs_eq _ _ ha
    simp only at h1 h2
    rw [← h,h1,h2]; simp
   ·exact List.mem_cons_of_mem _ (Zch T h)
  ·exact List.mem_cons_of_mem _ (Zch T h)
def hasT (f:Nat):Tab→Bool
 | []=>false
 | x :: T=>match Nat.beq x.1 f with
  | true=>true
  | false=>hasT f T
def plainFn (P:Program) (f:Nat):Bool:=match P.funcs[f]? with
 | some fn=>!fn.body.isNone && !(fn.name == "runtime.NumGoroutine")
 | none=>false
def tabx (P:Program) (T:Tab) (E:Eval):Eval:=fun f args H=>match clonex P f args H with
 | some r=>some r
 | none=>match hasT f T with
 | true=>match shareA args H with
  | some (qs,H')=>match findT f qs T with
   | some q=>match plainFn P f with
    | true=>some (q,H')
    | false=>E f args H
   | none=>E f args H
  | none=>E f args H
 | false=>E f args H
theorem Zg0 {T:Tab} (hT:T.ok P G) {E:Eval} (hE:E.ok P G):(tabx P T E).ok P G:=by
 intro f args H p H' h
 unfold tabx at h
 split at h
 ·rename_i r hr
  simp only [Option.some.injEq] at h
  subst h
  exact Zgg hr
 split at h
 ·split at h
  ·rename_i qs K hs
   split at h
   ·rename_i q hq
    split at h
    ·rename_i hp
     simp only [Option.some.injEq,Prod.mk.injEq] at h
     obtain⟨rfl,rfl⟩:=h
     obtain⟨g1,_,g3,g4⟩:=Zcg (G:=G) _ _ _ _ hs
     obtain⟨k1,k2⟩:=hT _ (Zch T hq)
     unfold plainFn at hp
     split at hp
     ·rename_i fn hfn
      simp only [Bool.and_eq_true,Bool.not_eq_true'] at hp
      exact .known fn qs hfn hp.1 hp.2 g1 g3 g4 k2 k1
     ·cases hp
    ·exact hE _ _ _ _ _ h
   ·exact hE _ _ _ _ _ h
  ·exact hE _ _ _ _ _ h
 ·exact hE _ _ _ _ _ h
def condSt (t:Tr):Operand→St
 | .tmp k=>t.pick [k]
 | _=>[]
theorem Zdz {t:Tr} {c:Operand} {p:PV} (h:opd G (condSt t c) c=some p):opd G t.st c=some p:=by
 cases c with
 | tmp k=>exact Zdd h
 | _=>exact h
def execS (P:Program) (G:Glob) (T:Tab) (X:Ev):Ev:=fun n0 nt code st H=>match code with
 | .skip=>some (.normal,st,H)
 | .region _ ops draw=>match draw with
  | false=>match sqx P G (tabx P T (callx P X)) nt ops (List.range ops.size) st H with
   | some (st',H')=>some (.normal,st',H')
   | none=>none
  | true=>if P.follows .mixedOrders then match drE P G (tabx P T (callx P X)) nt 3 ops st H with
    | some (st',H')=>some (.normal,st',H')
    | none=>none
   else none
 | .seq x y=>match X n0 nt x st H with
  | some (.normal,st',H')=>X n0 nt y st' H'
  | r=>r
 | .cond c t e=>match opd G (condSt st c) c with
  | some (.sc (.bool true))=>X n0 nt t st H
  | some (.sc (.bool false))=>X n0 nt e st H
  | _=>none
 | .block id x=>match X n0 nt x st H with
  | some (.exit j,st',H')=>match Nat.beq j id with
   | true=>some (.normal,st',H')
   | false=>some (.exit j,st',H')
  | r=>r
 | .loop x=>match X n0 nt x st H with
  | some (.normal,st',H')=>X n0 nt (.loop x) st' H'
  | r=>r
 | .exit id=>some (.exit id,st,H)
 | .ret=>some (.ret,st,H)
 | _=>none
def exec (P:Program) (G:Glob) (T:Tab):Nat→Ev
 | 0=>fun _ _ _ _ _=>none
 | n + 1=>execS P G T (exec P G T n)
def Ev.ok (P:Program) (G:Glob) (X:Ev):Prop:=∀ n0 nt code st H e st' H',X n0 nt code st H=some (e,st',H')→AWP P G n0 nt code (fun e1 s1 h1=>e1=e∧s1=st'.st∧h1=H') st.st H
theorem Zfx {rs:Array ResultVar} {m0:Nat} {t:Tr} {K:List Blk} {p:PV} {H':List Blk} {e:Exit} (he:e=.normal∨e=.ret) (h:finx P rs m0 t K=some (p,H')):LeQ G n0 nt (InQ P rs m0 p H') e t.st K:=by
 refine⟨t.pick (slotsOf rs),K,fun c a w β _ _ hr=>⟨β,hr.sub pick_sub⟩,?_⟩
 unfold finx at h
 split at h
 ·rename_i q hq
  generalize cloK K 20 (max m0 q.top)=mm at h
  unfold finM at h
  split at h
  ·rename_i hc
   simp only [Option.some.injEq,Prod.mk.injEq] at h
   obtain⟨rfl,rfl⟩:=h
   simp only [Bool.and_eq_true,Bool.or_eq_true] at hc
   refine⟨he,hq,_,Nat.le_of_ble_eq_true hc.1.2,?_,hc.2.imp id Nat.le_of_ble_eq_true,rfl⟩
   exact PV.ids_mono (fun j hj=>(by have hj':Nat.ble (j + 1) mm=true:=hj; have:=Nat.le_of_ble_eq_true hj'; simp only [decide_eq_true_eq]; omega)) _ hc.1.1
  ·cases h
 ·cases h
theorem Zer {X:Ev} (hX:X.ok P G) {f:FuncId} {args:List PV} {H:List Blk} {p:PV} {H':List Blk} (h:callx P X f args H=some (p,H')):∃ fn code,P.funcs[f]? = some fn∧fn.body=some code∧(fn.name == "runtime.NumGoroutine")=false∧args.length≤fn.ntmps∧AWP P G H.length fn.ntmps code (InQ P fn.results H.length p H') (numb 0 args) H:=by
 unfold callx at h
 split at h
 ·cases h
 ·rename_i fn hfn
  split at h
  ·cases h
  ·rename_i code hb
   split at h
   ·rename_i hc
    simp only [Bool.and_eq_true,Bool.not_eq_true'] at hc
    refine⟨fn,code,hfn,hb,hc.1.1,Nat.le_of_ble_eq_true hc.1.2,AWP.sub (Zdy args 0 (by have:=Nat.le_of_ble_eq_true hc.2; omega)) (AWP.mid _ ?_ fun _ _ _ h=>h)⟩
    split at h
    ·rename_i st K hx
     exact(hX _ _ _ _ _ _ _ _ hx).mono fun e s k ⟨h1,h2,h3⟩=>by subst h1 h2 h3; exact Zfx (.inr rfl) h
    ·rename_i st K hx
     exact(hX _ _ _ _ _ _ _ _ hx).mono fun e s k ⟨h1,h2,h3⟩=>by subst h1 h2 h3; exact Zfx (.inl rfl) h
    ·cases h
   ·cases h
theorem Zgp {X:Ev} (hX:X.ok P G):(callx P X).ok P G:=fun f args H p H' h=>by
 obtain⟨fn,code,h1,h2,h3,h4,h5⟩:=Zer hX h
 exact .run fn code h1 h2 h3 h4 h5
theorem Zfy {T:Tab} (hT:T.ok P G):∀(N m:Nat),m≤N→(exec P G T m).ok P G
 | N,0,_=>fun _ _ _ _ _ _ _ _ h=>by simp [exec] at h
 | 0,m + 1,hm=>absurd hm (by omega)
 | N + 1,m + 1,hm=>by
  have ih:∀ m',m'≤m→(exec P G T m').ok P G:=fun m' h'=>Zfy hT N m' (by omega)
  have hX:=ih m (Nat.le_refl _)
  have hE:=Zg0 hT (Zgp hX)
  intro n0 nt code st H e st' H' h
  simp only [exec] at h
  unfold execS at h
  split at h
  ·simp only [Option.some.injEq,Prod.mk.injEq] at h
   obtain⟨rfl,rfl,rfl⟩:=h
   exact AWP.skip ⟨rfl,rfl,rfl⟩
  ·split at h
   ·split at h
    ·rename_i s1 h1 hs
     simp only [Option.some.injEq,Prod.mk.injEq] at h
     obtain⟨rfl,rfl,rfl⟩:=h
     exact AWP.region rfl (AOps.sqx hE _ _ _ _ _ hs ⟨rfl,rfl,rfl⟩)
    ·cases h
   ·split at h
    ·rename_i hm
     split at h
     ·rename_i s1 h1 hs
      simp only [Option.some.injEq,Prod.mk.injEq] at h
      obtain⟨rfl,rfl,rfl⟩:=h
      exact AWP.drE hE hm hs ⟨rfl,rfl,rfl⟩
     ·cases h
    ·cases h
  ·rename_i x y
   refine AWP.seq ?_
   split at h
   ·rename_i s1 h1 hx
    refine(hX _ _ _ _ _ _ _ _ hx).mono fun e1 s k ⟨g1,g2,g3⟩=>?_
    subst g1 g2 g3
    exact hX _ _ _ _ _ _ _ _ h
   ·rename_i r hne
    refine(hX _ _ _ _ _ _ _ _ h).mono fun e1 s k ⟨g1,g2,g3⟩=>?_
    subst g1 g2 g3
    cases e1 with
    | normal=>exact absurd h (hne _ _)
    | _=>exact⟨rfl,rfl,rfl⟩
  ·rename_i c t e'
   split at h
   ·rename_i hc; exact AWP.cT (hX _ _ _ _ _ _ _ _ h) (Zdz hc)
   ·rename_i hc; exact AWP.cF (hX _ _ _ _ _ _ _ _ h) (Zdz hc)
   ·cases h
  ·rename_i id x
   refine AWP.block ?_
   split at h
   ·rename_i j s1 h1 hx
    refine(hX _ _ _ _ _ _ _ _ hx).mono fun e1 s k ⟨g1,g2,g3⟩=>?_
    subst g1 g2 g3
    simp only [blockQ]
    split at h
    ·rename_i hb
     simp only [Option.some.injEq,Prod.mk.injEq] at h
     obtain⟨rfl,rfl,rfl⟩:=h
     rw [hb]; exact⟨rfl,rfl,rfl⟩
    ·rename_i hb
     simp only [Option.some.injEq,Prod.mk.injEq] at h
     obtain⟨rfl,rfl,rfl⟩:=h
     rw [hb]; exact⟨rfl,rfl,rfl⟩
   ·rename_i r hne
    refine(hX _ _ _ _ _ _ _ _ h).mono fun e1 s k ⟨g1,g2,g3⟩=>?_
    subst g1 g2 g3
    cases e1 with
    | exit j=>exact absurd h (hne _ _ _)
    | _=>exact⟨rfl,rfl,rfl⟩
  ·rename_i x
   refine AWP.loop (fun n s k=>n≤m + 1∧∃ t:Tr,s=t.st∧exec P G T n n0 nt (.loop x) t k=some (e,st',H')) (m + 1) ⟨Nat.le_refl _,st,rfl,by simp only [exec]; unfold execS; exact h⟩ ?_
   intro n s k ⟨hn,t,hs,hx⟩
   subst hs
   cases n with
   | zero=>simp [exec] at hx
   | succ n=>
    simp only [exec] at hx
    unfold execS at hx
    simp only [] at hx
    split at hx
    ·rename_i s1 h1 hb
     refine(ih n (by omega) _ _ _ _ _ _ _ _ hb).mono fun e1 s k ⟨g1,g2,g3⟩=>?_
     subst g1 g2 g3
     exact⟨n,by omega,by omega,_,rfl,hx⟩
    ·rename_i r hne
     refine(ih n (by omega) _ _ _ _ _ _ _ _ hx).mono fun e1 s k ⟨g1,g2,g3⟩=>?_
     subst g1 g2 g3
     cases e1 with
     | normal=>exact absurd hx (hne _ _)
     | _=>exact⟨rfl,rfl,rfl⟩
  ·simp only [Option.some.injEq,Prod.mk.injEq] at h
   obtain⟨rfl,rfl,rfl⟩:=h
   exact AWP.exit ⟨rfl,rfl,rfl⟩
  ·simp only [Option.some.injEq,Prod.mk.injEq] at h
   obtain⟨rfl,rfl,rfl⟩:=h
   exact AWP.ret ⟨rfl,rfl,rfl⟩
  ·cases h
def known (P:Program) (G:Glob) (T:Tab) (N:Nat) (f:FuncId) (args:List PV):Option PV:=match callx P (exec P G T N) f args [] with
 | some (p,K)=>pureOf K p
 | none=>none
theorem ACall.exec {f:FuncId} {args:List PV} {p:PV} {T:Tab} (hT:T.ok P G) (N:Nat) (h:known P G T N f args=some p):ACall P G f args [] (fun q K=>q=p∧K=[])∧p.ids (fun _=>false)=true:=by
 unfold known at h
 split at h
 ·rename_i q K hc
  refine⟨?_,(Za4 (Sub.refl K) h).2⟩
  obtain⟨fn,code,h1,h2,h3,h4,h5⟩:=Zer (Zfy hT N N (Nat.le_refl _)) hc
  refine ACall.of_AWP h1 h2 h4 (h5.mono fun e s k ⟨g1,g2,m,g3,g4,_,g5⟩=>?_)
  subst g5
  obtain⟨k1,k2⟩:=Za4 (Ze8 k m) h
  exact⟨g1,q,p,0,g2,k1,Nat.le_refl _,Nat.zero_le _,PV.ids_mono (fun j hj=>by cases hj) _ k2,by simp,rfl,by simp⟩
 ·cases h
theorem Tab.nil:Tab.ok P G []:=fun _ h=>by cases h
theorem Tab.cons {f:FuncId} {args:List PV} {p:PV} {T:Tab} (hT:T.ok P G) (N:Nat) (h:known P G T N f args=some p):Tab.ok P G ((f,args,p) :: T):=fun x hx=>by
 rcases List.mem_cons.1 hx with rfl | hx
 ·exact ACall.exec hT N h
 ·exact hT x hx
end
end Go.AM
namespace Go.AM
section
variable {P:Program} {G:Glob} {n0 nt:Nat} {o:Oper} {st:St} {H:List Blk}
end
end Go.AM
namespace Go.AM
section
variable {P:Program} {G:Glob} {n0 nt:Nat} {o:Oper} {st:St} {H:List Blk}
theorem OpT.exn {cl:Call} {f:FuncId} {fn:Func} {e:Array Value→Sem Value} {cs:List Value} {p:PV} (ho:o.op=.call cl) (hc:cl.callee=.value (.func f)) (hfn:P.funcs[f]? = some fn) (hname:(fn.name == "runtime.NumGoroutine")=false)
  (hb:fn.body.isNone=true) (hn:Extern.findNext fn=none) (he:Extern.find fn=some e) (hargs:cl.args.toList.map (opd G st)=(cs.map PV.sc).map some)
  (hrun:∀ w,∃ v,(e cs.toArray).run P w=.ok v w∧∀ S β,VR S β w p v):OpT P G n0 o st H p H:=
 OpT.value fun c a w β h0 hr=>by
  have h1:=VRs.scs_iff _ _ (VRs.of_opds hr cl.args.toList _ hargs)
  have h2:cl.args.map a.eval=cs.toArray:=by
   apply Array.toList_inj.1
   simpa using h1
  obtain⟨v,h3,h4⟩:=hrun w
  refine⟨v,?_,h4 _ _⟩
  have h5:=run_callFunc_extern hfn hname hb hn he cs.toArray w
  rw [h3] at h5
  have hfe:a.eval (.func f)=.func (.func f) #[] #[]:=rfl
  simp [execOp,ho,resolve,hc,hfe,Deferred.ofValue,invoke,h2,h5]
def Hnd.ext {f:FuncId} {fn:Func} {e:Array Value→Sem Value} {cs:List Value} {p:PV} (hrun:∀(P:Program) w,∃ v,(e cs.toArray).run P w=.ok v w∧∀ S β,VR S β w p v)
  (hfn:P.funcs[f]? = some fn) (hname:(fn.name == "runtime.NumGoroutine")=false) (hb:fn.body.isNone=true) (hn:Extern.findNext fn=none) (he:Extern.find fn=some e):Hnd P G where
 run o st H:=match o.op with
  | .call cl=>match cl.callee with
   | .value (.func g)=>match opdL G st cl.args.toList with
    | some ps=>if Nat.beq g f then some ⟨p,H,[.ps ps],[.ps (cs.map PV.sc)]⟩ else none
    | none=>none
   | _=>none
  | _=>none
 sound:=by
  intro n0 o st H x h he'
  suffices hT:OpT P G n0 o st H x.p x.H from hT.weak
  split at h
  ·rename_i cl ho
   split at h
   ·rename_i g hc
    split at h
    ·rename_i ps hps
     split at h
     ·rename_i hg
      have hg:=Nat.eq_of_beq_eq_true hg
      subst hg
      simp only [Option.some.injEq] at h
      subst h
      simp only [List.cons.injEq,T.ps.injEq,and_true] at he'
      subst he'
      exact OpT.exn ho hc hfn hname hb hn he (Zaa _ _ hps) (hrun P)
     ·cases h
    ·cases h
   ·cases h
  ·cases h
end
theorem Zci {a b c:Int} (h:0≤a∧0≤b∧0≤c∧c≤1) (P:Program) (w:World):∃ v,(add64Entry [Value.int .u64 a,.int .u64 b,.int .u64 c].toArray).run P w=.ok v w ∧
  ∀ S β,VR S β w (.tup [u64 ((a + b + c) % 18446744073709551616),u64 ((a + b + c) / 18446744073709551616)]) v:=
 ⟨_,run_add64 a b c h.1 h.2.1 h.2.2.1 h.2.2.2 w,fun S β=>by simp only [VR]; exact⟨_,rfl,rfl,rfl,trivial⟩⟩
end Go.AM
namespace Go.AM
section
variable {P:Program} {G:Glob} {c:Ctx} {β:List Bnd} {st:St} {H:List Blk} {a:Act} {w:World} {n0 nt:Nat} {o:Oper}
theorem VR.closed {S S':Nat→Nat→Prop} {w':World} {β':List Bnd} (hx:Ext S w S' w') {p:PV} {u:Value} (hp:p.ids (fun _=>false)=true) (h:VR S β w p u):VR S' β' w' p u:=
 VR.ext hx (q:=fun _=>false) (fun i e hq _=>by cases hq) p u hp h
theorem VRs.closed {S S':Nat→Nat→Prop} {w':World} {β':List Bnd} (hx:Ext S w S' w') {ps:List PV} {us:List Value} (hp:PV.idss (fun _=>false) ps=true) (h:VRs S β w ps us):VRs S' β' w' ps us:=
 VRs.ext hx (q:=fun _=>false) (fun i e hq _=>by cases hq) ps us hp h
theorem OpT.asH {p:PV} {H1 H':List Blk} (h:OpT P G n0 o st H p H1) (e:H1=H'):OpT P G n0 o st H p H':=by subst e; exact h
theorem RelB.callB (h:RelB G c β st H a w) {i s t:Nat} {xs ys:List (List PV)} {e:Bnd} (he:β[i]? = some e) (hb:H[i]? = some (.buf s t xs false)) (hne:xs ≠ []) (hlen:ys.length=xs.length) (hys:∀ y∈ys,y.length=s) :
  ∃(g cap:Nat) (sp:List Value),xs.length≤cap∧e.v=.slice (some ⟨g,0,none⟩) xs.length cap∧InOk G (stab c β H w) [⟨g,undef,0,0⟩] [.cells (xs.flatten++sp.map .sc)] w ∧
   ∀ γ w',OutOk (stab c β H w) [⟨g,undef,0,0⟩] γ [.cells (ys.flatten++sp.map .sc)] w w' →
    γ=[]∧RelB G c (β.set i ⟨e.b,e.v,ys.length,s⟩) st (H.set i (.buf s t ys false)) a w' ∧
    Ext (stab c β H w) w (stab c (β.set i ⟨e.b,e.v,ys.length,s⟩) (H.set i (.buf s t ys false)) w') w'∧BExt (fun _=>true) β (β.set i ⟨e.b,e.v,ys.length,s⟩) ∧
    Ext (stab1 (stab c β H w) γ w w') w' (stab c (β.set i ⟨e.b,e.v,ys.length,s⟩) (H.set i (.buf s t ys false)) w') w':=by
 obtain⟨q1,q2,q3,vals0,⟨q4,q4'⟩,q5⟩:=h.blk i e _ he hb
 rcases q4' with ⟨_,q6⟩ | ⟨g,cap,cur,e1,e2,e3,e4,e5,e6,e7⟩
 ·exact absurd (List.eq_nil_of_length_eq_zero q6) hne
 have hg:e.v.ownBlock=some g:=by rw [e1]; rfl
 have hn0:c.β0.length≤i:=by
  rcases Nat.lt_or_ge i c.β0.length with hlt | hge
  ·obtain⟨cs,hc,hcf⟩:=h.cel i hlt
   rw [hb] at hc; cases hc; cases hcf
  ·exact hge
 obtain⟨hg0,hgl⟩:=h.loc i e _ g hn0 he hb hg
 have hgs:∀ b hi,stab c β H w b hi→g ≠ b:=fun b hi hs=>by
  rcases hs with hs | ⟨_,_,h3⟩
  ·have:=(h.ok.old b hi hs).1; omega
  ·intro hgb
   have:=(h3 i e _ he hb (by rw [hg,hgb])).1
   cases this
 have hfl:xs.flatten.length=xs.length * s:=Z5 xs q3
 have hfy:ys.flatten.length=ys.length * s:=Z5 ys hys
 let sp:=cur.toList.drop (xs.length * s)
 have hcur:cur.toList=vals0++sp:=by rw [← e7]; exact(List.take_append_drop _ _).symm
 have hidx:PV.idss (fun _=>false) xs.flatten=true:=by
  have:=VRs.idsLt _ _ q5
  refine PV.idss_mono (fun j hj=>?_) _ this
  simp at hj
 refine⟨g,cap,sp,e4,e1,⟨⟨fun b hi hs=>⟨Zau h hs,fun f hf=>?_⟩,fun gl cs hgl'=>?_,fun f hf=>?_,fun b hi hi' h1 h2=>h.ok.stab h1 h2⟩,rfl,fun j f k hj hk=>?_,fun j k f f' hjk hf hf'=>?_⟩,fun γ w' ho=>?_⟩
 ·simp only [List.mem_singleton] at hf; subst hf; exact hgs b hi hs
 ·obtain⟨h1,h2⟩:=h.ok.glob gl cs hgl'
  exact⟨h.ext0.stab _ _ h1,VRow.ext h.ext0 (BExt.refl _ _) gl cs.length h1 cs 0 (by omega) (PV.idss_true cs) h2⟩
 ·simp only [List.mem_singleton] at hf; subst hf; exact hgl
 ·cases j with
  | succ j=>simp at hj
  | zero=>
   simp at hj hk; subst hj hk
   refine⟨_,rfl,?_,cur,t,e3,?_⟩
   ·rw [PV.idss_append,Zbv,Bool.and_true]
    exact PV.idss_mono (fun _ hf=>by cases hf) _ hidx
   ·rw [hcur]
    exact VRs.append _ _ _ _ (VRs.closed (Ext.refl _ _) hidx q5) (VRs.scs sp)
 ·cases j with
  | succ j=>simp at hf
  | zero=>cases k with
   | zero=>exact absurd rfl hjk
   | succ k=>simp at hf'
 ·have hγ:γ=[]:=by
   have:=ho.len
   simp at this
   exact this
  subst hγ
  obtain⟨cs,hcs,hid,vs,t',k2,k3⟩:=ho.blk 0 ⟨g,undef,0,0⟩ _ rfl rfl
  cases hcs
  obtain⟨vs1,k4⟩:=ho.frm.typ g cur t e3
  rw [k2] at k4
  cases k4
  have hvl:=VRs.length _ _ k3
  have k5:=VRs.take ys.flatten.length _ _ k3
  have k6:=VRs.drop ys.flatten.length _ _ k3
  rw [List.take_left] at k5
  rw [List.drop_left] at k6
  have hspl:sp.length=cap * s - xs.length * s:=by simp only [sp,List.length_drop,Array.length_toList,e6]
  have hmul:xs.length * s≤cap * s:=Nat.mul_le_mul_right s e4
  have hvsz:vs.size=cap * s:=by
   simp only [List.length_append,List.length_map,Array.length_toList] at hvl
   rw [hvl,hfy,hspl,hlen]; omega
  have hidy:PV.idss (fun _=>false) ys.flatten=true:=by
   rw [PV.idss_append,Bool.and_eq_true] at hid
   refine PV.idss_mono (fun j hj=>?_) _ hid.1
   simp at hj
  have hst:∀(β':List Bnd) (H':List Blk),(∀(j:Nat) f k,β'[j]? = some f→H'[j]? = some k→(j ≠ i∧β[j]? = some f∧H[j]? = some k)∨(j=i∧f.v=e.v∧∃ s' t' xs' ,k=.buf s' t' xs' false)) →
    Ext (stab c β H w) w (stab c β' H' w') w'→Ext (stab1 (stab c β H w) [] w w') w' (stab c β' H' w') w':=fun β' H' hk hx=>by
   refine⟨fun b hi hs=>?_,fun _ _ _ _ _ _ h=>h⟩
   rcases hs with hs | ⟨h1,h2,_⟩
   ·exact hx.stab b hi hs
   ·refine .inr ⟨Nat.le_trans h.frm.size h1,h2,fun j f k hj hj'=>?_⟩
    rcases hk j f k hj hj' with ⟨_,g1,g2⟩ | ⟨rfl,g1,s',t',xs',rfl⟩
    ·cases k with
     | cells cs=>exact fun hb'=>by have:=at_lt (h.blk j f _ g1 g2) (b:=b) (by simp [Blk.at,hb']); omega
     | map es cl=>exact fun hb'=>by have:=at_lt (h.blk j f _ g1 g2) (b:=b) (by simp [Blk.at,hb']); omega
     | far cs=>exact fun hb'=>by have:=at_lt (h.blk j f _ g1 g2) (b:=b) (by simp [Blk.at,hb']); omega
     | iter m since seen last=>exact fun hb'=>by have:=at_lt (h.blk j f _ g1 g2) (b:=b) (by simp [Blk.at,hb']); omega
     | buf s' t' xs' sh=>exact fun hb'=>by have:=at_lt (h.blk j f _ g1 g2) (b:=b) hb'; omega
    ·intro hb'
     rw [g1,hg] at hb'
     cases hb'; omega
  have hkey:∀(j:Nat) f k,(β.set i ⟨e.b,e.v,ys.length,s⟩)[j]? = some f→(H.set i (.buf s t ys false))[j]? = some k→(j ≠ i∧β[j]? = some f∧H[j]? = some k)∨(j=i∧f.v=e.v∧∃ s' t' xs' ,k=.buf s' t' xs' false):=fun j f k hf hk=>by
   rcases get_set hf with ⟨hji,hf⟩ | ⟨rfl,rfl⟩
   ·rcases get_set hk with ⟨_,hk⟩ | ⟨e,_⟩
    ·exact .inl ⟨hji,hf,hk⟩
    ·exact absurd e hji
   ·rcases get_set hk with ⟨e,_⟩ | ⟨_,rfl⟩
    ·exact absurd rfl e
    ·exact .inr ⟨rfl,rfl,s,t,ys,rfl⟩
  have hre:=h.rebuf' he hb (w':=w') (v':=e.v) (xs':=ys) (vals:=vs.toList.take ys.flatten.length) ho.frm.os ho.frm.tape ho.frm.output ho.frm.size
   (fun b hlt hne'=>ho.frm.block b hlt fun f hf=>by simp only [List.mem_singleton] at hf; subst hf; exact fun hgb=>hne' (by rw [hg]; exact congrArg some hgb))
   (by omega) (fun _=>rfl) (fun h=>by cases h)
   ⟨by rw [List.length_take,hfy,show vs.toList.length=cap * s by simpa using hvsz,hlen]; omega,.inr ⟨g,cap,vs,by rw [hlen]; exact e1,e2,k2,by omega,e5,hvsz,by rw [hfy]⟩⟩
   (fun g' hg'=>.inl hg') hys
   (fun hx=>VRs.closed (hst _ _ hkey hx) hidy k5)
  exact⟨rfl,hre.1,hre.2.1,hre.2.2,hst _ _ hkey hre.2.1⟩
theorem OpT.callB {cl:Call} {x:Operand} {f:FuncId} {fn:Func} {i s t:Nat} {xs ys:List (List PV)} {rest:List PV} {p:PV}
  (ho:o.op=.call cl) (hc:cl.callee=.value x) (hx:opd G st x=some (.sc (.func (.func f) #[] #[])))
  (hfn:P.funcs[f]? = some fn) (hbody:fn.body.isNone=false) (hname:(fn.name == "runtime.NumGoroutine")=false)
  (hargs:cl.args.toList.map (opd G st)=(.own i xs.length :: rest).map some) (hrest:PV.idss (fun _=>false) rest=true) (hb:H[i]? = some (.buf s t xs false)) (hne:xs ≠ [])
  (hlen:ys.length=xs.length) (hys:∀ y∈ys,y.length=s)
  (hcall:∀ sp:List Value,ACall P G f (.vw 0 0 xs.length :: rest) [.cells (xs.flatten++sp.map .sc)] (fun q K=>q=p∧K=[.cells (ys.flatten++sp.map .sc)])) (hp:p.ids (fun _=>false)=true) :
  OpT P G n0 o st H p (H.set i (.buf s t ys false)):=by
 intro c a w β h0 hr
 have hv:=VRs.of_opds hr cl.args.toList _ hargs
 have hlv:=VRs.length _ _ hv
 obtain⟨u,us,hus⟩:∃ u us,cl.args.toList.map a.eval=u :: us:=by
  cases hq:cl.args.toList.map a.eval with
  | nil=>rw [hq] at hlv; simp at hlv
  | cons u us=>exact⟨u,us,rfl⟩
 rw [hus] at hv
 simp only [VRs] at hv
 obtain⟨hv1,hv2⟩:=hv
 simp only [VR] at hv1
 obtain⟨_,e,he,_,hve⟩:=hv1
 obtain⟨q1,_⟩:=hr.blk i e _ he hb
 have hve:=hve q1.symm
 obtain⟨g,cap,sp,k1,k2,k3,k4⟩:=hr.callB he hb hne hlen hys
 have hxe:=hr.opd hx
 simp only [VR] at hxe
 have hex:(execOp a.eval o).run P w=.ok (.enter f (cl.args.map a.eval)) w:=by
  have hn:¬ fn.name= "runtime.NumGoroutine":=by simpa using hname
  have hb:¬ fn.body=none:=by cases hq:fn.body <;> simp [hq] at hbody ⊢
  simp [execOp,ho,resolve,hc,hxe,Deferred.ofValue,invoke,callFunc,hfn,hn,hb]
 simp only [wpv,hex]
 refine(hcall sp _ _ w (cl.args.map a.eval) k3 ?_).mono ?_
 ·have:(cl.args.map a.eval).toList=u :: us:=by simpa using hus
  rw [this]
  simp only [VRs]
  refine⟨?_,VRs.closed (Ext.refl _ _) hrest hv2⟩
  simp only [VR]
  exact⟨_,rfl,cap,_,k1,by rw [hve,k2],fun _=>rfl⟩
 ·rintro ex w' ⟨v,q,K,γ,rfl,⟨rfl,rfl⟩,hout,hvr⟩
  obtain⟨rfl,g1,g2,g3,g4⟩:=k4 γ w' hout
  exact⟨v,rfl,_,g1,VR.closed g4 hp hvr,g3,g2⟩
variable {α:Type}
def cel (row:α→List PV) (l:List α) (sp:List Value):List PV:=(l.map row).flatten++sp.map .sc
def Hnd.callB {f:FuncId} {fn:Func} (row:α→List PV) {s:Nat} {l l':List α} {rest:List PV} {p1:PV} (hfn:P.funcs[f]? = some fn) (hrow:∀ z,(row z).length=s) (hne:l ≠ []) (hlen:l'.length=l.length)
  (hc:∀ sp,ACall P G f (.vw 0 0 l.length :: rest) [.cells (cel row l sp)] (fun q K=>q=p1∧K=[.cells (cel row l' sp)])):Hnd P G where
 run o st H:=match o.op with
  | .call cl=>match cl.callee with
   | .value x=>match opd G st x,opdL G st cl.args.toList with
    | some px,some (.own i n :: rest')=>match H[i]? with
     | some (.buf s' t xs false)=>
      if fn.body.isNone=false∧(fn.name == "runtime.NumGoroutine")=false∧PV.idss (fun _=>false) rest=true∧p1.ids (fun _=>false)=true∧Nat.beq s s'=true then
       some ⟨p1,H.set i (.buf s' t (l'.map row) false),[.p px,.n n,.ps rest',.rs xs],[.p (.sc (.func (.func f) #[] #[])),.n l.length,.ps rest,.rs (l.map row)]⟩
      else none
     | _=>none
    | _,_=>none
   | _=>none
  | _=>none
 sound:=by
  intro n0 o st H x h he
  suffices hT:OpT P G n0 o st H x.p x.H from hT.weak
  split at h
  ·rename_i cl ho
   split at h
   ·rename_i x hcl
    split at h
    ·rename_i px i n rest' hx hps
     split at h
     ·rename_i s' t xs hb
      split at h
      ·rename_i hcond
       obtain⟨c1,c2,c3,c4,c5⟩:=hcond
       simp only [Option.some.injEq] at h
       subst h
       simp only [List.cons.injEq,T.p.injEq,T.ps.injEq,T.n.injEq,T.rs.injEq,and_true] at he
       obtain⟨rfl,rfl,rfl,rfl⟩:=he
       have c5:=Nat.eq_of_beq_eq_true c5
       subst c5
       have hl1:(l.map row).length=l.length:=List.length_map ..
       refine OpT.callB (xs:=l.map row) (ys:=l'.map row) ho hcl hx hfn c1 c2 (by rw [hl1]; exact Zaa _ _ hps) c3 hb (by simpa using hne) (by simpa using hlen) ?_ (fun sp=>?_) c4
       ·intro y hy
        obtain⟨z,_,rfl⟩:=List.mem_map.1 hy
        exact hrow z
       ·rw [hl1]; exact hc sp
      ·cases h
     ·cases h
    ·cases h
   ·cases h
  ·cases h
def idxn (n:Nat) (l:List α) (j:Int):Option α:=if 0≤j∧j<(n:Int) then idx l j else none
theorem Zct {n:Nat} {l:List α} {j:Int} {z:α} (h:idxn n l j=some z):0≤j∧j<(n:Int):=by
 unfold idxn at h; split at h
 ·assumption
 ·cases h
theorem Zb2 {n:Nat} {l:List α} {j:Int} {z:α} (h:idxn n l j=some z):idx l j=some z:=by
 unfold idxn at h; split at h
 ·exact h
 ·cases h
def Hnd.idxV {n:Nat} {j:Int} (h:0≤j∧j<(n:Int)):Hnd P G where
 run o st H:=match o.op with
  | .indexAddr t x y=>match P.underlying t,opd G st x,opd G st y with
   | some (.slice e),some (.vw i off n'),some (.sc (.int _ j'))=>if Nat.beq (P.cellsOf e) 0 then none else some ⟨.ptr i (off + j.toNat * P.cellsOf e),H,[.n n',.i j'],[.n n,.i j]⟩
   | _,_,_=>none
  | _=>none
 sound:=by
  intro n0 o st H x hr he
  suffices hT:OpT P G n0 o st H x.p x.H from hT.weak
  split at hr
  ·rename_i t x y ho
   split at hr
   ·rename_i e i off n' k j' hu hx hy
    split at hr
    ·cases hr
    ·rename_i hz
     simp only [Option.some.injEq] at hr; subst hr
     simp only [List.cons.injEq,T.n.injEq,T.i.injEq,and_true] at he
     obtain⟨rfl,rfl⟩:=he
     exact OpT.index_vw ho hu (fun h0=>hz (by rw [h0]; rfl)) hx hy h.1 h.2
   ·cases hr
  ·cases hr
theorem Zdf {row:α→List PV} {s:Nat} (hrow:∀ z,(row z).length=s):∀ {l:List α} {k:Nat} {z:α} (sp:List PV),l[k]? = some z→(((l.map row).flatten++sp).drop (k * s)).take s=row z∧(k + 1) * s≤((l.map row).flatten++sp).length
 | [],k,z,sp,h=>by simp at h
 | y :: l,0,z,sp,h=>by
  simp at h; subst h
  simp only [List.map_cons,List.flatten_cons,Nat.zero_mul,List.drop_zero,List.append_assoc]
  refine⟨?_,by simp [hrow]⟩
  rw [← hrow y,List.take_left]
 | y :: l,k + 1,z,sp,h=>by
  simp at h
  obtain⟨h1,h2⟩:=Zdf hrow (l:=l) sp h
  simp only [List.map_cons,List.flatten_cons,List.append_assoc]
  have hd:((k + 1) * s)=(row y).length + k * s:=by rw [hrow,Nat.add_mul,Nat.one_mul,Nat.add_comm]
  refine⟨?_,?_⟩
  ·rw [hd,List.drop_append,List.drop_of_length_le (by omega),List.nil_append]
   simp only [Nat.add_sub_cancel_left]
   exact h1
  ·have hd2:(k + 1 + 1) * s=s + (k + 1) * s:=by rw [Nat.add_mul (k + 1),Nat.one_mul,Nat.add_comm]
   rw [List.length_append,hrow,hd2]
   omega
theorem Zfb {row:α→List PV} {s:Nat} (hrow:∀ z,(row z).length=s) (z':α):∀ {l:List α} {k:Nat} (sp:List PV),k<l.length →
  ((l.set k z').map row).flatten++sp=((l.map row).flatten++sp).take (k * s)++row z'++((l.map row).flatten++sp).drop (k * s + s)
 | [],k,sp,h=>by simp at h
 | y :: l,0,sp,h=>by
  simp only [List.set_cons_zero,List.map_cons,List.flatten_cons,Nat.zero_mul,List.take_zero,List.nil_append,Nat.zero_add,List.append_assoc]
  rw [← hrow y,List.drop_left]
 | y :: l,k + 1,sp,h=>by
  simp only [List.length_cons] at h
  have ih:=Zfb hrow z' (l:=l) (k:=k) sp (by omega)
  have hd:((k + 1) * s)=(row y).length + k * s:=by rw [hrow,Nat.add_mul,Nat.one_mul,Nat.add_comm]
  simp only [List.set_cons_succ,List.map_cons,List.flatten_cons,List.append_assoc]
  rw [ih,hd,Nat.add_assoc,List.take_length_add_append,List.drop_length_add_append]
  simp only [List.append_assoc]
def Hnd.ldV (row:α→List PV) {s:Nat} (hrow:∀ z,(row z).length=s) (sp:List Value) {l:List α} {j:Int} {z:α} (hz:AM.idx l j=some z) (off0:Nat) (hoff0:off0=j.toNat * s) (ds:List Nat):Hnd P G where
 run o st H:=match o.op with
  | .load t x=>match opd G st x with
   | some (.ptr i off)=>match H[i]? with
    | some (.cells cs)=>if P.cellsOf t + ds.foldl (· + ·) 0≤s∧ds.foldl (· + ·) 0<s then (ldPV P t ((row z).drop (ds.foldl (· + ·) 0))).map fun p=>⟨p,H,[.n off,.ps cs],[.n (ds.foldl (· + ·) off0),.ps (cel row l sp)]⟩ else none
    | _=>none
   | _=>none
  | _=>none
 sound:=by
  intro n0 o st H x hr he
  suffices hT:OpT P G n0 o st H x.p x.H from hT.weak
  split at hr
  ·rename_i t x ho
   split at hr
   ·rename_i i off hx
    split at hr
    ·rename_i cs hb
     split at hr
     ·rename_i hc
      simp only [Option.map_eq_some_iff] at hr
      obtain⟨p,hp,rfl⟩:=hr
      simp only [List.cons.injEq,T.n.injEq,T.ps.injEq,and_true] at he
      obtain⟨rfl,rfl⟩:=he
      obtain⟨_,_,hget⟩:=Zbg hz
      have hfold:∀(ds:List Nat) (m:Nat),ds.foldl (· + ·) m=m + ds.foldl (· + ·) 0:=by
       intro ds
       induction ds with
       | nil=>intro m; simp
       | cons d ds ih=>intro m; simp only [List.foldl_cons]; rw [ih (m + d),ih (0 + d)]; omega
      refine OpT.load_ptr ho hx hb ?_
      rw [hfold,hoff0]
      rw [← (Zdf hrow (sp.map .sc) hget).1,List.drop_take,List.drop_drop] at hp
      exact Zf9 (m:=s - ds.foldl (· + ·) 0) (by omega) (by omega) hp
     ·cases hr
    ·cases hr
   ·cases hr
  ·cases hr
def Hnd.stV (row:α→List PV) {s:Nat} (hrow:∀ z,(row z).length=s) (sp:List Value) {l:List α} {j:Int} {z:α} (hz:AM.idx l j=some z) (z':α) (off0:Nat) (hoff0:off0=j.toNat * s) (ds:List Nat):Hnd P G where
 run o st H:=match o.op with
  | .store t x y=>match opd G st x,opd G st y with
   | some (.ptr i off),some p=>match H[i]? with
    | some (.cells cs)=>if Nat.beq (P.cellsOf t) p.cells.length=true∧(P.info? t).isSome=true∧p.cells.length + ds.foldl (· + ·) 0≤s∧p.cells.all PV.one=true∧PV.idss (fun j=>decide (j<i)) p.cells=true then
      some ⟨.sc undef,H.set i (.cells (cel row (l.set j.toNat z') sp)),[.n off,.ps cs,.ps ((row z).take (ds.foldl (· + ·) 0)++p.cells++(row z).drop (ds.foldl (· + ·) 0 + p.cells.length))],[.n (ds.foldl (· + ·) off0),.ps (cel row l sp),.ps (row z')]⟩ else none
    | _=>none
   | _,_=>none
  | _=>none
 sound:=by
  intro n0 o st H x hr he
  suffices hT:OpT P G n0 o st H x.p x.H from hT.weak
  split at hr
  ·rename_i t x y ho
   split at hr
   ·rename_i i off p hx hy
    split at hr
    ·rename_i cs hb
     split at hr
     ·rename_i hc
      obtain⟨c1,c2,c3,c4,c5⟩:=hc
      have c1:=Nat.eq_of_beq_eq_true c1
      simp only [Option.some.injEq] at hr; subst hr
      simp only [List.cons.injEq,T.n.injEq,T.ps.injEq,and_true] at he
      obtain⟨rfl,rfl,hz'⟩:=he
      obtain⟨_,_,hget⟩:=Zbg hz
      have hlt:=(List.getElem?_eq_some_iff.1 hget).1
      have hfold:∀(ds:List Nat) (m:Nat),ds.foldl (· + ·) m=m + ds.foldl (· + ·) 0:=by
       intro ds
       induction ds with
       | nil=>intro m; simp
       | cons d ds ih=>intro m; simp only [List.foldl_cons]; rw [ih (m + d),ih (0 + d)]; omega
      obtain⟨g1,g2⟩:=Zdf hrow (sp.map .sc) hget
      rw [Nat.add_mul,Nat.one_mul] at g2
      have hoff:ds.foldl (· + ·) off0=j.toNat * s + ds.foldl (· + ·) 0:=by rw [hfold,hoff0]
      have hst:=OpT.store (P:=P) (G:=G) (n0:=n0) ho hx hy hb c1 c2 (by rw [hoff]; unfold AM.cel; omega) c4 c5
      refine OpT.asH hst ?_
      refine congrArg (fun cs=>H.set i (.cells cs)) ?_
      unfold AM.cel
      rw [Zfb hrow z' (sp.map .sc) hlt,← hz',← g1,hoff]
      generalize (l.map row).flatten++sp.map PV.sc=cs at g2
      generalize ds.foldl (· + ·) 0=d at c3
      generalize p.cells=ps at c3
      generalize j.toNat * s=m at g2
      rw [List.take_take,List.drop_take,List.drop_drop,Nat.min_eq_left (by omega),List.take_add (i:=m) (j:=d)]
      have h1:List.drop (m + d + ps.length) cs=List.take (s - (d + ps.length)) (List.drop (m + (d + ps.length)) cs)++List.drop (m + s) cs:=by
       rw [show List.drop (m + s) cs=List.drop (s - (d + ps.length)) (List.drop (m + (d + ps.length)) cs) by rw [List.drop_drop]; congr 1; omega,List.take_append_drop,Nat.add_assoc]
      rw [h1]
      simp only [List.append_assoc]
     ·cases hr
    ·cases hr
   ·cases hr
  ·cases hr
def Hnd.lenV (n:Nat):Hnd P G where
 run o st H:=match o.op with
  | .call cl=>match cl.callee,cl.args.toList,cl.argTypes.toList with
   | .builtin .len,[x],[ty]=>match P.underlying ty,opd G st x with
    | some (.slice _),some (.vw _ _ n')=>some ⟨.sc (.int .i64 n),H,[.n n'],[.n n]⟩
    | _,_=>none
   | _,_,_=>none
  | _=>none
 sound:=by
  intro n0 o st H x hr he
  suffices hT:OpT P G n0 o st H x.p x.H from hT.weak
  split at hr
  ·rename_i cl ho
   split at hr
   ·rename_i x ty hc ha ht
    split at hr
    ·rename_i e i off n' hu hx
     simp only [Option.some.injEq] at hr; subst hr
     simp only [List.cons.injEq,T.n.injEq,and_true] at he
     subst he
     have hcl:cl={ callee:=.builtin .len,args:=#[x],argTypes:=#[ty] }:=by
      cases cl with
      | mk callee args argTypes=>
       simp only at hc ha ht
       subst hc
       have h1:args=#[x]:=by apply Array.toList_inj.1; exact ha
       have h2:argTypes=#[ty]:=by apply Array.toList_inj.1; exact ht
       subst h1 h2
       rfl
     exact OpT.len_vw ho hcl hu hx
    ·cases hr
   ·cases hr
  ·cases hr
end
end Go.AM
namespace Go.AM
section
variable {P:Program} {G:Glob} {n0 nt:Nat} {o:Oper} {st:St} {H:List Blk}
def Hnd.q:Hnd P G where
 run o st H:=(quietx P G true st H o).map fun p=>⟨p,H,[],[]⟩
 sound:=by
  intro n0 o st H x h he
  simp only [Option.map_eq_some_iff] at h
  obtain⟨p,h1,rfl⟩:=h
  exact(OpT.of_quiet (Sub.refl H) h1).weak
variable {α:Type}
end
end Go.AM
namespace Go.AM
section
variable {P:Program} {G:Glob} {n0 nt:Nat} {o:Oper} {st:St} {H:List Blk}
def Hnd.m:Hnd P G where
 run o st H:=(memx P G #[] st H o).map fun r=>⟨r.1,r.2,[],[]⟩
 sound:=by
  intro n0 o st H x h he
  simp only [Option.map_eq_some_iff] at h
  obtain⟨p,h1,rfl⟩:=h
  exact(OpT.of_memx h1).weak
variable {α:Type}
end
end Go.AM
namespace Go.AM
section
variable {P:Program} {G:Glob} {n0 nt:Nat} {o:Oper} {st:St} {H:List Blk}
variable {α:Type}
end
end Go.AM
namespace Go.AM
section
variable {P:Program} {G:Glob} {n0 nt:Nat} {o:Oper} {st:St} {H:List Blk}
variable {α β:Type}
end
end Go.AM
namespace Go.AM
section
variable {P:Program} {G:Glob} {n0 nt:Nat} {o:Oper} {st:St} {H:List Blk}
theorem VRow.wks {S:Nat→Nat→Prop} {w:World} {b:Nat} {ps qs:List PV} (h:Wks [] false ps qs):∀ o,VRow S [] w b o ps→VRow S [] w b o qs:=by
 induction h with
 | nil=>exact fun _ h=>h
 | cons p q ps qs h1 h2 ih=>
  intro o hr
  simp only [VRow] at hr ⊢
  obtain⟨⟨u,g1,g2⟩,g3⟩:=hr
  refine⟨⟨u,g1,?_⟩,ih _ g3⟩
  cases h1 with
  | refl=>exact g2
  | nil s=>simp only [VR] at g2 ⊢; subst g2; exact⟨none,0,rfl,Nat.le_refl _,.inl trivial⟩
  | own i s t xs sh hb hs=>simp at hb
theorem Wks.length {H:List Blk} {any:Bool} {ps qs:List PV} (h:Wks H any ps qs):qs.length=ps.length:=by
 induction h with
 | nil=>rfl
 | cons p q ps qs h1 h2 ih=>simp [ih]
end
end Go.AM
namespace Go.AM
section
variable {P:Program} {G:Glob} {n0 nt:Nat} {o:Oper} {st:St} {H:List Blk}
def sidx (s:ByteArray) (i:Int):Option Int:=if h:0≤i∧i<s.size then some ((s[i.toNat]'(by omega)).toNat:Int) else none
def Hnd.str {s:ByteArray} {i z:Int} (hz:sidx s i=some z):Hnd P G where
 run o st H:=match o.op with
  | .index t x y=>match P.underlying t,opd G st x,opd G st y with
   | some .string,some (.sc v),some (.sc (.int _ i'))=>some ⟨.sc (.int .u8 z),H,[.v v,.i i'],[.v (.string s),.i i]⟩
   | _,_,_=>none
  | _=>none
 sound:=by
  intro n0 o st H x hr he
  suffices hT:OpT P G n0 o st H x.p x.H from hT.weak
  split at hr
  ·rename_i t x y ho
   split at hr
   ·rename_i v k i' hu hx hy
    simp only [Option.some.injEq] at hr; subst hr
    simp only [List.cons.injEq,T.v.injEq,T.i.injEq,and_true] at he
    obtain⟨rfl,rfl⟩:=he
    refine OpT.value fun c a w β hn hr=>⟨.int .u8 z,?_,by simp only [VR]⟩
    have g1:=hr.opd hx
    have g2:=hr.opd hy
    simp only [VR] at g1 g2
    unfold sidx at hz
    split at hz
    ·rename_i hi
     simp only [Option.some.injEq] at hz
     have:=run_index_string (P:=P) w t s k i' hu
     rw [dif_pos hi,hz] at this
     simp [execOp,ho,g1,g2,this]
    ·cases hz
   ·cases hr
  ·cases hr
theorem Zf4 (l:List Int):(l.map fun n=>[PV.sc (.int .u8 n)]).flatten=(l.map (Value.int .u8)).map PV.sc:=by
 induction l with
 | nil=>rfl
 | cons n l ih=>simp only [List.map_cons,List.flatten_cons,List.singleton_append]; rw [ih]
theorem OpT.toStr {l:List Int} {s d e:TypeId} {x:Operand} {q:PV} (ho:o.op=.convert s d x) (hs:P.underlying s=some (.slice e)) (hd:P.underlying d=some .string) (he':P.underlying e=some (.int .u8)) (hx:opd G st x=some q)
  (hsrc:Src H 1 q (l.map fun n=>[PV.sc (.int .u8 n)])):OpT P G n0 o st H (.sc (.string (strOf l))) H:=by
 refine OpT.value fun c a w β hn hr=>⟨.string (strOf l),?_,by simp only [VR]⟩
 rcases Zam hr hsrc (hr.opd hx) with ⟨h1,ad,cap,h2⟩ | ⟨b,off,cap,vals,h2,h3,h4,h5⟩
 ·have hl:l=[]:=by simpa using h1
  subst hl
  have h7:=run_convert_bytes_string (P:=P) w s d e ad 0 cap hs he' hd
  cases ad with
  | none=>
   simp [Conv.bytesToString] at h7
   simp [execOp,ho,h2,h7,strOf]
  | some ad=>
   have h8:=run_bytesToString (P:=P) w ad 0 cap [] (run_loadCells_list (P:=P) w ad [] (by simp))
   rw [h8] at h7
   simp [execOp,ho,h2,h7,strOf]
 ·have hfl:=Zf4 l
  rw [hfl] at h3
  have hvals:=VRs.scs_iff _ _ h3
  subst hvals
  rw [List.length_map] at h2
  have hld:(loadCells ⟨b,off,none⟩ l.length).run P w=.ok (l.map (Value.int .u8)).toArray w:=by
   have:=run_loadCells_list (P:=P) w ⟨b,off,none⟩ (l.map (Value.int .u8)) h5
   rwa [List.length_map] at this
  have h7:=run_bytesToString (P:=P) w ⟨b,off,none⟩ l.length cap l hld
  rw [← run_convert_bytes_string w s d e _ _ _ hs he' hd] at h7
  simp [execOp,ho,h2,h7,strOf]
def Hnd.toStr (l:List Int):Hnd P G where
 run o st H:=match o.op with
  | .convert s d x=>match P.underlying s,P.underlying d,opd G st x with
   | some (.slice e),some .string,some q=>match P.underlying e,srcT H 1 q with
    | some (.int .u8),some (xs,l1,r1)=>some ⟨.sc (.string (strOf l)),H,.rs xs :: l1,.rs (l.map fun n=>[PV.sc (.int .u8 n)]) :: r1⟩
    | _,_=>none
   | _,_,_=>none
  | _=>none
 sound:=by
  intro n0 o st H x hr he
  suffices hT:OpT P G n0 o st H x.p x.H from hT.weak
  split at hr
  ·rename_i s d x ho
   split at hr
   ·rename_i e q hs hd hx
    split at hr
    ·rename_i xs l1 r1 he' hq
     simp only [Option.some.injEq] at hr; subst hr
     simp only [List.cons.injEq,T.rs.injEq] at he
     obtain⟨rfl,hl1⟩:=he
     have hsrc:=Zfs hq hl1
     exact OpT.toStr ho hs hd he' hx hsrc
    ·cases hr
   ·cases hr
  ·cases hr
end
end Go.AM
namespace Go.AM
section
variable {P:Program} {G:Glob} {n0 nt:Nat} {o:Oper} {st:St} {H:List Blk}
def closedH:List Blk→Prop
 | []=>True
 | .cells cs :: ks=>PV.idss (fun _=>false) cs=true∧closedH ks
 | .buf .. :: ks=>closedH ks
 | .map .. :: _=>False
 | .far _ :: _=>False
 | .iter .. :: _=>False
theorem closedH.n:closedH []:=trivial
theorem closedH.c {cs:List PV} {ks:List Blk} (h:PV.idss (fun _=>false) cs=true) (hk:closedH ks):closedH (.cells cs :: ks):=⟨h,hk⟩
end
end Go.AM
namespace Go.AM
section
variable {P:Program} {G:Glob} {n0 nt:Nat} {o:Oper} {st:St} {H:List Blk}
variable {α:Type}
end
end Go.AM
namespace Go.AM
section
variable {P:Program} {G:Glob} {n0 nt:Nat} {o:Oper} {st:St} {H:List Blk}
def Hnd.toStrO (l:List Int):Hnd P G where
 run o st H:=match o.op with
  | .convert s d x=>match P.underlying s,P.underlying d,opd G st x with
   | some (.slice e),some .string,some (.own i m)=>match P.underlying e,H[i]? with
    | some (.int .u8),some (.buf s' _ xs _)=>some ⟨.sc (.string (strOf l)),H,[.rs xs,.n m,.n s'],[.rs (l.map fun n=>[PV.sc (.int .u8 n)]),.n l.length,.n 1]⟩
    | _,_=>none
   | _,_,_=>none
  | _=>none
 sound:=by
  intro n0 o st H x hr he
  suffices hT:OpT P G n0 o st H x.p x.H from hT.weak
  split at hr
  ·rename_i s d x ho
   split at hr
   ·rename_i e i m hs hd hx
    split at hr
    ·rename_i s' t' xs sh he' hb
     simp only [Option.some.injEq] at hr; subst hr
     simp only [List.cons.injEq,T.rs.injEq,T.n.injEq,and_true] at he
     obtain⟨rfl,rfl,rfl⟩:=he
     refine OpT.toStr ho hs hd he' hx ?_
     have:=Src.own (H:=H) i t' (l.map fun n=>[PV.sc (.int .u8 n)]) sh hb
     rw [List.length_map] at this
     exact this
    ·cases hr
   ·cases hr
  ·cases hr
end
end Go.AM
namespace Go.AM
section
variable {P:Program} {G:Glob} {n0 nt:Nat} {ops:Array Oper} {st:St} {H:List Blk} {E:Eval}
abbrev EvL:=Nat→Nat→Code→Tr→List Blk→Option (List (Exit × Tr × List Blk))
def EvL.ok (P:Program) (G:Glob) (X:EvL):Prop:=∀ n0 nt code st H l,X n0 nt code st H=some l→AWP P G n0 nt code (fun e1 s1 h1=>∃ r∈l,e1=r.1∧s1=r.2.1.st∧h1=r.2.2) st.st H
end
end Go.AM
set_option maxRecDepth 100000
namespace Go.AM
open Go
structure Arr5 (α:Type) where
 x0:α
 x1:α
 x2:α
 x3:α
 x4:α
def Arr5.get {α:Type} (a:Arr5 α) (i:Int):α:=if i=0 then a.x0 else if i=1 then a.x1 else if i=2 then a.x2 else if i=3 then a.x3 else a.x4
def Arr5.set {α:Type} (a:Arr5 α) (i:Int) (v:α):Arr5 α:=if i=0 then { a with x0:=v } else if i=1 then { a with x1:=v } else if i=2 then { a with x2:=v } else if i=3 then { a with x3:=v } else { a with x4:=v }
def Zd0 (x:(Arr5 Int)):List PV:=[.sc (.int .u32 x.x0),.sc (.int .u32 x.x1),.sc (.int .u32 x.x2),.sc (.int .u32 x.x3),.sc (.int .u32 x.x4)]
structure Zb where
 Hi:Int
 Lo:Int
def Za (x:Zb):List PV:=[.sc (.int .u64 x.Hi),.sc (.int .u64 x.Lo)]
def Zd (x:Zb):Prop:=Zq x.Hi∧Zq x.Lo∧True
def Zcj (x:Zb):List Value:=[.int .u64 x.Hi,.int .u64 x.Lo]
def Zh (x:Zb):PV:=.sc (.agg ⟨Zcj x⟩)
def Z2 (x y:Zb):Bool:=((x.Hi == y.Hi) && ((x.Lo == y.Lo) && true))
def Zc:Zb:=Zb.mk (0:Int) (0:Int)
def Zev:(Arr5 Int):=Arr5.mk 4294967295 4294967295 255 65535 65535
abbrev ZI:Int→Int:=IntKind.wrap .i64
end Go.AM
set_option maxRecDepth 100000
namespace Go.AM
open Go
def Zax:Option Bool:=
 some true
def Zai (a:Int):Option Int:=
 (if (decide (a ≥ (4294967296:Int)))=true then
  some ((bShr .u64 a (32:Int)),(32:Int))
 else
  some (a,(0:Int))).bind fun g=>
 match g with
 | (b,d)=>
  (if (decide (b ≥ (65536:Int)))=true then
   some ((bShr .u64 b (16:Int)),(IntKind.wrap .i64 (d + (16:Int))))
  else
   some (b,d)).bind fun i=>
  match i with
  | (c,f)=>
   (if (decide (c ≥ (256:Int)))=true then
    some ((bShr .u64 c (8:Int)),(IntKind.wrap .i64 (f + (8:Int))))
   else
    some (c,f)).bind fun j=>
   match j with
   | (k,l)=>
    (sidx ⟨#[0,1,2,2,3,3,3,3,4,4,4,4,4,4,4,4,5,5,5,5,5,5,5,5,5,5,5,5,5,5,5,5,6,6,6,6,6,6,6,6,6,6,6,6,6,6,6,6,6,6,6,6,6,6,6,6,6,6,6,6,6,6,6,6,7,7,7,7,7,7,7,7,7,7,7,7,7,7,7,7,7,7,7,7,7,7,7,7,7,7,7,7,7,7,7,7,7,7,7,7,7,7,7,7,7,7,7,7,7,7,7,7,7,7,7,7,7,7,7,7,7,7,7,7,7,7,7,7,8,8,8,8,8,8,8,8,8,8,8,8,8,8,8,8,8,8,8,8,8,8,8,8,8,8,8,8,8,8,8,8,8,8,8,8,8,8,8,8,8,8,8,8,8,8,8,8,8,8,8,8,8,8,8,8,8,8,8,8,8,8,8,8,8,8,8,8,8,8,8,8,8,8,8,8,8,8,8,8,8,8,8,8,8,8,8,8,8,8,8,8,8,8,8,8,8,8,8,8,8,8,8,8,8,8,8,8,8,8,8,8,8,8,8,8,8,8,8,8,8,8,8,8,8,8,8,8]⟩ (IntKind.wrap .u8 k)).bind fun m=>
    some (IntKind.wrap .i64 (l + (IntKind.wrap .i64 m)))
def Zr (a:Int):Option Int:=
 (Zai a).bind fun b=>
 some (IntKind.wrap .i64 ((64:Int) - b))
def Zm (f:Int) (c:Int) (a:Int):Nat→Int→Int→Option Int
 | 0,_,_=>none
 | g+1,b,d=>
  (some (decide (b ≥ (4294967296:Int)))).bind fun i=>
  if (i || (decide ((IntKind.wrap .u64 (b * (bAnd .u64 (bShl .u64 c (IntKind.wrap .u64 a)) (4294967295:Int)))) > (IntKind.wrap .u64 ((IntKind.wrap .u64 ((4294967296:Int) * d)) + (bShr .u64 (bShl .u64 f (IntKind.wrap .u64 a)) (32:Int)))))))=true then
   if (decide ((IntKind.wrap .u64 (d + (bShr .u64 (bShl .u64 c (IntKind.wrap .u64 a)) (32:Int)))) ≥ (4294967296:Int)))=true then
    some (IntKind.wrap .u64 (b - (1:Int)))
   else
    Zm f c a g (IntKind.wrap .u64 (b - (1:Int))) (IntKind.wrap .u64 (d + (bShr .u64 (bShl .u64 c (IntKind.wrap .u64 a)) (32:Int))))
  else
   some b
def Zn (f:Int) (c:Int) (a:Int):Nat→Int→Int→Option Int
 | 0,_,_=>none
 | g+1,d,b=>
  (some (decide (b ≥ (4294967296:Int)))).bind fun i=>
  if (i || (decide ((IntKind.wrap .u64 (b * (bAnd .u64 (bShl .u64 c (IntKind.wrap .u64 a)) (4294967295:Int)))) > (IntKind.wrap .u64 ((IntKind.wrap .u64 ((4294967296:Int) * d)) + (bAnd .u64 (bShl .u64 f (IntKind.wrap .u64 a)) (4294967295:Int)))))))=true then
   if (decide ((IntKind.wrap .u64 (d + (bShr .u64 (bShl .u64 c (IntKind.wrap .u64 a)) (32:Int)))) ≥ (4294967296:Int)))=true then
    some (IntKind.wrap .u64 (b - (1:Int)))
   else
    Zn f c a g (IntKind.wrap .u64 (d + (bShr .u64 (bShl .u64 c (IntKind.wrap .u64 a)) (32:Int)))) (IntKind.wrap .u64 (b - (1:Int)))
  else
   some b
def Zu (d:Int) (c:Int) (b:Int):Option (Int × Int):=
 if (b == (0:Int))=true then
  none
 else
  if (decide (b≤d))=true then
   none
  else
   if (d == (0:Int))=true then
    if b ≠ 0 then
    if b ≠ 0 then
    some ((IntKind.wrap .u64 (Int.tdiv c b)),(Int.tmod c b))
    else none
    else none
   else
    (Zr b).bind fun a=>
    if 0≤(IntKind.wrap .u64 a) then
    if 0≤(IntKind.wrap .u64 a) then
    if 0≤(IntKind.wrap .u64 ((64:Int) - (IntKind.wrap .u64 a))) then
    if 0≤(IntKind.wrap .u64 a) then
    if (bShr .u64 (bShl .u64 b (IntKind.wrap .u64 a)) (32:Int)) ≠ 0 then
    (Zm c b a fuel (IntKind.wrap .u64 (Int.tdiv (bOr .u64 (bShl .u64 d (IntKind.wrap .u64 a)) (bShr .u64 c (IntKind.wrap .u64 ((64:Int) - (IntKind.wrap .u64 a))))) (bShr .u64 (bShl .u64 b (IntKind.wrap .u64 a)) (32:Int)))) (IntKind.wrap .u64 ((bOr .u64 (bShl .u64 d (IntKind.wrap .u64 a)) (bShr .u64 c (IntKind.wrap .u64 ((64:Int) - (IntKind.wrap .u64 a))))) - (IntKind.wrap .u64 ((IntKind.wrap .u64 (Int.tdiv (bOr .u64 (bShl .u64 d (IntKind.wrap .u64 a)) (bShr .u64 c (IntKind.wrap .u64 ((64:Int) - (IntKind.wrap .u64 a))))) (bShr .u64 (bShl .u64 b (IntKind.wrap .u64 a)) (32:Int)))) * (bShr .u64 (bShl .u64 b (IntKind.wrap .u64 a)) (32:Int))))))).bind fun f=>
     if (bShr .u64 (bShl .u64 b (IntKind.wrap .u64 a)) (32:Int)) ≠ 0 then
     (Zn c b a fuel (IntKind.wrap .u64 ((IntKind.wrap .u64 ((IntKind.wrap .u64 ((IntKind.wrap .u64 ((bOr .u64 (bShl .u64 d (IntKind.wrap .u64 a)) (bShr .u64 c (IntKind.wrap .u64 ((64:Int) - (IntKind.wrap .u64 a))))) * (4294967296:Int))) + (bShr .u64 (bShl .u64 c (IntKind.wrap .u64 a)) (32:Int)))) - (IntKind.wrap .u64 (f * (bShl .u64 b (IntKind.wrap .u64 a)))))) - (IntKind.wrap .u64 ((IntKind.wrap .u64 (Int.tdiv (IntKind.wrap .u64 ((IntKind.wrap .u64 ((IntKind.wrap .u64 ((bOr .u64 (bShl .u64 d (IntKind.wrap .u64 a)) (bShr .u64 c (IntKind.wrap .u64 ((64:Int) - (IntKind.wrap .u64 a))))) * (4294967296:Int))) + (bShr .u64 (bShl .u64 c (IntKind.wrap .u64 a)) (32:Int)))) - (IntKind.wrap .u64 (f * (bShl .u64 b (IntKind.wrap .u64 a)))))) (bShr .u64 (bShl .u64 b (IntKind.wrap .u64 a)) (32:Int)))) * (bShr .u64 (bShl .u64 b (IntKind.wrap .u64 a)) (32:Int)))))) (IntKind.wrap .u64 (Int.tdiv (IntKind.wrap .u64 ((IntKind.wrap .u64 ((IntKind.wrap .u64 ((bOr .u64 (bShl .u64 d (IntKind.wrap .u64 a)) (bShr .u64 c (IntKind.wrap .u64 ((64:Int) - (IntKind.wrap .u64 a))))) * (4294967296:Int))) + (bShr .u64 (bShl .u64 c (IntKind.wrap .u64 a)) (32:Int)))) - (IntKind.wrap .u64 (f * (bShl .u64 b (IntKind.wrap .u64 a)))))) (bShr .u64 (bShl .u64 b (IntKind.wrap .u64 a)) (32:Int))))).bind fun g=>
      if 0≤(IntKind.wrap .u64 a) then
      some ((IntKind.wrap .u64 ((IntKind.wrap .u64 (f * (4294967296:Int))) + g)),(bShr .u64 (IntKind.wrap .u64 ((IntKind.wrap .u64 ((IntKind.wrap .u64 ((IntKind.wrap .u64 ((IntKind.wrap .u64 ((IntKind.wrap .u64 ((bOr .u64 (bShl .u64 d (IntKind.wrap .u64 a)) (bShr .u64 c (IntKind.wrap .u64 ((64:Int) - (IntKind.wrap .u64 a))))) * (4294967296:Int))) + (bShr .u64 (bShl .u64 c (IntKind.wrap .u64 a)) (32:Int)))) - (IntKind.wrap .u64 (f * (bShl .u64 b (IntKind.wrap .u64 a)))))) * (4294967296:Int))) + (bAnd .u64 (bShl .u64 c (IntKind.wrap .u64 a)) (4294967295:Int)))) - (IntKind.wrap .u64 (g * (bShl .u64 b (IntKind.wrap .u64 a)))))) (IntKind.wrap .u64 a)))
      else none
     else none
    else none
    else none
    else none
    else none
    else none
def Zf (c:Nat):Nat→(List Int)→Int→Int→Option (List Int)
 | 0,_,_,_=>none
 | g+1,a,b,d=>
  if (decide (b<d))=true then
   (idxn c a d).bind fun f=>
   (idxn c a b).bind fun i=>
   (idxn c a b).bind fun _=>
   (idxn c (List.set a (Int.toNat b) f) d).bind fun _=>
   Zf c g (List.set (List.set a (Int.toNat b) f) (Int.toNat d) i) (IntKind.wrap .i64 (b + (1:Int))) (IntKind.wrap .i64 (d - (1:Int)))
  else
   some a
def Zi (a:Nat) (b:(List Int)):Option (List Int):=
 (Zf a fuel b (0:Int) (IntKind.wrap .i64 ((a:Int) - (1:Int)))).bind fun c=>
  some c
def Zo:Nat→Zb→(List Int)→Option (Zb × (List Int))
 | 0,_,_=>none
 | d+1,b,c=>
  (Zu (Int.tmod b.Hi (10:Int)) b.Lo (10:Int)).bind fun a=>
  if List.length c + List.length [(IntKind.wrap .u8 ((48:Int) + (IntKind.wrap .u8 a.2)))]≤lim then
  if (Z2 (Zb.mk (IntKind.wrap .u64 (Int.tdiv b.Hi (10:Int))) a.1) (Zb.mk (0:Int) (0:Int)))=true then
   some ((Zb.mk (IntKind.wrap .u64 (Int.tdiv b.Hi (10:Int))) a.1),(c++[(IntKind.wrap .u8 ((48:Int) + (IntKind.wrap .u8 a.2)))]))
  else
   Zo d (Zb.mk (IntKind.wrap .u64 (Int.tdiv b.Hi (10:Int))) a.1) (c++[(IntKind.wrap .u8 ((48:Int) + (IntKind.wrap .u8 a.2)))])
  else none
def Zv (c:Zb):Option ByteArray:=
 (Zo fuel c ([]:(List Int))).bind fun d=>
 match d with
 | (_,a)=>
  if a ≠ [] then
  (Zi (List.length a) a).bind fun b=>
  if List.length b=List.length a then
  some (strOf b)
  else none
  else none
def Zw (a:Int) (b:Int):Option (Int × Int):=
 some ((IntKind.wrap .u64 ((IntKind.wrap .u64 ((IntKind.wrap .u64 ((bShr .u64 a (32:Int)) * (bShr .u64 b (32:Int)))) + (bShr .u64 (IntKind.wrap .u64 ((IntKind.wrap .u64 ((bShr .u64 a (32:Int)) * (bAnd .u64 b (4294967295:Int)))) + (bShr .u64 (IntKind.wrap .u64 ((bAnd .u64 a (4294967295:Int)) * (bAnd .u64 b (4294967295:Int)))) (32:Int)))) (32:Int)))) + (bShr .u64 (IntKind.wrap .u64 ((bAnd .u64 (IntKind.wrap .u64 ((IntKind.wrap .u64 ((bShr .u64 a (32:Int)) * (bAnd .u64 b (4294967295:Int)))) + (bShr .u64 (IntKind.wrap .u64 ((bAnd .u64 a (4294967295:Int)) * (bAnd .u64 b (4294967295:Int)))) (32:Int)))) (4294967295:Int)) + (IntKind.wrap .u64 ((bAnd .u64 a (4294967295:Int)) * (bShr .u64 b (32:Int)))))) (32:Int)))),(IntKind.wrap .u64 (a * b)))
def Z3 (c:Zb) (d:Int):Option (Zb × Bool):=
 (Zw c.Lo d).bind fun a=>
 (Zw c.Hi d).bind fun b=>
 if 0≤b.2∧0≤a.1∧0≤(0:Int)∧(0:Int)≤1 then
 (some (b.1 == (0:Int))).bind fun f=>
 some ((Zb.mk ((b.2 + a.1 + (0:Int)) % 18446744073709551616) a.2),(f && (((b.2 + a.1 + (0:Int)) / 18446744073709551616) == (0:Int))))
 else none
def Z6 (a:Int):Option Zb:=
 some (Zb.mk (0:Int) a)
def Z9 (a:Zb) (b:Zb):Option Zb:=
 if 0≤a.Lo∧0≤b.Lo∧0≤(0:Int)∧(0:Int)≤1 then
 if 0≤a.Hi∧0≤b.Hi∧0≤((a.Lo + b.Lo + (0:Int)) / 18446744073709551616)∧((a.Lo + b.Lo + (0:Int)) / 18446744073709551616)≤1 then
 some (Zb.mk ((a.Hi + b.Hi + ((a.Lo + b.Lo + (0:Int)) / 18446744073709551616)) % 18446744073709551616) ((a.Lo + b.Lo + (0:Int)) % 18446744073709551616))
 else none
 else none
def Zz (a:Int):Option Bool:=
 some (a != a)
def Zp (a:Int) (b:Int):Option Int:=
 (Zz a).bind fun d=>
 (Zz b).bind fun c=>
 if d=true then
  if c=true then
   some (0:Int)
  else
   some (-1:Int)
 else
  if c=true then
   some (1:Int)
  else
   if (decide (a<b))=true then
    some (-1:Int)
   else
    if (decide (a > b))=true then
     some (1:Int)
    else
     some (0:Int)
def Zt (a:(List Int)):Nat→Int→Option (Unit ⊕ Int)
 | 0,_=>none
 | d+1,b=>
  if (decide (b<(List.length a:Int)))=true then
   (idx a b).bind fun c=>
   if (c != (0:Int))=true then
    some (.inr c)
   else
    Zt a d (IntKind.wrap .i64 (b + (1:Int)))
  else
   some (.inl ())
def Zag (a:(List Int)):Option Int:=
 (Zt a fuel (0:Int)).bind fun(b:(Unit ⊕ Int))=>
 match b with
 | .inl ()=>
   some (0:Int)
 | .inr c=>
   some c
def Z0 (a:Zb) (b:Zb):Option Int:=
 (Zp a.Hi b.Hi).bind fun c=>
 (Zp a.Lo b.Lo).bind fun d=>
 (Zag [c,d]).bind fun f=>
 some f
def Ze (a:ByteArray):Nat→Zb→Int→Option (Zb ⊕ (Zb × Bool))
 | 0,_,_=>none
 | g+1,d,b=>
  if (decide (b<(ByteArray.size a:Int)))=true then
   (sidx a b).bind fun i=>
   (some (decide (i<(48:Int)))).bind fun j=>
   (if j=true then some true else
    (sidx a b).bind fun k=>
    some (decide (k > (57:Int)))
    ).bind fun l=>
   if l=true then
    some (.inr ((Zb.mk (0:Int) (0:Int)),false))
   else
    (Z3 d (10:Int)).bind fun c=>
    (sidx a b).bind fun m=>
    (Z6 (IntKind.wrap .u64 (IntKind.wrap .u8 (m - (48:Int))))).bind fun n=>
    (Z9 c.1 n).bind fun f=>
    (some (!c.2)).bind fun o=>
    (if o=true then some true else
     (Z0 f c.1).bind fun p=>
     some (decide (p<(0:Int)))
     ).bind fun q=>
    if q=true then
     some (.inr ((Zb.mk (0:Int) (0:Int)),false))
    else
     Ze a g f (IntKind.wrap .i64 (b + (1:Int)))
  else
   some (.inl d)
def Zs (a:ByteArray):Option (Zb × Bool):=
 (some (a.toList == ByteArray.empty.toList)).bind fun b=>
 (if b=true then some true else
  (some (decide ((ByteArray.size a:Int) > (1:Int)))).bind fun c=>
  (if c=true then
   (sidx a (0:Int)).bind fun d=>
   some (d == (48:Int))
   else some false).bind fun f=>
  some f
  ).bind fun g=>
 if g=true then
  some ((Zb.mk (0:Int) (0:Int)),false)
 else
  (Ze a fuel Zc (0:Int)).bind fun(i:(Zb ⊕ (Zb × Bool)))=>
  match i with
  | .inl j=>
    some (j,true)
  | .inr k=>
    some k
def Zx (a:Zb) (b:ByteArray):Option Bool:=
 (Zv a).bind fun f=>
 (Zs f).bind fun c=>
 (Zs b).bind fun d=>
 (some c.2).bind fun g=>
 (some (g && (Z2 c.1 a))).bind fun i=>
 (if i=true then
  (some (!d.2)).bind fun j=>
  (if j=true then some true else
   (Zv d.1).bind fun k=>
   some (k.toList == b.toList)
   ).bind fun l=>
  some l
  else some false).bind fun m=>
 (some m).bind fun n=>
 (if n=true then
  (Zax).bind fun o=>
  some o
  else some false).bind fun p=>
 some p
end Go.AM
set_option maxRecDepth 1000000
namespace Go.AM
open Go Go.Proofs
def glob:Glob:=[(2,Zd0 Zev)]
def T0:Tab:=[]
theorem T0_ok:T0.ok Tryd.prog glob:=Tab.nil
def T1:Tab:=(24,[.sl 10 [[.sc (.int .u32 0),.sc (.int .u32 4294967295),.sc (.int .u32 0),.sc (.int .u32 4294967295),.sc (.int .u32 0),.sc (.int .u32 255),.sc (.int .u32 0),.sc (.int .u32 65535),.sc (.int .u32 0),.sc (.int .u32 65535)]]],.tup [.sc (.agg #[.int .u64 1099511627776,.int .u64 0]),.sc (.int .i64 0)]) :: T0
theorem T1_ok:T1.ok Tryd.prog glob:=Tab.cons T0_ok 100000 (by kernel_rfl)
def T2:Tab:=(50,[.sc (.agg #[.int .u64 0,.int .u64 1]),.sc (.agg #[.int .u64 256,.int .u64 0]),.sc (.int .u64 4294967295)],.sc (.int .u64 0)) :: T1
theorem T2_ok:T2.ok Tryd.prog glob:=Tab.cons T1_ok 100000 (by kernel_rfl)
def T3:Tab:=(50,[.sc (.agg #[.int .u64 0,.int .u64 1]),.sc (.agg #[.int .u64 0,.int .u64 1099511627776]),.sc (.int .u64 4294967295)],.sc (.int .u64 0)) :: T2
theorem T3_ok:T3.ok Tryd.prog glob:=Tab.cons T2_ok 100000 (by kernel_rfl)
def T4:Tab:=(50,[.sc (.agg #[.int .u64 0,.int .u64 1]),.sc (.agg #[.int .u64 0,.int .u64 4294967296]),.sc (.int .u64 255)],.sc (.int .u64 0)) :: T3
theorem T4_ok:T4.ok Tryd.prog glob:=Tab.cons T3_ok 100000 (by kernel_rfl)
def T5:Tab:=(50,[.sc (.agg #[.int .u64 0,.int .u64 1]),.sc (.agg #[.int .u64 0,.int .u64 65536]),.sc (.int .u64 65535)],.sc (.int .u64 0)) :: T4
theorem T5_ok:T5.ok Tryd.prog glob:=Tab.cons T4_ok 100000 (by kernel_rfl)
def T6:Tab:=(50,[.sc (.agg #[.int .u64 0,.int .u64 1]),.sc (.agg #[.int .u64 0,.int .u64 1]),.sc (.int .u64 65535)],.sc (.int .u64 1)) :: T5
theorem T6_ok:T6.ok Tryd.prog glob:=Tab.cons T5_ok 100000 (by kernel_rfl)
def T7:Tab:=(25,[.sl 10 [[.sc (.int .u32 0),.sc (.int .u32 4294967295),.sc (.int .u32 0),.sc (.int .u32 4294967295),.sc (.int .u32 0),.sc (.int .u32 255),.sc (.int .u32 0),.sc (.int .u32 65535),.sc (.int .u32 0),.sc (.int .u32 65535)]],.sc (.agg #[.int .u64 0,.int .u64 1])],.tup [.sc (.agg #[.int .u32 0,.int .u32 0,.int .u8 0,.int .u16 0,.int .u16 1]),.sc (.bool true)]) :: T6
theorem T7_ok:T7.ok Tryd.prog glob:=Tab.cons T6_ok 100000 (by kernel_rfl)
def T8:Tab:=(20,[.sc (.agg #[.int .u64 1099511627776,.int .u64 0])],.sc (.string (ByteArray.mk #[50,48,50,56,50,52,48,57,54,48,51,54,53,49,54,55,48,52,50,51,57,52,55,50,53,49,50,56,54,48,49,54]))) :: T7
theorem T8_ok:T8.ok Tryd.prog glob:=Tab.cons T7_ok 100000 (by kernel_rfl)
def T9:Tab:=(10,[],.sc (.bool true)) :: T8
theorem T9_ok:T9.ok Tryd.prog glob:=Tab.cons T8_ok 100000 (by kernel_rfl)
end Go.AM
set_option maxRecDepth 100000
namespace Go.AM
open Go Go.Proofs
def Zd9 (r:Bool):PV→List Blk→Prop:=fun p K=>p=(vb r)∧K=[]
theorem Zbt (r:Bool) (hF:Zax=some r):ACall Tryd.prog glob 10 [] [] (Zd9 r):=by
 have hr:=someb hF
 subst hr
 exact(T9_ok _ (List.mem_cons.2 (.inl rfl))).1
def Zcv (r:Int):PV→List Blk→Prop:=fun p K=>p=(i64 r)∧K=[]
theorem Zcw (a:Int) (r:Int) (hF:Zai a=some r):ACall Tryd.prog glob 73 [(u64 a)] [] (Zcv r):=by
 refine ACall.body Tryd.func73 rfl (by kernel_rfl) ?_
 unfold Zai at hF
 refine AWP.seq (AWP.rg0 [] [(0,(u64 a)),(2,(i64 (0:Int)))] ?_)
 obtain⟨j,k,hF⟩:=bindb hF
 refine AWP.seq ?_
 refine AWP.mid (fun e st H=>(e=.normal∧∃ b,∃ d,j=(b,d)∧st=[(0,(u64 b)),(2,(i64 d))]∧H=[])) ?_ ?_
 ·clear hF
  have hF:=k
  refine AWP.seq (AWP.rg0 [] [(0,(u64 a)),(2,(i64 (0:Int))),(4,(vb (decide (a ≥ (4294967296:Int)))))] ?_)
  refine AWP.cif hF (fun l hF=>?_) (fun l hF=>?_)
  ·refine AWP.seq (AWP.rg0 [] [(0,(u64 (bShr .u64 a (32:Int))))] (AWP.rg0 [] [(0,(u64 (bShr .u64 a (32:Int)))),(2,(i64 (32:Int)))] (LeQ.start (LeQ.pk [0,2] 0 ?_))))
   exact⟨rfl,(bShr .u64 a (32:Int)),(32:Int),(someb hF).symm,by kernel_rfl,by kernel_rfl⟩
  ·refine AWP.skip (LeQ.start (LeQ.pk [0,2] 0 ?_))
   exact⟨rfl,a,(0:Int),(someb hF).symm,by kernel_rfl,by kernel_rfl⟩
 ·rintro _ _ _ ⟨rfl,b,d,rfl,rfl,rfl⟩
  obtain⟨m,n,hF⟩:=bindb hF
  refine AWP.seq ?_
  refine AWP.mid (fun e st H=>(e=.normal∧∃ c,∃ f,m=(c,f)∧st=[(0,(u64 c)),(2,(i64 f))]∧H=[])) ?_ ?_
  ·clear hF
   have hF:=n
   refine AWP.seq (AWP.rg0 [] [(0,(u64 b)),(2,(i64 d)),(8,(vb (decide (b ≥ (65536:Int)))))] ?_)
   refine AWP.cif hF (fun o hF=>?_) (fun o hF=>?_)
   ·refine AWP.seq (AWP.rg0 [] [(0,(u64 (bShr .u64 b (16:Int)))),(2,(i64 d))] (AWP.rg0 [] [(0,(u64 (bShr .u64 b (16:Int)))),(2,(i64 (ZI (d + (16:Int)))))] (LeQ.start (LeQ.pk [0,2] 0 ?_))))
    exact⟨rfl,(bShr .u64 b (16:Int)),(ZI (d + (16:Int))),(someb hF).symm,by kernel_rfl,by kernel_rfl⟩
   ·refine AWP.skip (LeQ.start (LeQ.pk [0,2] 0 ?_))
    exact⟨rfl,b,d,(someb hF).symm,by kernel_rfl,by kernel_rfl⟩
  ·rintro _ _ _ ⟨rfl,c,f,rfl,rfl,rfl⟩
   obtain⟨p,q,hF⟩:=bindb hF
   refine AWP.seq ?_
   refine AWP.mid (fun e st H=>(e=.normal∧∃ i,∃ g,p=(i,g)∧st=[(0,(u64 i)),(2,(i64 g))]∧H=[])) ?_ ?_
   ·clear hF
    have hF:=q
    refine AWP.seq (AWP.rg0 [] [(0,(u64 c)),(2,(i64 f)),(14,(vb (decide (c ≥ (256:Int)))))] ?_)
    refine AWP.cif hF (fun s hF=>?_) (fun s hF=>?_)
    ·refine AWP.seq (AWP.rg0 [] [(0,(u64 (bShr .u64 c (8:Int)))),(2,(i64 f))] (AWP.rg0 [] [(0,(u64 (bShr .u64 c (8:Int)))),(2,(i64 (ZI (f + (8:Int)))))] (LeQ.start (LeQ.pk [0,2] 0 ?_))))
     exact⟨rfl,(bShr .u64 c (8:Int)),(ZI (f + (8:Int))),(someb hF).symm,by kernel_rfl,by kernel_rfl⟩
    ·refine AWP.skip (LeQ.start (LeQ.pk [0,2] 0 ?_))
     exact⟨rfl,c,f,(someb hF).symm,by kernel_rfl,by kernel_rfl⟩
   ·rintro _ _ _ ⟨rfl,i,g,rfl,rfl,rfl⟩
    refine AWP.seq ?_
    obtain⟨t,u,hF⟩:=bindb hF
    refine AWP.rg0 [(3,.str u)] [(2,(i64 (ZI (g + (ZI t)))))] (AWP.ret ?_)
    have hr:=someb hF
    subst hr
    exact(FnQ.f0 0 (.inr rfl))
def Za6 (r:Int):PV→List Blk→Prop:=fun p K=>p=(i64 r)∧K=[]
theorem Za7 (a:Int) (r:Int) (hF:Zr a=some r):ACall Tryd.prog glob 59 [(u64 a)] [] (Za6 r):=by
 refine ACall.body Tryd.func59 rfl (by kernel_rfl) ?_
 unfold Zr at hF
 refine AWP.seq (AWP.rg0 [] [(0,(u64 a))] (AWP.seq ?_))
 obtain⟨b,c,hF⟩:=bindb hF
 refine AWP.rg0 [(1,.call Tryd.func73 [] (Zcw a b c))] [(2,(i64 (ZI ((64:Int) - b))))] (AWP.ret ?_)
 have hr:=someb hF
 subst hr
 exact(FnQ.f0 0 (.inr rfl))
def Zcx (r:(Int × Int)):PV→List Blk→Prop:=fun p K=>p=(.tup [(u64 r.1),(u64 r.2)])∧K=[]
theorem Zcy (d:Int) (c:Int) (b:Int) (r:(Int × Int)) (hF:Zu d c b=some r):ACall Tryd.prog glob 38 [(u64 d),(u64 c),(u64 b)] [] (Zcx r):=by
 refine ACall.body Tryd.func38 rfl (by kernel_rfl) ?_
 unfold Zu at hF
 refine AWP.seq (AWP.rg0 [] [(0,(u64 d)),(1,(u64 c)),(2,(u64 b))] (AWP.seq (AWP.seq (AWP.rg0 [] [(0,(u64 d)),(1,(u64 c)),(2,(u64 b)),(20,(vb (b == (0:Int))))] ?_))))
 refine AWP.cif hF (fun u hF=>?_) (fun u hF=>?_)
 ·exact noneb hF
 ·refine AWP.skip (AWP.seq (AWP.seq (AWP.rg0 [] [(0,(u64 d)),(1,(u64 c)),(2,(u64 b)),(24,(vb (decide (b≤d))))] ?_)))
  refine AWP.cif hF (fun v hF=>?_) (fun v hF=>?_)
  ·exact noneb hF
  ·refine AWP.skip (AWP.seq (AWP.seq (AWP.rg0 [] [(0,(u64 d)),(1,(u64 c)),(2,(u64 b)),(27,(vb (d == (0:Int))))] ?_)))
   refine AWP.cif hF (fun w hF=>?_) (fun w hF=>?_)
   ·refine AWP.seq ?_
    obtain⟨x,hF⟩:=chkb hF
    obtain⟨y,hF⟩:=chkb hF
    refine AWP.dr [(2,.rem x),(5,.rem y)] 7 [] [] [] [(6,(u64 (IntKind.wrap .u64 (Int.tdiv c b)))),(7,(u64 (Int.tmod c b)))] [] (AWP.ret ?_)
    have hr:=someb hF
    subst hr
    exact(FnQ.f0 0 (.inr rfl))
   ·refine AWP.skip (AWP.seq ?_)
    obtain⟨a,z,hF⟩:=bindb hF
    refine AWP.rg0 [(1,.call Tryd.func59 [] (Za7 b a z))] [(0,(u64 d)),(1,(u64 c)),(2,(u64 b)),(8,(u64 (IntKind.wrap .u64 a)))] (AWP.seq ?_)
    obtain⟨a0,hF⟩:=chkb hF
    refine AWP.rg0 [(2,.sh a0)] [(0,(u64 d)),(1,(u64 c)),(2,(u64 (bShl .u64 b (IntKind.wrap .u64 a)))),(8,(u64 (IntKind.wrap .u64 a)))] (AWP.seq (AWP.rg0 [] [(0,(u64 d)),(1,(u64 c)),(2,(u64 (bShl .u64 b (IntKind.wrap .u64 a)))),(8,(u64 (IntKind.wrap .u64 a))),(9,(u64 (bShr .u64 (bShl .u64 b (IntKind.wrap .u64 a)) (32:Int))))] (AWP.seq (AWP.rg0 [] [(0,(u64 d)),(1,(u64 c)),(2,(u64 (bShl .u64 b (IntKind.wrap .u64 a)))),(8,(u64 (IntKind.wrap .u64 a))),(9,(u64 (bShr .u64 (bShl .u64 b (IntKind.wrap .u64 a)) (32:Int)))),(10,(u64 (bAnd .u64 (bShl .u64 b (IntKind.wrap .u64 a)) (4294967295:Int))))] (AWP.seq ?_)))))
    obtain⟨a1,hF⟩:=chkb hF
    obtain⟨a2,hF⟩:=chkb hF
    refine AWP.rg0 [(2,.sh a1),(6,.sh a2)] [(1,(u64 c)),(2,(u64 (bShl .u64 b (IntKind.wrap .u64 a)))),(8,(u64 (IntKind.wrap .u64 a))),(9,(u64 (bShr .u64 (bShl .u64 b (IntKind.wrap .u64 a)) (32:Int)))),(10,(u64 (bAnd .u64 (bShl .u64 b (IntKind.wrap .u64 a)) (4294967295:Int)))),(11,(u64 (bOr .u64 (bShl .u64 d (IntKind.wrap .u64 a)) (bShr .u64 c (IntKind.wrap .u64 ((64:Int) - (IntKind.wrap .u64 a)))))))] (AWP.seq ?_)
    obtain⟨a3,hF⟩:=chkb hF
    refine AWP.rg0 [(2,.sh a3)] [(2,(u64 (bShl .u64 b (IntKind.wrap .u64 a)))),(8,(u64 (IntKind.wrap .u64 a))),(9,(u64 (bShr .u64 (bShl .u64 b (IntKind.wrap .u64 a)) (32:Int)))),(10,(u64 (bAnd .u64 (bShl .u64 b (IntKind.wrap .u64 a)) (4294967295:Int)))),(11,(u64 (bOr .u64 (bShl .u64 d (IntKind.wrap .u64 a)) (bShr .u64 c (IntKind.wrap .u64 ((64:Int) - (IntKind.wrap .u64 a))))))),(12,(u64 (bShl .u64 c (IntKind.wrap .u64 a))))] (AWP.seq (AWP.rg0 [] [(2,(u64 (bShl .u64 b (IntKind.wrap .u64 a)))),(8,(u64 (IntKind.wrap .u64 a))),(9,(u64 (bShr .u64 (bShl .u64 b (IntKind.wrap .u64 a)) (32:Int)))),(10,(u64 (bAnd .u64 (bShl .u64 b (IntKind.wrap .u64 a)) (4294967295:Int)))),(11,(u64 (bOr .u64 (bShl .u64 d (IntKind.wrap .u64 a)) (bShr .u64 c (IntKind.wrap .u64 ((64:Int) - (IntKind.wrap .u64 a))))))),(12,(u64 (bShl .u64 c (IntKind.wrap .u64 a)))),(13,(u64 (bShr .u64 (bShl .u64 c (IntKind.wrap .u64 a)) (32:Int))))] (AWP.seq (AWP.rg0 [] [(2,(u64 (bShl .u64 b (IntKind.wrap .u64 a)))),(8,(u64 (IntKind.wrap .u64 a))),(9,(u64 (bShr .u64 (bShl .u64 b (IntKind.wrap .u64 a)) (32:Int)))),(10,(u64 (bAnd .u64 (bShl .u64 b (IntKind.wrap .u64 a)) (4294967295:Int)))),(11,(u64 (bOr .u64 (bShl .u64 d (IntKind.wrap .u64 a)) (bShr .u64 c (IntKind.wrap .u64 ((64:Int) - (IntKind.wrap .u64 a))))))),(13,(u64 (bShr .u64 (bShl .u64 c (IntKind.wrap .u64 a)) (32:Int)))),(14,(u64 (bAnd .u64 (bShl .u64 c (IntKind.wrap .u64 a)) (4294967295:Int))))] (AWP.seq ?_)))))
    obtain⟨a4,hF⟩:=chkb hF
    refine AWP.rg0 [(2,.rem a4)] [(2,(u64 (bShl .u64 b (IntKind.wrap .u64 a)))),(8,(u64 (IntKind.wrap .u64 a))),(9,(u64 (bShr .u64 (bShl .u64 b (IntKind.wrap .u64 a)) (32:Int)))),(10,(u64 (bAnd .u64 (bShl .u64 b (IntKind.wrap .u64 a)) (4294967295:Int)))),(11,(u64 (bOr .u64 (bShl .u64 d (IntKind.wrap .u64 a)) (bShr .u64 c (IntKind.wrap .u64 ((64:Int) - (IntKind.wrap .u64 a))))))),(13,(u64 (bShr .u64 (bShl .u64 c (IntKind.wrap .u64 a)) (32:Int)))),(14,(u64 (bAnd .u64 (bShl .u64 c (IntKind.wrap .u64 a)) (4294967295:Int)))),(15,(u64 (IntKind.wrap .u64 (Int.tdiv (bOr .u64 (bShl .u64 d (IntKind.wrap .u64 a)) (bShr .u64 c (IntKind.wrap .u64 ((64:Int) - (IntKind.wrap .u64 a))))) (bShr .u64 (bShl .u64 b (IntKind.wrap .u64 a)) (32:Int))))))] (AWP.seq (AWP.rg0 [] [(2,(u64 (bShl .u64 b (IntKind.wrap .u64 a)))),(8,(u64 (IntKind.wrap .u64 a))),(9,(u64 (bShr .u64 (bShl .u64 b (IntKind.wrap .u64 a)) (32:Int)))),(10,(u64 (bAnd .u64 (bShl .u64 b (IntKind.wrap .u64 a)) (4294967295:Int)))),(11,(u64 (bOr .u64 (bShl .u64 d (IntKind.wrap .u64 a)) (bShr .u64 c (IntKind.wrap .u64 ((64:Int) - (IntKind.wrap .u64 a))))))),(13,(u64 (bShr .u64 (bShl .u64 c (IntKind.wrap .u64 a)) (32:Int)))),(14,(u64 (bAnd .u64 (bShl .u64 c (IntKind.wrap .u64 a)) (4294967295:Int)))),(15,(u64 (IntKind.wrap .u64 (Int.tdiv (bOr .u64 (bShl .u64 d (IntKind.wrap .u64 a)) (bShr .u64 c (IntKind.wrap .u64 ((64:Int) - (IntKind.wrap .u64 a))))) (bShr .u64 (bShl .u64 b (IntKind.wrap .u64 a)) (32:Int)))))),(16,(u64 (IntKind.wrap .u64 ((bOr .u64 (bShl .u64 d (IntKind.wrap .u64 a)) (bShr .u64 c (IntKind.wrap .u64 ((64:Int) - (IntKind.wrap .u64 a))))) - (IntKind.wrap .u64 ((IntKind.wrap .u64 (Int.tdiv (bOr .u64 (bShl .u64 d (IntKind.wrap .u64 a)) (bShr .u64 c (IntKind.wrap .u64 ((64:Int) - (IntKind.wrap .u64 a))))) (bShr .u64 (bShl .u64 b (IntKind.wrap .u64 a)) (32:Int)))) * (bShr .u64 (bShl .u64 b (IntKind.wrap .u64 a)) (32:Int))))))))] (AWP.seq ?_)))
    obtain⟨f,a5,hF⟩:=bindb hF
    refine AWP.mid (fun e st H=>e=.normal∧st=[(2,(u64 (bShl .u64 b (IntKind.wrap .u64 a)))),(8,(u64 (IntKind.wrap .u64 a))),(9,(u64 (bShr .u64 (bShl .u64 b (IntKind.wrap .u64 a)) (32:Int)))),(10,(u64 (bAnd .u64 (bShl .u64 b (IntKind.wrap .u64 a)) (4294967295:Int)))),(11,(u64 (bOr .u64 (bShl .u64 d (IntKind.wrap .u64 a)) (bShr .u64 c (IntKind.wrap .u64 ((64:Int) - (IntKind.wrap .u64 a))))))),(13,(u64 (bShr .u64 (bShl .u64 c (IntKind.wrap .u64 a)) (32:Int)))),(14,(u64 (bAnd .u64 (bShl .u64 c (IntKind.wrap .u64 a)) (4294967295:Int)))),(15,(u64 f))]∧H=[]) ?_ ?_
    ·clear hF
     refine AWP.kp [2,8,9,10,11,13,14,15,16] 0 ?_
     refine AWP.bround (fun n st H=>∃ j,∃ g,Zm c b a n j g=some f∧st=[(2,(u64 (bShl .u64 b (IntKind.wrap .u64 a)))),(8,(u64 (IntKind.wrap .u64 a))),(9,(u64 (bShr .u64 (bShl .u64 b (IntKind.wrap .u64 a)) (32:Int)))),(10,(u64 (bAnd .u64 (bShl .u64 b (IntKind.wrap .u64 a)) (4294967295:Int)))),(11,(u64 (bOr .u64 (bShl .u64 d (IntKind.wrap .u64 a)) (bShr .u64 c (IntKind.wrap .u64 ((64:Int) - (IntKind.wrap .u64 a))))))),(13,(u64 (bShr .u64 (bShl .u64 c (IntKind.wrap .u64 a)) (32:Int)))),(14,(u64 (bAnd .u64 (bShl .u64 c (IntKind.wrap .u64 a)) (4294967295:Int)))),(15,(u64 j)),(16,(u64 g))]∧H=[]) fuel ⟨(IntKind.wrap .u64 (Int.tdiv (bOr .u64 (bShl .u64 d (IntKind.wrap .u64 a)) (bShr .u64 c (IntKind.wrap .u64 ((64:Int) - (IntKind.wrap .u64 a))))) (bShr .u64 (bShl .u64 b (IntKind.wrap .u64 a)) (32:Int)))),(IntKind.wrap .u64 ((bOr .u64 (bShl .u64 d (IntKind.wrap .u64 a)) (bShr .u64 c (IntKind.wrap .u64 ((64:Int) - (IntKind.wrap .u64 a))))) - (IntKind.wrap .u64 ((IntKind.wrap .u64 (Int.tdiv (bOr .u64 (bShl .u64 d (IntKind.wrap .u64 a)) (bShr .u64 c (IntKind.wrap .u64 ((64:Int) - (IntKind.wrap .u64 a))))) (bShr .u64 (bShl .u64 b (IntKind.wrap .u64 a)) (32:Int)))) * (bShr .u64 (bShl .u64 b (IntKind.wrap .u64 a)) (32:Int)))))),a5,by kernel_rfl,by kernel_rfl⟩ ?_
     rintro p st H ⟨j,g,hF,rfl,rfl⟩
     cases p with
     | zero=>exact noneb hF
     | succ p=>
      rw [Zm] at hF
      refine AWP.seq (AWP.seq ?_)
      obtain⟨s,l,hF⟩:=bindb hF
      replace l:=someb l
      refine AWP.to [(2,(u64 (bShl .u64 b (IntKind.wrap .u64 a)))),(8,(u64 (IntKind.wrap .u64 a))),(9,(u64 (bShr .u64 (bShl .u64 b (IntKind.wrap .u64 a)) (32:Int)))),(10,(u64 (bAnd .u64 (bShl .u64 b (IntKind.wrap .u64 a)) (4294967295:Int)))),(11,(u64 (bOr .u64 (bShl .u64 d (IntKind.wrap .u64 a)) (bShr .u64 c (IntKind.wrap .u64 ((64:Int) - (IntKind.wrap .u64 a))))))),(13,(u64 (bShr .u64 (bShl .u64 c (IntKind.wrap .u64 a)) (32:Int)))),(14,(u64 (bAnd .u64 (bShl .u64 c (IntKind.wrap .u64 a)) (4294967295:Int)))),(15,(u64 j)),(16,(u64 g)),(78,(vb (s || (decide ((IntKind.wrap .u64 (j * (bAnd .u64 (bShl .u64 b (IntKind.wrap .u64 a)) (4294967295:Int)))) > (IntKind.wrap .u64 ((IntKind.wrap .u64 ((4294967296:Int) * g)) + (bShr .u64 (bShl .u64 c (IntKind.wrap .u64 a)) (32:Int)))))))))] [] ?_ ?_
      ·cases s with
       | false=>
        exact AWP.rgT [(2,.bool l)]
       | true=>
        exact AWP.rgT [(2,.bool l)]
      refine AWP.cif hF (fun a6 hF=>?_) (fun a6 hF=>?_)
      ·refine AWP.skip (AWP.block (AWP.seq (AWP.rg0 [] [(2,(u64 (bShl .u64 b (IntKind.wrap .u64 a)))),(8,(u64 (IntKind.wrap .u64 a))),(9,(u64 (bShr .u64 (bShl .u64 b (IntKind.wrap .u64 a)) (32:Int)))),(10,(u64 (bAnd .u64 (bShl .u64 b (IntKind.wrap .u64 a)) (4294967295:Int)))),(11,(u64 (bOr .u64 (bShl .u64 d (IntKind.wrap .u64 a)) (bShr .u64 c (IntKind.wrap .u64 ((64:Int) - (IntKind.wrap .u64 a))))))),(13,(u64 (bShr .u64 (bShl .u64 c (IntKind.wrap .u64 a)) (32:Int)))),(14,(u64 (bAnd .u64 (bShl .u64 c (IntKind.wrap .u64 a)) (4294967295:Int)))),(15,(u64 (IntKind.wrap .u64 (j - (1:Int))))),(16,(u64 g))] (AWP.seq (AWP.rg0 [] [(2,(u64 (bShl .u64 b (IntKind.wrap .u64 a)))),(8,(u64 (IntKind.wrap .u64 a))),(9,(u64 (bShr .u64 (bShl .u64 b (IntKind.wrap .u64 a)) (32:Int)))),(10,(u64 (bAnd .u64 (bShl .u64 b (IntKind.wrap .u64 a)) (4294967295:Int)))),(11,(u64 (bOr .u64 (bShl .u64 d (IntKind.wrap .u64 a)) (bShr .u64 c (IntKind.wrap .u64 ((64:Int) - (IntKind.wrap .u64 a))))))),(13,(u64 (bShr .u64 (bShl .u64 c (IntKind.wrap .u64 a)) (32:Int)))),(14,(u64 (bAnd .u64 (bShl .u64 c (IntKind.wrap .u64 a)) (4294967295:Int)))),(15,(u64 (IntKind.wrap .u64 (j - (1:Int))))),(16,(u64 (IntKind.wrap .u64 (g + (bShr .u64 (bShl .u64 b (IntKind.wrap .u64 a)) (32:Int))))))] (AWP.seq ?_))))))
       refine AWP.rg0 [] [(2,(u64 (bShl .u64 b (IntKind.wrap .u64 a)))),(8,(u64 (IntKind.wrap .u64 a))),(9,(u64 (bShr .u64 (bShl .u64 b (IntKind.wrap .u64 a)) (32:Int)))),(10,(u64 (bAnd .u64 (bShl .u64 b (IntKind.wrap .u64 a)) (4294967295:Int)))),(11,(u64 (bOr .u64 (bShl .u64 d (IntKind.wrap .u64 a)) (bShr .u64 c (IntKind.wrap .u64 ((64:Int) - (IntKind.wrap .u64 a))))))),(13,(u64 (bShr .u64 (bShl .u64 c (IntKind.wrap .u64 a)) (32:Int)))),(14,(u64 (bAnd .u64 (bShl .u64 c (IntKind.wrap .u64 a)) (4294967295:Int)))),(15,(u64 (IntKind.wrap .u64 (j - (1:Int))))),(16,(u64 (IntKind.wrap .u64 (g + (bShr .u64 (bShl .u64 b (IntKind.wrap .u64 a)) (32:Int)))))),(85,(vb (decide ((IntKind.wrap .u64 (g + (bShr .u64 (bShl .u64 b (IntKind.wrap .u64 a)) (32:Int)))) ≥ (4294967296:Int)))))] ?_
       refine AWP.cif hF (fun a7 hF=>?_) (fun a7 hF=>?_)
       ·refine AWP.exit (LeQ.start (LeQ.pk [2,8,9,10,11,13,14,15] 0 ?_))
        have hr:=someb hF
        subst hr
        exact⟨rfl,by kernel_rfl,by kernel_rfl⟩
       ·refine AWP.skip (LeQ.start (LeQ.pk [2,8,9,10,11,13,14,15,16] 0 ?_))
        exact⟨p,Nat.lt_succ_self _,(IntKind.wrap .u64 (j - (1:Int))),(IntKind.wrap .u64 (g + (bShr .u64 (bShl .u64 b (IntKind.wrap .u64 a)) (32:Int)))),hF,by kernel_rfl,by kernel_rfl⟩
      ·refine AWP.exit (LeQ.start (LeQ.pk [2,8,9,10,11,13,14,15] 0 ?_))
       have hr:=someb hF
       subst hr
       exact⟨rfl,by kernel_rfl,by kernel_rfl⟩
    ·rintro _ _ _ ⟨rfl,rfl,rfl⟩
     refine AWP.seq (AWP.rg0 [] [(2,(u64 (bShl .u64 b (IntKind.wrap .u64 a)))),(8,(u64 (IntKind.wrap .u64 a))),(9,(u64 (bShr .u64 (bShl .u64 b (IntKind.wrap .u64 a)) (32:Int)))),(10,(u64 (bAnd .u64 (bShl .u64 b (IntKind.wrap .u64 a)) (4294967295:Int)))),(14,(u64 (bAnd .u64 (bShl .u64 c (IntKind.wrap .u64 a)) (4294967295:Int)))),(15,(u64 f)),(17,(u64 (IntKind.wrap .u64 ((IntKind.wrap .u64 ((IntKind.wrap .u64 ((bOr .u64 (bShl .u64 d (IntKind.wrap .u64 a)) (bShr .u64 c (IntKind.wrap .u64 ((64:Int) - (IntKind.wrap .u64 a))))) * (4294967296:Int))) + (bShr .u64 (bShl .u64 c (IntKind.wrap .u64 a)) (32:Int)))) - (IntKind.wrap .u64 (f * (bShl .u64 b (IntKind.wrap .u64 a))))))))] (AWP.seq ?_))
     obtain⟨a8,hF⟩:=chkb hF
     refine AWP.rg0 [(2,.rem a8)] [(2,(u64 (bShl .u64 b (IntKind.wrap .u64 a)))),(8,(u64 (IntKind.wrap .u64 a))),(9,(u64 (bShr .u64 (bShl .u64 b (IntKind.wrap .u64 a)) (32:Int)))),(10,(u64 (bAnd .u64 (bShl .u64 b (IntKind.wrap .u64 a)) (4294967295:Int)))),(14,(u64 (bAnd .u64 (bShl .u64 c (IntKind.wrap .u64 a)) (4294967295:Int)))),(15,(u64 f)),(17,(u64 (IntKind.wrap .u64 ((IntKind.wrap .u64 ((IntKind.wrap .u64 ((bOr .u64 (bShl .u64 d (IntKind.wrap .u64 a)) (bShr .u64 c (IntKind.wrap .u64 ((64:Int) - (IntKind.wrap .u64 a))))) * (4294967296:Int))) + (bShr .u64 (bShl .u64 c (IntKind.wrap .u64 a)) (32:Int)))) - (IntKind.wrap .u64 (f * (bShl .u64 b (IntKind.wrap .u64 a)))))))),(18,(u64 (IntKind.wrap .u64 (Int.tdiv (IntKind.wrap .u64 ((IntKind.wrap .u64 ((IntKind.wrap .u64 ((bOr .u64 (bShl .u64 d (IntKind.wrap .u64 a)) (bShr .u64 c (IntKind.wrap .u64 ((64:Int) - (IntKind.wrap .u64 a))))) * (4294967296:Int))) + (bShr .u64 (bShl .u64 c (IntKind.wrap .u64 a)) (32:Int)))) - (IntKind.wrap .u64 (f * (bShl .u64 b (IntKind.wrap .u64 a)))))) (bShr .u64 (bShl .u64 b (IntKind.wrap .u64 a)) (32:Int))))))] (AWP.seq (AWP.rg0 [] [(2,(u64 (bShl .u64 b (IntKind.wrap .u64 a)))),(8,(u64 (IntKind.wrap .u64 a))),(9,(u64 (bShr .u64 (bShl .u64 b (IntKind.wrap .u64 a)) (32:Int)))),(10,(u64 (bAnd .u64 (bShl .u64 b (IntKind.wrap .u64 a)) (4294967295:Int)))),(14,(u64 (bAnd .u64 (bShl .u64 c (IntKind.wrap .u64 a)) (4294967295:Int)))),(15,(u64 f)),(16,(u64 (IntKind.wrap .u64 ((IntKind.wrap .u64 ((IntKind.wrap .u64 ((IntKind.wrap .u64 ((bOr .u64 (bShl .u64 d (IntKind.wrap .u64 a)) (bShr .u64 c (IntKind.wrap .u64 ((64:Int) - (IntKind.wrap .u64 a))))) * (4294967296:Int))) + (bShr .u64 (bShl .u64 c (IntKind.wrap .u64 a)) (32:Int)))) - (IntKind.wrap .u64 (f * (bShl .u64 b (IntKind.wrap .u64 a)))))) - (IntKind.wrap .u64 ((IntKind.wrap .u64 (Int.tdiv (IntKind.wrap .u64 ((IntKind.wrap .u64 ((IntKind.wrap .u64 ((bOr .u64 (bShl .u64 d (IntKind.wrap .u64 a)) (bShr .u64 c (IntKind.wrap .u64 ((64:Int) - (IntKind.wrap .u64 a))))) * (4294967296:Int))) + (bShr .u64 (bShl .u64 c (IntKind.wrap .u64 a)) (32:Int)))) - (IntKind.wrap .u64 (f * (bShl .u64 b (IntKind.wrap .u64 a)))))) (bShr .u64 (bShl .u64 b (IntKind.wrap .u64 a)) (32:Int)))) * (bShr .u64 (bShl .u64 b (IntKind.wrap .u64 a)) (32:Int)))))))),(17,(u64 (IntKind.wrap .u64 ((IntKind.wrap .u64 ((IntKind.wrap .u64 ((bOr .u64 (bShl .u64 d (IntKind.wrap .u64 a)) (bShr .u64 c (IntKind.wrap .u64 ((64:Int) - (IntKind.wrap .u64 a))))) * (4294967296:Int))) + (bShr .u64 (bShl .u64 c (IntKind.wrap .u64 a)) (32:Int)))) - (IntKind.wrap .u64 (f * (bShl .u64 b (IntKind.wrap .u64 a)))))))),(18,(u64 (IntKind.wrap .u64 (Int.tdiv (IntKind.wrap .u64 ((IntKind.wrap .u64 ((IntKind.wrap .u64 ((bOr .u64 (bShl .u64 d (IntKind.wrap .u64 a)) (bShr .u64 c (IntKind.wrap .u64 ((64:Int) - (IntKind.wrap .u64 a))))) * (4294967296:Int))) + (bShr .u64 (bShl .u64 c (IntKind.wrap .u64 a)) (32:Int)))) - (IntKind.wrap .u64 (f * (bShl .u64 b (IntKind.wrap .u64 a)))))) (bShr .u64 (bShl .u64 b (IntKind.wrap .u64 a)) (32:Int))))))] (AWP.seq ?_)))
     obtain⟨m,a9,hF⟩:=bindb hF
     refine AWP.mid (fun e st H=>e=.normal∧st=[(2,(u64 (bShl .u64 b (IntKind.wrap .u64 a)))),(8,(u64 (IntKind.wrap .u64 a))),(14,(u64 (bAnd .u64 (bShl .u64 c (IntKind.wrap .u64 a)) (4294967295:Int)))),(15,(u64 f)),(17,(u64 (IntKind.wrap .u64 ((IntKind.wrap .u64 ((IntKind.wrap .u64 ((bOr .u64 (bShl .u64 d (IntKind.wrap .u64 a)) (bShr .u64 c (IntKind.wrap .u64 ((64:Int) - (IntKind.wrap .u64 a))))) * (4294967296:Int))) + (bShr .u64 (bShl .u64 c (IntKind.wrap .u64 a)) (32:Int)))) - (IntKind.wrap .u64 (f * (bShl .u64 b (IntKind.wrap .u64 a)))))))),(18,(u64 m))]∧H=[]) ?_ ?_
     ·clear hF
      refine AWP.kp [2,8,9,10,14,15,16,17,18] 0 ?_
      refine AWP.bround (fun n st H=>∃ i,∃ k,Zn c b a n i k=some m∧st=[(2,(u64 (bShl .u64 b (IntKind.wrap .u64 a)))),(8,(u64 (IntKind.wrap .u64 a))),(9,(u64 (bShr .u64 (bShl .u64 b (IntKind.wrap .u64 a)) (32:Int)))),(10,(u64 (bAnd .u64 (bShl .u64 b (IntKind.wrap .u64 a)) (4294967295:Int)))),(14,(u64 (bAnd .u64 (bShl .u64 c (IntKind.wrap .u64 a)) (4294967295:Int)))),(15,(u64 f)),(16,(u64 i)),(17,(u64 (IntKind.wrap .u64 ((IntKind.wrap .u64 ((IntKind.wrap .u64 ((bOr .u64 (bShl .u64 d (IntKind.wrap .u64 a)) (bShr .u64 c (IntKind.wrap .u64 ((64:Int) - (IntKind.wrap .u64 a))))) * (4294967296:Int))) + (bShr .u64 (bShl .u64 c (IntKind.wrap .u64 a)) (32:Int)))) - (IntKind.wrap .u64 (f * (bShl .u64 b (IntKind.wrap .u64 a)))))))),(18,(u64 k))]∧H=[]) fuel ⟨(IntKind.wrap .u64 ((IntKind.wrap .u64 ((IntKind.wrap .u64 ((IntKind.wrap .u64 ((bOr .u64 (bShl .u64 d (IntKind.wrap .u64 a)) (bShr .u64 c (IntKind.wrap .u64 ((64:Int) - (IntKind.wrap .u64 a))))) * (4294967296:Int))) + (bShr .u64 (bShl .u64 c (IntKind.wrap .u64 a)) (32:Int)))) - (IntKind.wrap .u64 (f * (bShl .u64 b (IntKind.wrap .u64 a)))))) - (IntKind.wrap .u64 ((IntKind.wrap .u64 (Int.tdiv (IntKind.wrap .u64 ((IntKind.wrap .u64 ((IntKind.wrap .u64 ((bOr .u64 (bShl .u64 d (IntKind.wrap .u64 a)) (bShr .u64 c (IntKind.wrap .u64 ((64:Int) - (IntKind.wrap .u64 a))))) * (4294967296:Int))) + (bShr .u64 (bShl .u64 c (IntKind.wrap .u64 a)) (32:Int)))) - (IntKind.wrap .u64 (f * (bShl .u64 b (IntKind.wrap .u64 a)))))) (bShr .u64 (bShl .u64 b (IntKind.wrap .u64 a)) (32:Int)))) * (bShr .u64 (bShl .u64 b (IntKind.wrap .u64 a)) (32:Int)))))),(IntKind.wrap .u64 (Int.tdiv (IntKind.wrap .u64 ((IntKind.wrap .u64 ((IntKind.wrap .u64 ((bOr .u64 (bShl .u64 d (IntKind.wrap .u64 a)) (bShr .u64 c (IntKind.wrap .u64 ((64:Int) - (IntKind.wrap .u64 a))))) * (4294967296:Int))) + (bShr .u64 (bShl .u64 c (IntKind.wrap .u64 a)) (32:Int)))) - (IntKind.wrap .u64 (f * (bShl .u64 b (IntKind.wrap .u64 a)))))) (bShr .u64 (bShl .u64 b (IntKind.wrap .u64 a)) (32:Int)))),a9,by kernel_rfl,by kernel_rfl⟩ ?_
      rintro q st H ⟨i,k,hF,rfl,rfl⟩
      cases q with
      | zero=>exact noneb hF
      | succ q=>
       rw [Zn] at hF
       refine AWP.seq (AWP.seq ?_)
       obtain⟨t,o,hF⟩:=bindb hF
       replace o:=someb o
       refine AWP.to [(2,(u64 (bShl .u64 b (IntKind.wrap .u64 a)))),(8,(u64 (IntKind.wrap .u64 a))),(9,(u64 (bShr .u64 (bShl .u64 b (IntKind.wrap .u64 a)) (32:Int)))),(10,(u64 (bAnd .u64 (bShl .u64 b (IntKind.wrap .u64 a)) (4294967295:Int)))),(14,(u64 (bAnd .u64 (bShl .u64 c (IntKind.wrap .u64 a)) (4294967295:Int)))),(15,(u64 f)),(16,(u64 i)),(17,(u64 (IntKind.wrap .u64 ((IntKind.wrap .u64 ((IntKind.wrap .u64 ((bOr .u64 (bShl .u64 d (IntKind.wrap .u64 a)) (bShr .u64 c (IntKind.wrap .u64 ((64:Int) - (IntKind.wrap .u64 a))))) * (4294967296:Int))) + (bShr .u64 (bShl .u64 c (IntKind.wrap .u64 a)) (32:Int)))) - (IntKind.wrap .u64 (f * (bShl .u64 b (IntKind.wrap .u64 a)))))))),(18,(u64 k)),(113,(vb (t || (decide ((IntKind.wrap .u64 (k * (bAnd .u64 (bShl .u64 b (IntKind.wrap .u64 a)) (4294967295:Int)))) > (IntKind.wrap .u64 ((IntKind.wrap .u64 ((4294967296:Int) * i)) + (bAnd .u64 (bShl .u64 c (IntKind.wrap .u64 a)) (4294967295:Int)))))))))] [] ?_ ?_
       ·cases t with
        | false=>
         exact AWP.rgT [(2,.bool o)]
        | true=>
         exact AWP.rgT [(2,.bool o)]
       refine AWP.cif hF (fun b0 hF=>?_) (fun b0 hF=>?_)
       ·refine AWP.skip (AWP.block (AWP.seq (AWP.rg0 [] [(2,(u64 (bShl .u64 b (IntKind.wrap .u64 a)))),(8,(u64 (IntKind.wrap .u64 a))),(9,(u64 (bShr .u64 (bShl .u64 b (IntKind.wrap .u64 a)) (32:Int)))),(10,(u64 (bAnd .u64 (bShl .u64 b (IntKind.wrap .u64 a)) (4294967295:Int)))),(14,(u64 (bAnd .u64 (bShl .u64 c (IntKind.wrap .u64 a)) (4294967295:Int)))),(15,(u64 f)),(16,(u64 i)),(17,(u64 (IntKind.wrap .u64 ((IntKind.wrap .u64 ((IntKind.wrap .u64 ((bOr .u64 (bShl .u64 d (IntKind.wrap .u64 a)) (bShr .u64 c (IntKind.wrap .u64 ((64:Int) - (IntKind.wrap .u64 a))))) * (4294967296:Int))) + (bShr .u64 (bShl .u64 c (IntKind.wrap .u64 a)) (32:Int)))) - (IntKind.wrap .u64 (f * (bShl .u64 b (IntKind.wrap .u64 a)))))))),(18,(u64 (IntKind.wrap .u64 (k - (1:Int)))))] (AWP.seq (AWP.rg0 [] [(2,(u64 (bShl .u64 b (IntKind.wrap .u64 a)))),(8,(u64 (IntKind.wrap .u64 a))),(9,(u64 (bShr .u64 (bShl .u64 b (IntKind.wrap .u64 a)) (32:Int)))),(10,(u64 (bAnd .u64 (bShl .u64 b (IntKind.wrap .u64 a)) (4294967295:Int)))),(14,(u64 (bAnd .u64 (bShl .u64 c (IntKind.wrap .u64 a)) (4294967295:Int)))),(15,(u64 f)),(16,(u64 (IntKind.wrap .u64 (i + (bShr .u64 (bShl .u64 b (IntKind.wrap .u64 a)) (32:Int)))))),(17,(u64 (IntKind.wrap .u64 ((IntKind.wrap .u64 ((IntKind.wrap .u64 ((bOr .u64 (bShl .u64 d (IntKind.wrap .u64 a)) (bShr .u64 c (IntKind.wrap .u64 ((64:Int) - (IntKind.wrap .u64 a))))) * (4294967296:Int))) + (bShr .u64 (bShl .u64 c (IntKind.wrap .u64 a)) (32:Int)))) - (IntKind.wrap .u64 (f * (bShl .u64 b (IntKind.wrap .u64 a)))))))),(18,(u64 (IntKind.wrap .u64 (k - (1:Int)))))] (AWP.seq ?_))))))
        refine AWP.rg0 [] [(2,(u64 (bShl .u64 b (IntKind.wrap .u64 a)))),(8,(u64 (IntKind.wrap .u64 a))),(9,(u64 (bShr .u64 (bShl .u64 b (IntKind.wrap .u64 a)) (32:Int)))),(10,(u64 (bAnd .u64 (bShl .u64 b (IntKind.wrap .u64 a)) (4294967295:Int)))),(14,(u64 (bAnd .u64 (bShl .u64 c (IntKind.wrap .u64 a)) (4294967295:Int)))),(15,(u64 f)),(16,(u64 (IntKind.wrap .u64 (i + (bShr .u64 (bShl .u64 b (IntKind.wrap .u64 a)) (32:Int)))))),(17,(u64 (IntKind.wrap .u64 ((IntKind.wrap .u64 ((IntKind.wrap .u64 ((bOr .u64 (bShl .u64 d (IntKind.wrap .u64 a)) (bShr .u64 c (IntKind.wrap .u64 ((64:Int) - (IntKind.wrap .u64 a))))) * (4294967296:Int))) + (bShr .u64 (bShl .u64 c (IntKind.wrap .u64 a)) (32:Int)))) - (IntKind.wrap .u64 (f * (bShl .u64 b (IntKind.wrap .u64 a)))))))),(18,(u64 (IntKind.wrap .u64 (k - (1:Int))))),(120,(vb (decide ((IntKind.wrap .u64 (i + (bShr .u64 (bShl .u64 b (IntKind.wrap .u64 a)) (32:Int)))) ≥ (4294967296:Int)))))] ?_
        refine AWP.cif hF (fun b1 hF=>?_) (fun b1 hF=>?_)
        ·refine AWP.exit (LeQ.start (LeQ.pk [2,8,14,15,17,18] 0 ?_))
         have hr:=someb hF
         subst hr
         exact⟨rfl,by kernel_rfl,by kernel_rfl⟩
        ·refine AWP.skip (LeQ.start (LeQ.pk [2,8,9,10,14,15,16,17,18] 0 ?_))
         exact⟨q,Nat.lt_succ_self _,(IntKind.wrap .u64 (i + (bShr .u64 (bShl .u64 b (IntKind.wrap .u64 a)) (32:Int)))),(IntKind.wrap .u64 (k - (1:Int))),hF,by kernel_rfl,by kernel_rfl⟩
       ·refine AWP.exit (LeQ.start (LeQ.pk [2,8,14,15,17,18] 0 ?_))
        have hr:=someb hF
        subst hr
        exact⟨rfl,by kernel_rfl,by kernel_rfl⟩
     ·rintro _ _ _ ⟨rfl,rfl,rfl⟩
      refine AWP.seq ?_
      obtain⟨b2,hF⟩:=chkb hF
      refine AWP.rg0 [(13,.sh b2)] [(6,(u64 (IntKind.wrap .u64 ((IntKind.wrap .u64 (f * (4294967296:Int))) + m)))),(7,(u64 (bShr .u64 (IntKind.wrap .u64 ((IntKind.wrap .u64 ((IntKind.wrap .u64 ((IntKind.wrap .u64 ((IntKind.wrap .u64 ((IntKind.wrap .u64 ((bOr .u64 (bShl .u64 d (IntKind.wrap .u64 a)) (bShr .u64 c (IntKind.wrap .u64 ((64:Int) - (IntKind.wrap .u64 a))))) * (4294967296:Int))) + (bShr .u64 (bShl .u64 c (IntKind.wrap .u64 a)) (32:Int)))) - (IntKind.wrap .u64 (f * (bShl .u64 b (IntKind.wrap .u64 a)))))) * (4294967296:Int))) + (bAnd .u64 (bShl .u64 c (IntKind.wrap .u64 a)) (4294967295:Int)))) - (IntKind.wrap .u64 (m * (bShl .u64 b (IntKind.wrap .u64 a)))))) (IntKind.wrap .u64 a))))] (AWP.ret ?_)
      have hr:=someb hF
      subst hr
      exact(FnQ.f0 0 (.inr rfl))
def Za8 (a:List Value) (r:(List Int)):PV→List Blk→Prop:=fun p K=>p=(.tup [])∧K=[.cells (cel Zy r a)]
theorem Za9 (c:Nat) (g:(List Int)) (d:List Value) (r:(List Int)) (hF:Zi c g=some r):ACall Tryd.prog glob 39 [(.vw 0 0 c)] [.cells (cel Zy g d)] (Za8 d r):=by
 refine ACall.body Tryd.func39 rfl (by kernel_rfl) ?_
 unfold Zi at hF
 refine AWP.seq (AWP.rg0 [(1,.lenV c)] [(0,(.vw 0 0 c)),(2,(i64 (0:Int))),(3,(i64 (ZI ((c:Int) - (1:Int)))))] ?_)
 obtain⟨l,t,hF⟩:=bindb hF
 refine AWP.mid (fun e st H=>e=.normal∧st=[]∧H=[.cells (cel Zy l d)]) ?_ ?_
 ·clear hF
  refine AWP.kp [0,2,3] 1 ?_
  refine AWP.bround (fun n st H=>∃ f,∃ a,∃ b,Zf c n f a b=some l∧st=[(0,(.vw 0 0 c)),(2,(i64 a)),(3,(i64 b))]∧H=[.cells (cel Zy f d)]) fuel ⟨g,(0:Int),(ZI ((c:Int) - (1:Int))),t,by kernel_rfl,by kernel_rfl⟩ ?_
  rintro i st H ⟨f,a,b,hF,rfl,rfl⟩
  cases i with
  | zero=>exact noneb hF
  | succ i=>
   rw [Zf] at hF
   refine AWP.seq (AWP.seq (AWP.rg0 [] [(0,(.vw 0 0 c)),(2,(i64 a)),(3,(i64 b)),(9,(vb (decide (a<b))))] ?_))
   refine AWP.cif hF (fun u hF=>?_) (fun u hF=>?_)
   ·refine AWP.skip (AWP.seq (AWP.block ?_))
    obtain⟨j,m,hF⟩:=bindb hF
    obtain⟨k,o,hF⟩:=bindb hF
    obtain⟨v,p,hF⟩:=bindb hF
    obtain⟨w,q,hF⟩:=bindb hF
    refine AWP.dr [(6,.idxV (Zct m)),(7,.ldV Zy (s:=1) (fun _=>rfl) d (Zb2 m) (0 + Int.toNat b * 1) (Nat.zero_add _) []),(10,.idxV (Zct o)),(11,.ldV Zy (s:=1) (fun _=>rfl) d (Zb2 o) (0 + Int.toNat a * 1) (Nat.zero_add _) []),(12,.idxV (Zct p)),(13,.stV Zy (s:=1) (fun _=>rfl) d (Zb2 p) j (0 + Int.toNat a * 1) (Nat.zero_add _) []),(14,.idxV (Zct q)),(15,.stV Zy (s:=1) (fun _=>rfl) d (Zb2 q) k (0 + Int.toNat b * 1) (Nat.zero_add _) [])] 14 [] [13] [] [(0,(.vw 0 0 c)),(2,(i64 a)),(3,(i64 b))] [.cells (cel Zy (List.set (List.set f (Int.toNat a) j) (Int.toNat b) k) d)] (AWP.rg0 [] [(0,(.vw 0 0 c)),(2,(i64 (ZI (a + (1:Int))))),(3,(i64 (ZI (b - (1:Int)))))] (LeQ.start (LeQ.pk [0,2,3] 1 ?_)))
    exact⟨i,Nat.lt_succ_self _,(List.set (List.set f (Int.toNat a) j) (Int.toNat b) k),(ZI (a + (1:Int))),(ZI (b - (1:Int))),hF,by kernel_rfl,by kernel_rfl⟩
   ·refine AWP.exit (LeQ.start (LeQ.pk [] 1 ?_))
    have hr:=someb hF
    subst hr
    exact⟨rfl,by kernel_rfl,by kernel_rfl⟩
 ·rintro _ _ _ ⟨rfl,rfl,rfl⟩
  have hr:=someb hF
  subst hr
  exact(FnQ.f0 1 (.inl rfl))
def Zcz (r:ByteArray):PV→List Blk→Prop:=fun p K=>p=(vstr r)∧K=[]
theorem Zaj (f:Zb) (r:ByteArray) (hF:Zv f=some r):ACall Tryd.prog glob 20 [(Zh f)] [] (Zcz r):=by
 refine ACall.body Tryd.func20 rfl (by kernel_rfl) ?_
 unfold Zv at hF
 refine AWP.seq (AWP.rg [] [(1,(.ptr 0 0))] [.cells (Za f)] (AWP.seq (AWP.rg0 [] [(1,(.ptr 0 0)),(3,nils)] ?_)))
 refine AWP.own (H':=[.cells (Za f),bf 1 5 Zy ([]:(List Int)) false]) (st':=[(3,(.own 1 (List.length ([]:(List Int))))),(1,(.ptr 0 0))]) 3 1 5 (by kernel_rfl) (by kernel_rfl) (by kernel_rfl) ?_
 refine AWP.pick (st':=[(1,(.ptr 0 0)),(3,(.own 1 (List.length ([]:(List Int)))))]) (ks:=[1,3]) (by kernel_rfl) ?_
 refine AWP.seq ?_
 obtain⟨k,m,hF⟩:=bindb hF
 refine AWP.mid (fun e st H=>(e=.normal∧∃ i,∃ d,k=(i,d)∧st=[(3,(.own 1 (List.length d)))]∧H=[.cells (Za i),bf 1 5 Zy d false])) ?_ ?_
 ·clear hF
  refine AWP.kp [1,3] 2 ?_
  refine AWP.bround (fun n st H=>∃ a,∃ c,Zo n a c=some k∧st=[(1,(.ptr 0 0)),(3,(.own 1 (List.length c)))]∧H=[.cells (Za a),bf 1 5 Zy c false]) fuel ⟨f,([]:(List Int)),m,by kernel_rfl,by kernel_rfl⟩ ?_
  rintro j st H ⟨a,c,hF,rfl,rfl⟩
  cases j with
  | zero=>exact noneb hF
  | succ j=>
   rw [Zo] at hF
   refine AWP.block (AWP.seq (AWP.dr [] 7 [] [] [] [(1,(.ptr 0 0)),(3,(.own 1 (List.length c))),(4,(u64 (IntKind.wrap .u64 (Int.tdiv a.Hi (10:Int))))),(5,(u64 (Int.tmod a.Hi (10:Int))))] [.cells (Za a),bf 1 5 Zy c false] (AWP.seq ?_)))
   obtain⟨b,o,hF⟩:=bindb hF
   refine AWP.rg0 [(3,.call Tryd.func38 [] (Zcy (Int.tmod a.Hi (10:Int)) a.Lo (10:Int) b o))] [(1,(.ptr 0 0)),(3,(.own 1 (List.length c))),(4,(u64 (IntKind.wrap .u64 (Int.tdiv a.Hi (10:Int))))),(6,(u64 b.1)),(7,(u64 b.2))] (AWP.seq ?_)
   obtain⟨p,hF⟩:=chkb hF
   refine AWP.rg [(5,.app Zy (fun _=>by kernel_rfl) p)] [(1,(.ptr 0 0)),(3,(.own 1 (List.length (c++[(IntKind.wrap .u8 ((48:Int) + (IntKind.wrap .u8 b.2)))])))),(4,(u64 (IntKind.wrap .u64 (Int.tdiv a.Hi (10:Int))))),(6,(u64 b.1))] [.cells (Za a),bf 1 5 Zy (c++[(IntKind.wrap .u8 ((48:Int) + (IntKind.wrap .u8 b.2)))]) false] (AWP.seq (AWP.rg [] [(1,(.ptr 0 0)),(3,(.own 1 (List.length (c++[(IntKind.wrap .u8 ((48:Int) + (IntKind.wrap .u8 b.2)))]))))] [.cells (Za (Zb.mk (IntKind.wrap .u64 (Int.tdiv a.Hi (10:Int))) b.1)),bf 1 5 Zy (c++[(IntKind.wrap .u8 ((48:Int) + (IntKind.wrap .u8 b.2)))]) false] (AWP.seq (AWP.rg0 [] [(1,(.ptr 0 0)),(3,(.own 1 (List.length (c++[(IntKind.wrap .u8 ((48:Int) + (IntKind.wrap .u8 b.2)))])))),(32,(vb (Z2 (Zb.mk (IntKind.wrap .u64 (Int.tdiv a.Hi (10:Int))) b.1) (Zb.mk (0:Int) (0:Int)))))] ?_))))
   refine AWP.cif hF (fun q hF=>?_) (fun q hF=>?_)
   ·refine AWP.exit (LeQ.start (LeQ.pk [3] 2 ?_))
    exact⟨rfl,(Zb.mk (IntKind.wrap .u64 (Int.tdiv a.Hi (10:Int))) b.1),(c++[(IntKind.wrap .u8 ((48:Int) + (IntKind.wrap .u8 b.2)))]),(someb hF).symm,by kernel_rfl,by kernel_rfl⟩
   ·refine AWP.skip (LeQ.start (LeQ.pk [1,3] 2 ?_))
    exact⟨j,Nat.lt_succ_self _,(Zb.mk (IntKind.wrap .u64 (Int.tdiv a.Hi (10:Int))) b.1),(c++[(IntKind.wrap .u8 ((48:Int) + (IntKind.wrap .u8 b.2)))]),hF,by kernel_rfl,by kernel_rfl⟩
 ·rintro _ _ _ ⟨rfl,i,d,rfl,rfl,rfl⟩
  refine AWP.seq ?_
  obtain⟨t,hF⟩:=chkb hF
  obtain⟨g,u,hF⟩:=bindb hF
  obtain⟨l,hF⟩:=chkb hF
  refine AWP.rg [(1,.callB (s:=1) Zy Tryd.func39 (fun _=>rfl) t l (fun sp_=>Za9 (List.length d) d sp_ g u))] [(3,(.own 1 (List.length d)))] [.cells (Za i),bf 1 5 Zy g false] ?_
  rw [show ([(3,(.own 1 (List.length d)))]:St)=[(3,(.own 1 (List.length g)))] by simp only [l]]
  refine AWP.seq (AWP.rg0 [(1,.toStrO g)] [(2,(vstr (strOf g)))] (AWP.ret ?_))
  have hr:=someb hF
  subst hr
  exact(FnQ.f0 0 (.inr rfl))
def Zc0 (r:(Int × Int)):PV→List Blk→Prop:=fun p K=>p=(.tup [(u64 r.1),(u64 r.2)])∧K=[]
theorem Zba (a:Int) (b:Int) (r:(Int × Int)) (hF:Zw a b=some r):ACall Tryd.prog glob 58 [(u64 a),(u64 b)] [] (Zc0 r):=by
 refine ACall.body Tryd.func58 rfl (by kernel_rfl) ?_
 unfold Zw at hF
 refine AWP.seq (AWP.rg0 [] [(0,(u64 a)),(1,(u64 b))] (AWP.seq (AWP.rg0 [] [(0,(u64 a)),(1,(u64 b)),(6,(u64 (bAnd .u64 a (4294967295:Int))))] (AWP.seq (AWP.rg0 [] [(0,(u64 a)),(1,(u64 b)),(6,(u64 (bAnd .u64 a (4294967295:Int)))),(7,(u64 (bShr .u64 a (32:Int))))] (AWP.seq ?_))))))
 refine AWP.rg0 [] [(0,(u64 a)),(1,(u64 b)),(6,(u64 (bAnd .u64 a (4294967295:Int)))),(7,(u64 (bShr .u64 a (32:Int)))),(8,(u64 (bAnd .u64 b (4294967295:Int))))] (AWP.seq (AWP.rg0 [] [(0,(u64 a)),(1,(u64 b)),(6,(u64 (bAnd .u64 a (4294967295:Int)))),(7,(u64 (bShr .u64 a (32:Int)))),(8,(u64 (bAnd .u64 b (4294967295:Int)))),(9,(u64 (bShr .u64 b (32:Int))))] (AWP.seq (AWP.rg0 [] [(0,(u64 a)),(1,(u64 b)),(6,(u64 (bAnd .u64 a (4294967295:Int)))),(7,(u64 (bShr .u64 a (32:Int)))),(8,(u64 (bAnd .u64 b (4294967295:Int)))),(9,(u64 (bShr .u64 b (32:Int)))),(10,(u64 (IntKind.wrap .u64 ((bAnd .u64 a (4294967295:Int)) * (bAnd .u64 b (4294967295:Int))))))] (AWP.seq (AWP.rg0 [] [(0,(u64 a)),(1,(u64 b)),(6,(u64 (bAnd .u64 a (4294967295:Int)))),(7,(u64 (bShr .u64 a (32:Int)))),(9,(u64 (bShr .u64 b (32:Int)))),(11,(u64 (IntKind.wrap .u64 ((IntKind.wrap .u64 ((bShr .u64 a (32:Int)) * (bAnd .u64 b (4294967295:Int)))) + (bShr .u64 (IntKind.wrap .u64 ((bAnd .u64 a (4294967295:Int)) * (bAnd .u64 b (4294967295:Int)))) (32:Int))))))] ?_))))))
 refine AWP.seq (AWP.rg0 [] [(0,(u64 a)),(1,(u64 b)),(6,(u64 (bAnd .u64 a (4294967295:Int)))),(7,(u64 (bShr .u64 a (32:Int)))),(9,(u64 (bShr .u64 b (32:Int)))),(11,(u64 (IntKind.wrap .u64 ((IntKind.wrap .u64 ((bShr .u64 a (32:Int)) * (bAnd .u64 b (4294967295:Int)))) + (bShr .u64 (IntKind.wrap .u64 ((bAnd .u64 a (4294967295:Int)) * (bAnd .u64 b (4294967295:Int)))) (32:Int)))))),(12,(u64 (bAnd .u64 (IntKind.wrap .u64 ((IntKind.wrap .u64 ((bShr .u64 a (32:Int)) * (bAnd .u64 b (4294967295:Int)))) + (bShr .u64 (IntKind.wrap .u64 ((bAnd .u64 a (4294967295:Int)) * (bAnd .u64 b (4294967295:Int)))) (32:Int)))) (4294967295:Int))))] (AWP.seq (AWP.rg0 [] [(0,(u64 a)),(1,(u64 b)),(6,(u64 (bAnd .u64 a (4294967295:Int)))),(7,(u64 (bShr .u64 a (32:Int)))),(9,(u64 (bShr .u64 b (32:Int)))),(12,(u64 (bAnd .u64 (IntKind.wrap .u64 ((IntKind.wrap .u64 ((bShr .u64 a (32:Int)) * (bAnd .u64 b (4294967295:Int)))) + (bShr .u64 (IntKind.wrap .u64 ((bAnd .u64 a (4294967295:Int)) * (bAnd .u64 b (4294967295:Int)))) (32:Int)))) (4294967295:Int)))),(13,(u64 (bShr .u64 (IntKind.wrap .u64 ((IntKind.wrap .u64 ((bShr .u64 a (32:Int)) * (bAnd .u64 b (4294967295:Int)))) + (bShr .u64 (IntKind.wrap .u64 ((bAnd .u64 a (4294967295:Int)) * (bAnd .u64 b (4294967295:Int)))) (32:Int)))) (32:Int))))] (AWP.seq (AWP.rg0 [] [(0,(u64 a)),(1,(u64 b)),(7,(u64 (bShr .u64 a (32:Int)))),(9,(u64 (bShr .u64 b (32:Int)))),(12,(u64 (IntKind.wrap .u64 ((bAnd .u64 (IntKind.wrap .u64 ((IntKind.wrap .u64 ((bShr .u64 a (32:Int)) * (bAnd .u64 b (4294967295:Int)))) + (bShr .u64 (IntKind.wrap .u64 ((bAnd .u64 a (4294967295:Int)) * (bAnd .u64 b (4294967295:Int)))) (32:Int)))) (4294967295:Int)) + (IntKind.wrap .u64 ((bAnd .u64 a (4294967295:Int)) * (bShr .u64 b (32:Int)))))))),(13,(u64 (bShr .u64 (IntKind.wrap .u64 ((IntKind.wrap .u64 ((bShr .u64 a (32:Int)) * (bAnd .u64 b (4294967295:Int)))) + (bShr .u64 (IntKind.wrap .u64 ((bAnd .u64 a (4294967295:Int)) * (bAnd .u64 b (4294967295:Int)))) (32:Int)))) (32:Int))))] (AWP.seq ?_))))))
 refine AWP.rg0 [] [(0,(u64 a)),(1,(u64 b)),(4,(u64 (IntKind.wrap .u64 ((IntKind.wrap .u64 ((IntKind.wrap .u64 ((bShr .u64 a (32:Int)) * (bShr .u64 b (32:Int)))) + (bShr .u64 (IntKind.wrap .u64 ((IntKind.wrap .u64 ((bShr .u64 a (32:Int)) * (bAnd .u64 b (4294967295:Int)))) + (bShr .u64 (IntKind.wrap .u64 ((bAnd .u64 a (4294967295:Int)) * (bAnd .u64 b (4294967295:Int)))) (32:Int)))) (32:Int)))) + (bShr .u64 (IntKind.wrap .u64 ((bAnd .u64 (IntKind.wrap .u64 ((IntKind.wrap .u64 ((bShr .u64 a (32:Int)) * (bAnd .u64 b (4294967295:Int)))) + (bShr .u64 (IntKind.wrap .u64 ((bAnd .u64 a (4294967295:Int)) * (bAnd .u64 b (4294967295:Int)))) (32:Int)))) (4294967295:Int)) + (IntKind.wrap .u64 ((bAnd .u64 a (4294967295:Int)) * (bShr .u64 b (32:Int)))))) (32:Int))))))] (AWP.seq (AWP.rg0 [] [(4,(u64 (IntKind.wrap .u64 ((IntKind.wrap .u64 ((IntKind.wrap .u64 ((bShr .u64 a (32:Int)) * (bShr .u64 b (32:Int)))) + (bShr .u64 (IntKind.wrap .u64 ((IntKind.wrap .u64 ((bShr .u64 a (32:Int)) * (bAnd .u64 b (4294967295:Int)))) + (bShr .u64 (IntKind.wrap .u64 ((bAnd .u64 a (4294967295:Int)) * (bAnd .u64 b (4294967295:Int)))) (32:Int)))) (32:Int)))) + (bShr .u64 (IntKind.wrap .u64 ((bAnd .u64 (IntKind.wrap .u64 ((IntKind.wrap .u64 ((bShr .u64 a (32:Int)) * (bAnd .u64 b (4294967295:Int)))) + (bShr .u64 (IntKind.wrap .u64 ((bAnd .u64 a (4294967295:Int)) * (bAnd .u64 b (4294967295:Int)))) (32:Int)))) (4294967295:Int)) + (IntKind.wrap .u64 ((bAnd .u64 a (4294967295:Int)) * (bShr .u64 b (32:Int)))))) (32:Int)))))),(5,(u64 (IntKind.wrap .u64 (a * b))))] (AWP.ret ?_)))
 have hr:=someb hF
 subst hr
 exact(FnQ.f0 0 (.inr rfl))
def Zdg (r:(Zb × Bool)):PV→List Blk→Prop:=fun p K=>p=(.tup [(Zh r.1),(vb r.2)])∧K=[]
theorem Zdh (c:Zb) (d:Int) (r:(Zb × Bool)) (hF:Z3 c d=some r):ACall Tryd.prog glob 36 [(Zh c),(u64 d)] [] (Zdg r):=by
 refine ACall.body Tryd.func36 rfl (by kernel_rfl) ?_
 unfold Z3 at hF
 refine AWP.seq (AWP.rg [] [(1,(u64 d)),(2,(.ptr 0 0)),(4,(.ptr 1 0))] [.cells (Za c),.cells (Za Zc)] (AWP.seq ?_))
 obtain⟨a,i,hF⟩:=bindb hF
 refine AWP.rg0 [(3,.call Tryd.func58 [] (Zba c.Lo d a i))] [(1,(u64 d)),(2,(.ptr 0 0)),(4,(.ptr 1 0)),(6,(u64 a.1)),(7,(u64 a.2))] (AWP.seq ?_)
 obtain⟨b,j,hF⟩:=bindb hF
 refine AWP.rg0 [(3,.call Tryd.func58 [] (Zba c.Hi d b j))] [(4,(.ptr 1 0)),(6,(u64 a.1)),(7,(u64 a.2)),(8,(u64 b.1)),(9,(u64 b.2))] (AWP.seq ?_)
 obtain⟨k,hF⟩:=chkb hF
 refine AWP.rg0 [(2,.ext (e:=add64Entry) (Zci k) Tryd.func30 (by kernel_rfl) (by kernel_rfl) (by kernel_rfl) (by kernel_rfl))] [(4,(.ptr 1 0)),(7,(u64 a.2)),(8,(u64 b.1)),(9,(u64 ((b.2 + a.1 + (0:Int)) % 18446744073709551616))),(10,(u64 ((b.2 + a.1 + (0:Int)) / 18446744073709551616)))] (AWP.seq ?_)
 obtain⟨g,f,hF⟩:=bindb hF
 replace f:=someb f
 refine AWP.to [(4,(.ptr 1 0)),(5,(vb (g && (((b.2 + a.1 + (0:Int)) / 18446744073709551616) == (0:Int)))))] [.cells (Za c),.cells (Za (Zb.mk ((b.2 + a.1 + (0:Int)) % 18446744073709551616) a.2))] ?_ ?_
 ·cases g with
  | false=>
   exact AWP.rgT [(5,.bool f)]
  | true=>
   exact AWP.rgT [(5,.bool f)]
 refine AWP.ret ?_
 have hr:=someb hF
 subst hr
 exact(FnQ.f0 0 (.inr rfl))
def Zc1 (r:Zb):PV→List Blk→Prop:=fun p K=>p=(Zh r)∧K=[]
theorem Zc2 (a:Int) (r:Zb) (hF:Z6 a=some r):ACall Tryd.prog glob 16 [(u64 a)] [] (Zc1 r):=by
 refine ACall.body Tryd.func16 rfl (by kernel_rfl) ?_
 unfold Z6 at hF
 refine AWP.seq (AWP.rg [] [(0,(u64 a)),(2,(.ptr 0 0))] [.cells (Za Zc)] (AWP.seq (AWP.rg [] [(2,(.ptr 0 0))] [.cells (Za (Zb.mk (0:Int) a))] (AWP.ret ?_))))
 have hr:=someb hF
 subst hr
 exact(FnQ.f0 0 (.inr rfl))
def Zea (r:Zb):PV→List Blk→Prop:=fun p K=>p=(Zh r)∧K=[]
theorem Zeb (a:Zb) (b:Zb) (r:Zb) (hF:Z9 a b=some r):ACall Tryd.prog glob 8 [(Zh a),(Zh b)] [] (Zea r):=by
 refine ACall.body Tryd.func8 rfl (by kernel_rfl) ?_
 unfold Z9 at hF
 refine AWP.seq (AWP.rg [] [(2,(.ptr 0 0)),(3,(.ptr 1 0)),(4,(.ptr 2 0))] [.cells (Za a),.cells (Za b),.cells (Za Zc)] (AWP.seq ?_))
 obtain⟨c,hF⟩:=chkb hF
 refine AWP.rg0 [(4,.ext (e:=add64Entry) (Zci c) Tryd.func30 (by kernel_rfl) (by kernel_rfl) (by kernel_rfl) (by kernel_rfl))] [(2,(.ptr 0 0)),(3,(.ptr 1 0)),(4,(.ptr 2 0)),(5,(u64 ((a.Lo + b.Lo + (0:Int)) % 18446744073709551616))),(6,(u64 ((a.Lo + b.Lo + (0:Int)) / 18446744073709551616)))] (AWP.seq ?_)
 obtain⟨d,hF⟩:=chkb hF
 refine AWP.rg0 [(5,.ext (e:=add64Entry) (Zci d) Tryd.func30 (by kernel_rfl) (by kernel_rfl) (by kernel_rfl) (by kernel_rfl))] [(4,(.ptr 2 0)),(5,(u64 ((a.Lo + b.Lo + (0:Int)) % 18446744073709551616))),(7,(u64 ((a.Hi + b.Hi + ((a.Lo + b.Lo + (0:Int)) / 18446744073709551616)) % 18446744073709551616)))] (AWP.seq (AWP.rg [] [(4,(.ptr 2 0))] [.cells (Za a),.cells (Za b),.cells (Za (Zb.mk ((a.Hi + b.Hi + ((a.Lo + b.Lo + (0:Int)) / 18446744073709551616)) % 18446744073709551616) ((a.Lo + b.Lo + (0:Int)) % 18446744073709551616)))] (AWP.ret ?_)))
 have hr:=someb hF
 subst hr
 exact(FnQ.f0 0 (.inr rfl))
def Zck (r:Bool):PV→List Blk→Prop:=fun p K=>p=(vb r)∧K=[]
theorem Za5 (a:Int) (r:Bool) (hF:Zz a=some r):ACall Tryd.prog glob 57 [(u64 a)] [] (Zck r):=by
 refine ACall.body Tryd.func57 rfl (by kernel_rfl) ?_
 unfold Zz at hF
 refine AWP.seq (AWP.rg0 [] [(0,(u64 a))] (AWP.seq (AWP.rg0 [] [(2,(vb (a != a)))] (AWP.ret ?_))))
 have hr:=someb hF
 subst hr
 exact(FnQ.f0 0 (.inr rfl))
def Zb3 (r:Int):PV→List Blk→Prop:=fun p K=>p=(i64 r)∧K=[]
theorem Zas (a:Int) (b:Int) (r:Int) (hF:Zp a b=some r):ACall Tryd.prog glob 32 [(u64 a),(u64 b)] [] (Zb3 r):=by
 refine ACall.body Tryd.func32 rfl (by kernel_rfl) ?_
 unfold Zp at hF
 refine AWP.seq (AWP.rg0 [] [(0,(u64 a)),(1,(u64 b))] (AWP.seq ?_))
 obtain⟨d,f,hF⟩:=bindb hF
 refine AWP.rg0 [(1,.call Tryd.func57 [] (Za5 a d f))] [(0,(u64 a)),(1,(u64 b)),(5,(vb d))] (AWP.seq ?_)
 obtain⟨c,g,hF⟩:=bindb hF
 refine AWP.rg0 [(1,.call Tryd.func57 [] (Za5 b c g))] [(0,(u64 a)),(1,(u64 b)),(5,(vb d)),(6,(vb c))] (AWP.seq (AWP.seq (AWP.rg0 [] [(0,(u64 a)),(1,(u64 b)),(6,(vb c)),(11,(vb d))] ?_)))
 refine AWP.cif hF (fun i hF=>?_) (fun i hF=>?_)
 ·refine AWP.seq (AWP.seq (AWP.rg0 [] [(12,(vb c))] ?_))
  refine AWP.cif hF (fun j hF=>?_) (fun j hF=>?_)
  ·refine AWP.seq (AWP.rg0 [] [(4,(i64 (0:Int)))] (AWP.ret ?_))
   have hr:=someb hF
   subst hr
   exact(FnQ.f0 0 (.inr rfl))
  ·refine AWP.skip (AWP.seq (AWP.rg0 [] [(4,(i64 (-1:Int)))] (AWP.ret ?_)))
   have hr:=someb hF
   subst hr
   exact(FnQ.f0 0 (.inr rfl))
 ·refine AWP.skip (AWP.seq (AWP.seq (AWP.rg0 [] [(0,(u64 a)),(1,(u64 b)),(13,(vb c))] ?_)))
  refine AWP.cif hF (fun k hF=>?_) (fun k hF=>?_)
  ·refine AWP.seq (AWP.rg0 [] [(4,(i64 (1:Int)))] (AWP.ret ?_))
   have hr:=someb hF
   subst hr
   exact(FnQ.f0 0 (.inr rfl))
  ·refine AWP.skip (AWP.seq (AWP.seq (AWP.rg0 [] [(0,(u64 a)),(1,(u64 b)),(16,(vb (decide (a<b))))] ?_)))
   refine AWP.cif hF (fun l hF=>?_) (fun l hF=>?_)
   ·refine AWP.seq (AWP.rg0 [] [(4,(i64 (-1:Int)))] (AWP.ret ?_))
    have hr:=someb hF
    subst hr
    exact(FnQ.f0 0 (.inr rfl))
   ·refine AWP.skip (AWP.seq (AWP.seq (AWP.rg0 [] [(19,(vb (decide (a > b))))] ?_)))
    refine AWP.cif hF (fun m hF=>?_) (fun m hF=>?_)
    ·refine AWP.seq (AWP.rg0 [] [(4,(i64 (1:Int)))] (AWP.ret ?_))
     have hr:=someb hF
     subst hr
     exact(FnQ.f0 0 (.inr rfl))
    ·refine AWP.skip (AWP.seq (AWP.rg0 [] [(4,(i64 (0:Int)))] (AWP.ret ?_)))
     have hr:=someb hF
     subst hr
     exact(FnQ.f0 0 (.inr rfl))
def Zcl (r:Int):PV→List Blk→Prop:=fun p K=>p=(i64 r)∧K=[]
abbrev Zfc (r:Int):Exit→St→List Blk→Prop:=FnQ Tryd.prog Tryd.f31.results 0 (Zcl r)
theorem Zfd (a:(List Int)) (r:Int) (hF:Zag a=some r):ACall Tryd.prog glob 31 [(slc 1 Z8 a)] [] (Zcl r):=by
 refine ACall.body Tryd.func31 rfl (by kernel_rfl) ?_
 unfold Zag at hF
 refine AWP.seq (AWP.rg0 [] [(0,(slc 1 Z8 a))] (AWP.seq (AWP.rg0 [] [(0,(slc 1 Z8 a)),(3,(i64 (0:Int)))] (AWP.seq (AWP.seq (AWP.rg0 [(1,.len Z8 a)] [(3,(i64 (0:Int))),(6,(slc 1 Z8 a)),(7,(i64 (List.length a:Int))),(8,(i64 (0:Int)))] ?_))))))
 obtain⟨d,g,hF⟩:=bindb hF
 refine AWP.mid (fun e st H=>(e=.normal∧d=(.inl ())∧st=[(3,(i64 (0:Int)))]∧H=[])∨(e=.ret∧∃ r,d=(.inr r)∧Zfc r e st H)) ?_ ?_
 ·clear hF
  refine AWP.kp [3,6,7,8] 0 ?_
  refine AWP.bround (fun n st H=>∃ b,Zt a n b=some d∧st=[(3,(i64 (0:Int))),(6,(slc 1 Z8 a)),(7,(i64 (List.length a:Int))),(8,(i64 b))]∧H=[]) fuel ⟨(0:Int),g,by kernel_rfl,by kernel_rfl⟩ ?_
  rintro f st H ⟨b,hF,rfl,rfl⟩
  cases f with
  | zero=>exact noneb hF
  | succ f=>
   rw [Zt] at hF
   refine AWP.seq (AWP.rg0 [] [(3,(i64 (0:Int))),(6,(slc 1 Z8 a)),(7,(i64 (List.length a:Int))),(8,(i64 b)),(9,(vb (decide (b<(List.length a:Int)))))] (AWP.seq ?_))
   refine AWP.cif hF (fun i hF=>?_) (fun i hF=>?_)
   ·refine AWP.skip (AWP.seq (AWP.block (AWP.seq ?_)))
    obtain⟨c,j,hF⟩:=bindb hF
    refine AWP.rg0 [(0,.idx Z8 j)] [(3,(i64 (0:Int))),(5,(i64 c)),(6,(slc 1 Z8 a)),(7,(i64 (List.length a:Int))),(8,(i64 b))] (AWP.seq (AWP.rg0 [] [(3,(i64 (0:Int))),(5,(i64 c)),(6,(slc 1 Z8 a)),(7,(i64 (List.length a:Int))),(8,(i64 b)),(14,(vb (c != (0:Int))))] ?_))
    refine AWP.cif hF (fun k hF=>?_) (fun k hF=>?_)
    ·refine AWP.seq (AWP.rg0 [] [(2,(i64 c))] (AWP.ret ?_))
     exact LeQ.of (.inr ⟨rfl,c,(someb hF).symm,(FnQ.f0 0 (.inr rfl))⟩)
    ·refine AWP.skip (AWP.rg0 [] [(3,(i64 (0:Int))),(6,(slc 1 Z8 a)),(7,(i64 (List.length a:Int))),(8,(i64 (ZI (b + (1:Int)))))] (LeQ.start (LeQ.pk [3,6,7,8] 0 ?_)))
     exact⟨f,Nat.lt_succ_self _,(ZI (b + (1:Int))),hF,by kernel_rfl,by kernel_rfl⟩
   ·refine AWP.exit (LeQ.start (LeQ.pk [3] 0 ?_))
    exact(.inl ⟨rfl,(someb hF).symm,by kernel_rfl,by kernel_rfl⟩)
 ·rintro _ _ _ (⟨rfl,rfl,rfl,rfl⟩ | ⟨rfl,l,rfl,hq⟩)
  ·refine AWP.seq (AWP.rg0 [] [(2,(i64 (0:Int)))] (AWP.ret ?_))
   have hr:=someb hF
   subst hr
   exact(FnQ.f0 0 (.inr rfl))
  ·have hr:=someb hF
   subst hr
   exact hq
def Zcm (r:Int):PV→List Blk→Prop:=fun p K=>p=(i64 r)∧K=[]
theorem Zcn (a:Zb) (b:Zb) (r:Int) (hF:Z0 a b=some r):ACall Tryd.prog glob 9 [(Zh a),(Zh b)] [] (Zcm r):=by
 refine ACall.body Tryd.func9 rfl (by kernel_rfl) ?_
 unfold Z0 at hF
 refine AWP.seq (AWP.rg [] [(2,(.ptr 0 0)),(3,(.ptr 1 0))] [.cells (Za a),.cells (Za b)] (AWP.seq ?_))
 obtain⟨c,g,hF⟩:=bindb hF
 obtain⟨d,i,hF⟩:=bindb hF
 obtain⟨f,j,hF⟩:=bindb hF
 refine AWP.dr [(4,.call Tryd.func32 [] (Zas a.Hi b.Hi c g)),(9,.call Tryd.func32 [] (Zas a.Lo b.Lo d i)),(11,.call Tryd.func31 [] (Zfd [c,d] f j))] 12 [] [] [] [(4,(i64 f))] [.cells (Za a),.cells (Za b)] (AWP.ret ?_)
 have hr:=someb hF
 subst hr
 exact(FnQ.f0 0 (.inr rfl))
def Zbm (r:(Zb × Bool)):PV→List Blk→Prop:=fun p K=>p=(.tup [(Zh r.1),(vb r.2)])∧K=[]
abbrev Zdi (r:(Zb × Bool)):Exit→St→List Blk→Prop:=FnQ Tryd.prog Tryd.f14.results 0 (Zbm r)
theorem Zbn (a:ByteArray) (r:(Zb × Bool)) (hF:Zs a=some r):ACall Tryd.prog glob 14 [(vstr a)] [] (Zbm r):=by
 refine ACall.body Tryd.func14 rfl (by kernel_rfl) ?_
 unfold Zs at hF
 refine AWP.seq (AWP.rg [] [(0,(vstr a)),(2,(.ptr 0 0))] [.cells (Za Zc)] (AWP.seq (AWP.seq ?_)))
 obtain⟨a0,i,hF⟩:=bindb hF
 replace i:=someb i
 obtain⟨a1,u,hF⟩:=bindb hF
 refine AWP.to [(0,(vstr a)),(2,(.ptr 0 0)),(20,(vb a1))] [.cells (Za Zc)] ?_ ?_
 ·cases a0 with
  | false=>
   have g:=ifF u rfl
   obtain⟨a2,o,g⟩:=bindb g
   replace o:=someb o
   obtain⟨c5,v,g⟩:=bindb g
   replace g:=someb g
   subst g
   cases a2 with
   | false=>
    have a3:=someb (ifF v rfl)
    subst a3
    exact AWP.rgT [(2,.bool i),(6,.bool o)]
   | true=>
    have j:=ifT v rfl
    obtain⟨c6,a4,j⟩:=bindb j
    replace j:=someb j
    subst j
    exact AWP.rgT [(2,.bool i),(6,.bool o),(8,.str a4)]
  | true=>
   have a5:=someb (ifT u rfl)
   subst a5
   exact AWP.rgT [(2,.bool i)]
 refine AWP.cif hF (fun a6 hF=>?_) (fun a6 hF=>?_)
 ·refine AWP.seq (AWP.rg [] [(2,(.ptr 0 0)),(3,(vb false))] [.cells (Za (Zb.mk (0:Int) (0:Int)))] (AWP.ret ?_))
  have hr:=someb hF
  subst hr
  exact(FnQ.f0 0 (.inr rfl))
 ·refine AWP.skip (AWP.seq (AWP.rg [] [(0,(vstr a)),(2,(.ptr 0 0)),(4,(.ptr 1 0))] [.cells (Za Zc),.cells (Za Zc)] (AWP.seq (AWP.seq (AWP.rg0 [] [(0,(vstr a)),(2,(.ptr 0 0)),(4,(.ptr 1 0)),(5,(i64 (0:Int)))] ?_)))))
  obtain⟨s,a7,hF⟩:=bindb hF
  refine AWP.mid (fun e st H=>(e=.normal∧∃ k,s=(.inl k)∧st=[(2,(.ptr 0 0)),(4,(.ptr 1 0))]∧H=[.cells (Za Zc),.cells (Za k)])∨(e=.ret∧∃ r,s=(.inr r)∧Zdi r e st H)) ?_ ?_
  ·clear hF
   refine AWP.kp [0,2,4,5] 2 ?_
   refine AWP.bround (fun n st H=>∃ c,∃ b,Ze a n c b=some s∧st=[(0,(vstr a)),(2,(.ptr 0 0)),(4,(.ptr 1 0)),(5,(i64 b))]∧H=[.cells (Za Zc),.cells (Za c)]) fuel ⟨Zc,(0:Int),a7,by kernel_rfl,by kernel_rfl⟩ ?_
   rintro t st H ⟨c,b,hF,rfl,rfl⟩
   cases t with
   | zero=>exact noneb hF
   | succ t=>
    rw [Ze] at hF
    refine AWP.seq (AWP.seq (AWP.rg0 [] [(0,(vstr a)),(2,(.ptr 0 0)),(4,(.ptr 1 0)),(5,(i64 b)),(25,(vb (decide (b<(ByteArray.size a:Int)))))] ?_))
    refine AWP.cif hF (fun a8 hF=>?_) (fun a8 hF=>?_)
    ·refine AWP.skip (AWP.seq (AWP.block (AWP.seq (AWP.seq ?_))))
     obtain⟨c7,w,hF⟩:=bindb hF
     obtain⟨a9,p,hF⟩:=bindb hF
     replace p:=someb p
     obtain⟨b0,x,hF⟩:=bindb hF
     refine AWP.to [(0,(vstr a)),(2,(.ptr 0 0)),(4,(.ptr 1 0)),(5,(i64 b)),(37,(vb b0))] [.cells (Za Zc),.cells (Za c)] ?_ ?_
     ·cases a9 with
      | false=>
       have l:=ifF x rfl
       obtain⟨c8,b1,l⟩:=bindb l
       replace l:=someb l
       subst l
       exact AWP.rgT [(2,.str w),(4,.bool p),(7,.str b1)]
      | true=>
       have b2:=someb (ifT x rfl)
       subst b2
       exact AWP.rgT [(2,.str w),(4,.bool p)]
     refine AWP.cif hF (fun b3 hF=>?_) (fun b3 hF=>?_)
     ·refine AWP.seq (AWP.rg [] [(2,(.ptr 0 0)),(3,(vb false))] [.cells (Za (Zb.mk (0:Int) (0:Int))),.cells (Za c)] (AWP.ret ?_))
      exact LeQ.of (.inr ⟨rfl,((Zb.mk (0:Int) (0:Int)),false),(someb hF).symm,(FnQ.f0 0 (.inr rfl))⟩)
     ·refine AWP.skip (AWP.seq ?_)
      obtain⟨d,b4,hF⟩:=bindb hF
      refine AWP.rg [(1,.call Tryd.func36 [] (Zdh c (10:Int) d b4))] [(0,(vstr a)),(2,(.ptr 0 0)),(4,(.ptr 1 0)),(5,(i64 b)),(6,(.ptr 2 0)),(7,(vb d.2))] [.cells (Za Zc),.cells (Za c),.cells (Za d.1)] (AWP.seq ?_)
      obtain⟨b5,b6,hF⟩:=bindb hF
      obtain⟨y,b7,hF⟩:=bindb hF
      obtain⟨f,b8,hF⟩:=bindb hF
      refine AWP.dr [(3,.str b6),(6,.call Tryd.func16 [] (Zc2 (IntKind.wrap .u64 (IntKind.wrap .u8 (b5 - (48:Int)))) y b7)),(7,.call Tryd.func8 [] (Zeb d.1 y f b8))] 9 [] [8] [] [(0,(vstr a)),(2,(.ptr 0 0)),(4,(.ptr 1 0)),(5,(i64 b)),(6,(.ptr 2 0)),(7,(vb d.2)),(8,(.ptr 3 0))] [.cells (Za Zc),.cells (Za c),.cells (Za d.1),.cells (Za f)] (AWP.seq (AWP.seq ?_))
      obtain⟨b9,q,hF⟩:=bindb hF
      replace q:=someb q
      obtain⟨c0,z,hF⟩:=bindb hF
      refine AWP.to [(0,(vstr a)),(2,(.ptr 0 0)),(4,(.ptr 1 0)),(5,(i64 b)),(8,(.ptr 3 0)),(59,(vb c0))] [.cells (Za Zc),.cells (Za c),.cells (Za d.1),.cells (Za f)] ?_ ?_
      ·cases b9 with
       | false=>
        have m:=ifF z rfl
        obtain⟨c1,c2,m⟩:=bindb m
        replace m:=someb m
        subst m
        exact AWP.rgT [(2,.bool q),(5,.call Tryd.func9 [] (Zcn f d.1 c1 c2))]
       | true=>
        have c3:=someb (ifT z rfl)
        subst c3
        exact AWP.rgT [(2,.bool q)]
      refine AWP.cif hF (fun c4 hF=>?_) (fun c4 hF=>?_)
      ·refine AWP.seq (AWP.rg [] [(2,(.ptr 0 0)),(3,(vb false))] [.cells (Za (Zb.mk (0:Int) (0:Int))),.cells (Za c),.cells (Za d.1),.cells (Za f)] (AWP.ret ?_))
       exact LeQ.of (.inr ⟨rfl,((Zb.mk (0:Int) (0:Int)),false),(someb hF).symm,(FnQ.f0 0 (.inr rfl))⟩)
      ·refine AWP.skip (AWP.rg [] [(0,(vstr a)),(2,(.ptr 0 0)),(4,(.ptr 1 0)),(5,(i64 b))] [.cells (Za Zc),.cells (Za f),.cells (Za d.1),.cells (Za f)] (AWP.rg0 [] [(0,(vstr a)),(2,(.ptr 0 0)),(4,(.ptr 1 0)),(5,(i64 (ZI (b + (1:Int)))))] (LeQ.start (LeQ.pk [0,2,4,5] 2 ?_))))
       exact⟨t,Nat.lt_succ_self _,f,(ZI (b + (1:Int))),hF,by kernel_rfl,by kernel_rfl⟩
    ·refine AWP.exit (LeQ.start (LeQ.pk [2,4] 2 ?_))
     exact(.inl ⟨rfl,c,(someb hF).symm,by kernel_rfl,by kernel_rfl⟩)
  ·rintro _ _ _ (⟨rfl,k,rfl,rfl,rfl⟩ | ⟨rfl,c9,rfl,hq⟩)
   ·refine AWP.seq (AWP.rg [] [(2,(.ptr 0 0)),(3,(vb true))] [.cells (Za k),.cells (Za k)] (AWP.ret ?_))
    have hr:=someb hF
    subst hr
    exact(FnQ.f0 0 (.inr rfl))
   ·have hr:=someb hF
    subst hr
    exact hq
def Zbo (r:Bool):PV→List Blk→Prop:=fun p K=>p=(vb r)∧K=[]
theorem Zbp (a:Zb) (g:ByteArray) (r:Bool) (hF:Zx a g=some r):ACall Tryd.prog glob 5 [(Zh a),(vstr g)] [] (Zbo r):=by
 refine ACall.body Tryd.func5 rfl (by kernel_rfl) ?_
 unfold Zx at hF
 refine AWP.seq (AWP.rg [] [(1,(vstr g)),(2,(.ptr 0 0))] [.cells (Za a)] (AWP.seq ?_))
 obtain⟨t,x,hF⟩:=bindb hF
 obtain⟨i,y,hF⟩:=bindb hF
 refine AWP.rg [(1,.call Tryd.func20 [] (Zaj a t x)),(2,.call Tryd.func14 [] (Zbn t i y))] [(1,(vstr g)),(2,(.ptr 0 0)),(5,(.ptr 1 0)),(6,(vb i.2))] [.cells (Za a),.cells (Za i.1)] (AWP.seq ?_)
 obtain⟨j,z,hF⟩:=bindb hF
 refine AWP.rg [(1,.call Tryd.func14 [] (Zbn g j z))] [(1,(vstr g)),(2,(.ptr 0 0)),(5,(.ptr 1 0)),(6,(vb i.2)),(7,(.ptr 2 0)),(8,(vb j.2))] [.cells (Za a),.cells (Za i.1),.cells (Za j.1)] (AWP.seq ?_)
 obtain⟨a0,b,hF⟩:=bindb hF
 replace b:=someb b
 obtain⟨a1,c,hF⟩:=bindb hF
 replace c:=someb c
 obtain⟨b1,p,hF⟩:=bindb hF
 obtain⟨a2,d,hF⟩:=bindb hF
 replace d:=someb d
 obtain⟨a3,k,hF⟩:=bindb hF
 refine AWP.to [(4,(vb a3))] [.cells (Za a),.cells (Za i.1),.cells (Za j.1)] ?_ ?_
 ·cases a0 with
  | false=>
   subst c
   have a4:=someb (ifF p rfl)
   subst a4
   subst d
   have a5:=someb (ifF k rfl)
   subst a5
   exact AWP.rgT [(1,.bool b)]
  | true=>
   cases a1 with
   | false=>
    have a6:=someb (ifF p rfl)
    subst a6
    subst d
    have a7:=someb (ifF k rfl)
    subst a7
    exact AWP.rgT [(1,.bool b),(6,.bool c)]
   | true=>
    have f:=ifT p rfl
    obtain⟨a8,l,f⟩:=bindb f
    replace l:=someb l
    obtain⟨b2,u,f⟩:=bindb f
    replace f:=someb f
    subst f
    cases a8 with
    | false=>
     have m:=ifF u rfl
     obtain⟨v,w,m⟩:=bindb m
     replace m:=someb m
     subst m
     cases a2 with
     | false=>
      have a9:=someb (ifF k rfl)
      subst a9
      exact AWP.rgT [(1,.bool b),(6,.bool c),(9,.bool l),(11,.call Tryd.func20 [] (Zaj j.1 v w)),(16,.bool d)]
     | true=>
      have n:=ifT k rfl
      obtain⟨q,s,n⟩:=bindb n
      replace n:=someb n
      subst n
      exact AWP.rgT [(1,.bool b),(6,.bool c),(9,.bool l),(11,.call Tryd.func20 [] (Zaj j.1 v w)),(16,.bool d),(17,.call Tryd.func10 [] (Zbt q s))]
    | true=>
     have b0:=someb (ifT u rfl)
     subst b0
     subst d
     have o:=ifT k rfl
     obtain⟨q,s,o⟩:=bindb o
     replace o:=someb o
     subst o
     exact AWP.rgT [(1,.bool b),(6,.bool c),(9,.bool l),(17,.call Tryd.func10 [] (Zbt q s))]
 refine AWP.ret ?_
 have hr:=someb hF
 subst hr
 exact(FnQ.f0 0 (.inr rfl))
end Go.AM
set_option maxRecDepth 100000
namespace Go.AM
open Go
theorem M_fuel:∃ f,fuel=f + 4:=⟨1180591620717411303420,rfl⟩
instance:DecidableEq Zb:=fun a b=>decidable_of_iff (a.Hi=b.Hi∧a.Lo=b.Lo) (by cases a; cases b; simp)
def cmp3 (x y:Int):Int:=if x<y then -1 else if x > y then 1 else 0
theorem Zfi {x y:Int} (h:y≤x):decide (cmp3 x y<0)=false:=by
 unfold cmp3
 rw [if_neg (by omega)]
 split <;> decide
theorem Zd1 {n:Int} (h1:-9223372036854775808≤n) (h2:n<9223372036854775808):IntKind.wrap .i64 n=n:=by
 simp only [IntKind.wrap,IntKind.bits,IntKind.signed]
 simp
 omega
theorem M_cmp (a b:Int):Zp a b=some (if a<b then -1 else if a > b then 1 else 0):=by
 simp only [Zp,Zz,Option.bind_some,bne_self_eq_false,Bool.false_eq_true,if_false,decide_eq_true_eq]
 split
 ·rfl
 ·split <;> rfl
theorem M_or (x y:Int):Zag [x,y]=some (if x ≠ 0 then x else y):=by
 obtain⟨f,hf⟩:=M_fuel
 simp only [Zag,hf]
 have w1:IntKind.wrap .i64 1=1:=Zd1 (by omega) (by omega)
 have w2:IntKind.wrap .i64 2=2:=Zd1 (by omega) (by omega)
 by_cases hx:x=0
 ·subst hx
  by_cases hy:y=0
  ·subst hy
   simp [Zt,idx,w1,w2]
  ·simp [Zt,idx,w1,w2,hy]
 ·simp [Zt,idx,hx]
def cnum (c:Zb):Int:=c.Hi * 18446744073709551616 + c.Lo
theorem Zgh {a b:Zb} (ha:Zd a) (hb:Zd b):Z0 a b=some (cmp3 (cnum a) (cnum b)):=by
 simp only [Z0,M_cmp,M_or,Option.bind_some]
 obtain⟨h1,h2,_⟩:=ha
 obtain⟨h3,h4,_⟩:=hb
 unfold Zq at h1 h2 h3 h4
 unfold cmp3 cnum
 congr 1
 rcases Int.lt_trichotomy a.Hi b.Hi with h | h | h
 ·have k:a.Hi * 18446744073709551616 + a.Lo<b.Hi * 18446744073709551616 + b.Lo:=by omega
  simp [h,k]
 ·rw [h]
  rcases Int.lt_trichotomy a.Lo b.Lo with k | k | k
  ·simp [k]
  ·simp [k]
  ·have k1:¬ a.Lo<b.Lo:=by omega
   simp [k,k1]
 ·have n1:¬ a.Hi<b.Hi:=by omega
  have k:¬ a.Hi * 18446744073709551616 + a.Lo<b.Hi * 18446744073709551616 + b.Lo:=by omega
  have k':a.Hi * 18446744073709551616 + a.Lo > b.Hi * 18446744073709551616 + b.Lo:=by omega
  simp [h,n1,k,k']
end Go.AM
set_option maxRecDepth 100000
namespace Go.AM
open Go
theorem xwu64 {x:Int} (h0:0≤x) (h1:x<18446744073709551616):IntKind.wrap .u64 x=x:=by
 simp only [IntKind.wrap,IntKind.bits,IntKind.signed]
 simp
 omega
theorem xwu8 {x:Int} (h0:0≤x) (h1:x<256):IntKind.wrap .u8 x=x:=by
 simp only [IntKind.wrap,IntKind.bits,IntKind.signed]
 simp
 omega
theorem xwr (x:Int):0≤IntKind.wrap .u64 x∧IntKind.wrap .u64 x<18446744073709551616:=by
 simp only [IntKind.wrap,IntKind.bits,IntKind.signed]
 simp
 omega
theorem xshr (x k:Nat) (hk:k≤64):bShr .u64 (x:Int) (k:Int)=((x / 2 ^ k:Nat):Int):=by
 unfold bShr
 rw [Int.toNat_natCast,show min k (IntKind.bits .u64)=k from Nat.min_eq_left hk,Int.fdiv_eq_ediv_of_nonneg _ (by exact Int.le_of_lt (by exact Int.pow_pos (by decide)))]
 push_cast; rfl
theorem xband {x y:Nat} (hx:x<2 ^ 64) (hy:y<2 ^ 64):bAnd .u64 (x:Int) (y:Int)=((x &&& y:Nat):Int):=by
 have h:x &&& y<2 ^ 64:=Nat.and_lt_two_pow x hy
 unfold bAnd
 have e:(BitVec.ofInt (IntKind.bits .u64) (x:Int) &&& BitVec.ofInt (IntKind.bits .u64) (y:Int)).toNat=x &&& y:=by
  rw [BitVec.ofInt_natCast,BitVec.ofInt_natCast]
  show (BitVec.ofNat 64 x &&& BitVec.ofNat 64 y).toNat=_
  rw [BitVec.toNat_and,BitVec.toNat_ofNat,BitVec.toNat_ofNat,Nat.mod_eq_of_lt hx,Nat.mod_eq_of_lt hy]
 rw [e,xwu64 (by omega) (by omega)]
theorem xbor {x y:Nat} (hx:x<2 ^ 64) (hy:y<2 ^ 64):bOr .u64 (x:Int) (y:Int)=((x ||| y:Nat):Int):=by
 have h:x ||| y<2 ^ 64:=Nat.or_lt_two_pow hx hy
 unfold bOr
 have e:(BitVec.ofInt (IntKind.bits .u64) (x:Int) ||| BitVec.ofInt (IntKind.bits .u64) (y:Int)).toNat=x ||| y:=by
  rw [BitVec.ofInt_natCast,BitVec.ofInt_natCast]
  show (BitVec.ofNat 64 x ||| BitVec.ofNat 64 y).toNat=_
  rw [BitVec.toNat_or,BitVec.toNat_ofNat,BitVec.toNat_ofNat,Nat.mod_eq_of_lt hx,Nat.mod_eq_of_lt hy]
 rw [e,xwu64 (by omega) (by omega)]
theorem xshl (x k:Nat) (hk:k≤64):bShl .u64 (x:Int) (k:Int)=((x * 2 ^ k % 2 ^ 64:Nat):Int):=by
 unfold bShl
 rw [Int.toNat_natCast,show min k (IntKind.bits .u64)=k from Nat.min_eq_left hk]
 have:∀ z:Int,IntKind.wrap .u64 z=z % (2 ^ 64:Int):=fun z=>by simp [IntKind.wrap,IntKind.signed,IntKind.bits]
 rw [this,Int.natCast_emod,Int.natCast_mul,Int.natCast_pow,Int.natCast_pow]; rfl
theorem xmul (a b:Nat):(a:Int) * (b:Int)=((a * b:Nat):Int):=(Int.natCast_mul a b).symm
theorem xadd (a b:Nat):(a:Int) + (b:Int)=((a + b:Nat):Int):=(Int.natCast_add a b).symm
theorem xwN (a:Nat) (ha:a<18446744073709551616):IntKind.wrap .u64 (a:Int)=(a:Int):=xwu64 (by omega) (by omega)
theorem xwM (a:Nat):IntKind.wrap .u64 (a:Int)=((a % 18446744073709551616:Nat):Int):=by
 have:∀ z:Int,IntKind.wrap .u64 z=z % (18446744073709551616:Int):=fun z=>by simp [IntKind.wrap,IntKind.signed,IntKind.bits]
 rw [this]; omega
theorem xshr32 (a:Nat):bShr .u64 (a:Int) (32:Int)=((a / 4294967296:Nat):Int):=xshr a 32 (by omega)
theorem xmask32 (a:Nat) (ha:a<18446744073709551616):bAnd .u64 (a:Int) (4294967295:Int)=((a % 4294967296:Nat):Int):=by
 have h:=xband (x:=a) (y:=4294967295) ha (by omega)
 have e:a &&& 4294967295=a % 4294967296:=Nat.and_two_pow_sub_one_eq_mod a 32
 rw [e] at h
 exact h
theorem xMul64 (x y:Nat) (hx:x<18446744073709551616) (hy:y<18446744073709551616):Zw (x:Int) (y:Int)=some (((x * y / 18446744073709551616:Nat):Int),((x * y % 18446744073709551616:Nat):Int)):=by
 obtain⟨bd,bt,bw,hhi⟩:=Lib.mul64_hi x y hx hy
 have ba:=Lib.half_mul_le (a:=x / 4294967296) (b:=y / 4294967296) (by omega) (by omega)
 have bb:=Lib.half_mul_le (a:=x / 4294967296) (b:=y % 4294967296) (by omega) (by omega)
 have bc:=Lib.half_mul_le (a:=x % 4294967296) (b:=y / 4294967296) (by omega) (by omega)
 have ba':x / 4294967296 * (y / 4294967296)<18446744073709551616:=by omega
 have bb':x / 4294967296 * (y % 4294967296)<18446744073709551616:=by omega
 have bc':x % 4294967296 * (y / 4294967296)<18446744073709551616:=by omega
 have bh1:x / 4294967296 * (y / 4294967296) + (x / 4294967296 * (y % 4294967296) + x % 4294967296 * (y % 4294967296) / 4294967296) / 4294967296<18446744073709551616:=by omega
 have bh:x / 4294967296 * (y / 4294967296) + (x / 4294967296 * (y % 4294967296) + x % 4294967296 * (y % 4294967296) / 4294967296) / 4294967296 + ((x / 4294967296 * (y % 4294967296) + x % 4294967296 * (y % 4294967296) / 4294967296) % 4294967296 + x % 4294967296 * (y / 4294967296)) / 4294967296<18446744073709551616:=by omega
 unfold Zw
 simp only [xmask32 x hx,xmask32 y hy,xshr32,xmul,xadd,xwN _ bd,xwN _ bb',xwN _ bt,xmask32 _ bt,xwN _ bc',xwN _ bw,xwN _ ba',xwN _ bh1,xwN _ bh,xwM (x * y)]
 rw [hhi]
theorem lz10:Zr 10=some 60:=by kernel_rfl
theorem xfuel:∃ f,fuel=f + 1:=⟨1180591620717411303423,rfl⟩
theorem div_L1 {lo r q rh:Int} (hq:q<4294967296) (hz:bAnd .u64 (bShl .u64 10 (IntKind.wrap .u64 r)) 4294967295=0):Zm lo 10 r fuel q rh=some q:=by
 obtain⟨f,hf⟩:=xfuel
 rw [hf,Zm,hz,Int.mul_zero]
 have h0:IntKind.wrap .u64 0=0:=by decide
 have hw:=xwr (IntKind.wrap .u64 (4294967296 * rh) + bShr .u64 (bShl .u64 lo (IntKind.wrap .u64 r)) 32)
 have d1:decide (q ≥ 4294967296)=false:=decide_eq_false (by omega)
 have d2:∀ z:Int,0≤z→decide ((0:Int) > z)=false:=fun z hz=>decide_eq_false (by omega)
 rw [h0,d1,d2 _ hw.1]
 rfl
theorem div_L2 {lo r q rh:Int} (hq:q<4294967296) (hz:bAnd .u64 (bShl .u64 10 (IntKind.wrap .u64 r)) 4294967295=0):Zn lo 10 r fuel rh q=some q:=by
 obtain⟨f,hf⟩:=xfuel
 rw [hf,Zn,hz,Int.mul_zero]
 have h0:IntKind.wrap .u64 0=0:=by decide
 have hw:=xwr (IntKind.wrap .u64 (4294967296 * rh) + bAnd .u64 (bShl .u64 lo (IntKind.wrap .u64 r)) 4294967295)
 have d1:decide (q ≥ 4294967296)=false:=decide_eq_false (by omega)
 have d2:∀ z:Int,0≤z→decide ((0:Int) > z)=false:=fun z hz=>decide_eq_false (by omega)
 rw [h0,d1,d2 _ hw.1]
 rfl
theorem xw3 (a b c:Int):IntKind.wrap .u64 ((IntKind.wrap .u64 ((IntKind.wrap .u64 a) + b)) - IntKind.wrap .u64 c)=(a + b - c) % 18446744073709551616:=by
 have:∀ z:Int,IntKind.wrap .u64 z=z % (18446744073709551616:Int):=fun z=>by simp [IntKind.wrap,IntKind.signed,IntKind.bits]
 simp only [this,Int.emod_add_emod,Int.emod_sub_emod,Int.sub_emod_emod]
theorem xq {u q r:Int} (h:u=q * 2684354560 + r) (h0:0≤r) (h1:r<2684354560) (hu:0≤u) (hu1:u<18446744073709551616):IntKind.wrap .u64 (Int.tdiv u 2684354560)=q∧IntKind.wrap .u64 (u - IntKind.wrap .u64 (q * 2684354560))=r:=by
 have e:u / 2684354560=q:=by omega
 refine⟨?_,?_⟩
 ·rw [Int.tdiv_eq_ediv_of_nonneg hu,e,xwu64 (by omega) (by omega)]
 ·rw [xwu64 (x:=q * 2684354560) (by omega) (by omega),xwu64 (by omega) (by omega)]; omega
theorem xt {u q r n:Int} (h:u=q * 2684354560 + r) (h0:0≤r) (h1:r<2684354560) (n0:0≤n) (n1:n<4294967296):IntKind.wrap .u64 ((IntKind.wrap .u64 ((IntKind.wrap .u64 (u * 4294967296)) + n)) - IntKind.wrap .u64 (q * 11529215046068469760))=r * 4294967296 + n:=by
 rw [xw3]
 have he:u * 4294967296 + n - q * 11529215046068469760=r * 4294967296 + n:=by omega
 rw [he]
 exact Int.emod_eq_of_lt (by omega) (by omega)
theorem xqq {a b:Int} (a0:0≤a) (a1:a<4294967296) (b0:0≤b) (b1:b<4294967296):IntKind.wrap .u64 ((IntKind.wrap .u64 (a * 4294967296)) + b)=a * 4294967296 + b:=by
 rw [xwu64 (x:=a * 4294967296) (by omega) (by omega),xwu64 (by omega) (by omega)]
theorem xlast {r:Int} (h0:0≤r) (h1:r<2684354560):bShr .u64 (r * 4294967296 + 0) 60=r / 268435456:=by
 obtain⟨n,rfl⟩:∃ m:Nat,r=m:=⟨r.toNat,by omega⟩
 have:=xshr (n * 4294967296) 60 (by omega)
 have e:((n:Int) * 4294967296 + 0)=((n * 4294967296:Nat):Int):=by omega
 rw [e]
 refine this.trans ?_
 omega
theorem ey60:bShl .u64 10 60=11529215046068469760:=by decide
theorem ey32:bShr .u64 11529215046068469760 32=2684354560:=by decide
theorem ey00:bAnd .u64 (bShl .u64 10 (IntKind.wrap .u64 60)) 4294967295=0:=by decide
theorem xun32 {hi lo:Nat} (h1:hi<10) (l1:lo<18446744073709551616):bOr .u64 (bShl .u64 (hi:Int) 60) (bShr .u64 (lo:Int) 4)=(hi:Int) * 1152921504606846976 + (lo:Int) / 16:=by
 have a1:bShl .u64 (hi:Int) 60=((hi * 1152921504606846976:Nat):Int):=by
  have:=xshl hi 60 (by omega)
  rw [show hi * 2 ^ 60 % 2 ^ 64=hi * 1152921504606846976 from Nat.mod_eq_of_lt (by omega)] at this
  exact this
 have a2:bShr .u64 (lo:Int) 4=((lo / 16:Nat):Int):=xshr lo 4 (by omega)
 rw [a1,a2,xbor (by omega) (by omega)]
 have:=Nat.two_pow_add_eq_or_of_lt (i:=60) (b:=lo / 16) (by omega) hi
 rw [show hi * 1152921504606846976=2 ^ 60 * hi by omega,← this]
 omega
theorem xun1 (lo:Nat):bShr .u64 (bShl .u64 (lo:Int) 60) 32=(lo:Int) % 16 * 268435456∧bAnd .u64 (bShl .u64 (lo:Int) 60) 4294967295=0:=by
 have a4:bShl .u64 (lo:Int) 60=((lo % 16 * 1152921504606846976:Nat):Int):=by
  have:=xshl lo 60 (by omega)
  rw [show lo * 2 ^ 60 % 2 ^ 64=lo % 16 * 1152921504606846976 by omega] at this
  exact this
 rw [a4]
 refine⟨?_,?_⟩
 ·rw [xshr32]; omega
 ·rw [xmask32 _ (by omega)]; omega
theorem xend {h l u un1 q1 r1 q0 r0:Int} (hu:u=h * 1152921504606846976 + l / 16) (hn:un1=l % 16 * 268435456) (l0:0≤l) (e1:u=q1 * 2684354560 + r1) (e0:r1 * 4294967296 + un1=q0 * 2684354560 + r0) (b0:0≤r0) (b1:r0<2684354560) :
  q1 * 4294967296 + q0=(h * 18446744073709551616 + l) / 10∧r0 / 268435456=(h * 18446744073709551616 + l) % 10:=by
 have hk:r0=268435456 * (h * 18446744073709551616 + l - 10 * (q1 * 4294967296 + q0)):=by omega
 generalize h * 18446744073709551616 + l=N at *
 generalize q1 * 4294967296 + q0=Q at *
 omega
theorem xbd {α β:Type} {x:Option α} {a:α} (h:x=some a) (f:α→Option β):x.bind f=f a:=by rw [h]; rfl
theorem Div10N {hi lo:Nat} (h1:hi<10) (l1:lo<18446744073709551616):Zu (hi:Int) (lo:Int) 10=some (((hi:Int) * 18446744073709551616 + lo) / 10,((hi:Int) * 18446744073709551616 + lo) % 10):=by
 unfold Zu
 rw [if_neg (by decide),if_neg (by simp; omega)]
 by_cases hh:hi=0
 ·subst hh
  rw [if_pos (by decide:(((0:Nat):Int) == 0)=true),if_pos (by decide),if_pos (by decide),Int.tdiv_eq_ediv_of_nonneg (by omega),xwu64 (by omega) (by omega),Int.tmod_eq_emod_of_nonneg (by omega)]
  simp
 ·rw [if_neg (by simp; omega),xbd lz10]
  have e60:IntKind.wrap .u64 60=60:=by decide
  have e4:IntKind.wrap .u64 ((64:Int) - 60)=4:=by decide
  have a3:=xun32 h1 l1
  obtain⟨a5,a6⟩:=xun1 lo
  obtain⟨u,hu⟩:∃ u:Int,u=(hi:Int) * 1152921504606846976 + (lo:Int) / 16:=⟨_,rfl⟩
  obtain⟨n,hn⟩:∃ n:Int,n=(lo:Int) % 16 * 268435456:=⟨_,rfl⟩
  rw [← hu] at a3
  rw [← hn] at a5
  obtain⟨q1,hq1⟩:∃ q:Int,q=u / 2684354560:=⟨_,rfl⟩
  obtain⟨r1,hr1⟩:∃ q:Int,q=u % 2684354560:=⟨_,rfl⟩
  have k1:u=q1 * 2684354560 + r1:=by omega
  have k2:0≤u∧u<11529215046068469760:=by omega
  have k3:0≤r1∧r1<2684354560:=by omega
  have k4:0≤q1∧q1<4294967296:=by omega
  have k5:0≤n∧n<4294967296:=by omega
  obtain⟨v,hv⟩:∃ v:Int,v=r1 * 4294967296 + n:=⟨_,rfl⟩
  obtain⟨q0,hq0⟩:∃ q:Int,q=v / 2684354560:=⟨_,rfl⟩
  obtain⟨r0,hr0⟩:∃ q:Int,q=v % 2684354560:=⟨_,rfl⟩
  have j1:v=q0 * 2684354560 + r0:=by omega
  have j2:0≤v∧v<11529215046068469760:=by omega
  have j3:0≤r0∧r0<2684354560:=by omega
  have j4:0≤q0∧q0<4294967296:=by omega
  obtain⟨f1,f2⟩:=xend hu hn (by omega) k1 (by rw [← hv]; exact j1) j3.1 j3.2
  obtain⟨g1,g2⟩:=xq k1 k3.1 k3.2 k2.1 (by omega)
  obtain⟨g3,g4⟩:=xq j1 j3.1 j3.2 j2.1 (by omega)
  have g5:=xt k1 k3.1 k3.2 k5.1 k5.2
  have g6:=xt (n:=0) j1 j3.1 j3.2 (by omega) (by omega)
  rw [e60,if_pos (by decide),if_pos (by decide),e4,if_pos (by decide),if_pos (by decide),ey60,ey32,if_pos (by decide),a3,a5,a6,g1,g2,xbd (div_L1 k4.2 ey00),if_pos (by decide),g5,← hv,g3,g4,xbd (div_L2 j4.2 ey00),if_pos (by decide),g6,xqq k4.1 k4.2 j4.1 j4.2,xlast j3.1 j3.2,f1,f2]
theorem Div10 {hi lo:Int} (h0:0≤hi) (h1:hi<10) (l0:0≤lo) (l1:lo<18446744073709551616):Zu hi lo 10=some ((hi * 18446744073709551616 + lo) / 10,(hi * 18446744073709551616 + lo) % 10):=by
 obtain⟨a,rfl⟩:∃ m:Nat,hi=m:=⟨hi.toNat,by omega⟩
 obtain⟨b,rfl⟩:∃ m:Nat,lo=m:=⟨lo.toNat,by omega⟩
 rw [Div10N (by omega) (by omega)]
theorem times10 {c:Zb} (hc:Zd c):∃ r,Z3 c 10=some (r,decide (cnum c * 10<340282366920938463463374607431768211456))∧Zd r∧(cnum c * 10<340282366920938463463374607431768211456→cnum r=cnum c * 10):=by
 obtain⟨H,L⟩:=c
 obtain⟨h1,h2,_⟩:=hc
 unfold Zq at h1 h2
 simp only at h1 h2
 obtain⟨a,rfl⟩:∃ m:Nat,H=m:=⟨H.toNat,by omega⟩
 obtain⟨b,rfl⟩:∃ m:Nat,L=m:=⟨L.toNat,by omega⟩
 have m1:=xMul64 b 10 (by omega) (by omega)
 have m2:=xMul64 a 10 (by omega) (by omega)
 unfold Z3
 simp only
 rw [show (10:Int)=((10:Nat):Int) from rfl,m1,m2]
 simp only [Option.bind_some]
 rw [if_pos (by omega)]
 refine⟨⟨_,_⟩,congrArg (fun q=>some (_,q)) ?_,?_,?_⟩
 ·unfold cnum
  rw [Bool.eq_iff_iff]
  simp only [Bool.and_eq_true,beq_iff_eq,decide_eq_true_eq]
  constructor
  ·rintro⟨h3,h4⟩
   have hm:a * 10 % 18446744073709551616=a * 10:=Nat.mod_eq_of_lt (by omega)
   rw [hm] at h4
   omega
  ·intro h
   have hk:a * 10 + b * 10 / 18446744073709551616<18446744073709551616:=by omega
   have hm:a * 10 % 18446744073709551616=a * 10:=Nat.mod_eq_of_lt (by omega)
   rw [hm]
   omega
 ·refine⟨?_,?_,trivial⟩
  ·unfold Zq; simp only; omega
  ·unfold Zq; simp only; omega
 ·unfold cnum
  simp only
  intro h
  have hk:a * 10 + b * 10 / 18446744073709551616<18446744073709551616:=by omega
  have hm:a * 10 % 18446744073709551616=a * 10:=Nat.mod_eq_of_lt (by omega)
  rw [hm]
  omega
end Go.AM
set_option maxRecDepth 100000
namespace Go.AM
open Go
theorem Zd2 (l:List Int):(strOf l).data.toList=l.map fun n=>UInt8.ofNat n.toNat:=by
 have key:∀(l:List Int) (r:ByteArray),(l.foldl (fun r n=>r.push (UInt8.ofNat n.toNat)) r).data.toList=r.data.toList++l.map fun n=>UInt8.ofNat n.toNat:=by
  intro l
  induction l with
  | nil=>intro r; simp
  | cons n l ih=>
   intro r
   rw [List.foldl_cons,ih]
   simp [ByteArray.push]
 have:=key l ByteArray.empty
 simpa [strOf] using this
theorem bs_ext {a b:ByteArray} (h:a.data.toList=b.data.toList):a=b:=ByteArray.ext (Array.toList_inj.1 h)
def bsOf (s:ByteArray):List Int:=s.data.toList.map fun b=>(b.toNat:Int)
theorem Zd3 (s:ByteArray):strOf (bsOf s)=s:=by
 refine bs_ext ?_
 rw [Zd2,bsOf,List.map_map]
 conv=>rhs; rw [← List.map_id s.data.toList]
 refine List.map_congr_left fun b _=>?_
 simp
theorem Zf5 {l:List Int} (h:∀ x∈l,0≤x∧x<256):bsOf (strOf l)=l:=by
 rw [bsOf,Zd2,List.map_map]
 conv=>rhs; rw [← List.map_id l]
 refine List.map_congr_left fun x hx=>?_
 obtain⟨h0,h1⟩:=h x hx
 simp only [Function.comp,UInt8.toNat_ofNat',id]
 omega
theorem Zay (s:ByteArray):(bsOf s).length=s.size:=by rw [bsOf,List.length_map,Array.length_toList]; rfl
theorem Zfz {s:ByteArray} {i:Nat} (h:i<(bsOf s).length):sidx s (i:Int)=some (bsOf s)[i]:=by
 have h2:i<s.size:=by rw [← Zay]; exact h
 unfold sidx
 rw [dif_pos ⟨by omega,by omega⟩]
 simp only [bsOf,List.getElem_map,Array.getElem_toList,Int.toNat_natCast]
 rfl
theorem Zf0 (a b:ByteArray):(a.toList == b.toList)=decide (a=b):=by
 rw [ByteArray.toList_eq,ByteArray.toList_eq,Bool.eq_iff_iff,beq_iff_eq,decide_eq_true_eq]
 exact⟨bs_ext,fun h=>by rw [h]⟩
theorem xidxn {v:List Int} {n t:Nat} {x:Int} (h:v[t]? = some x) (ht:t<n):idxn n v (t:Int)=some x:=by
 unfold idxn AM.idx
 rw [if_pos ⟨by omega,by omega⟩,if_pos (by omega),Int.toNat_natCast,h]
theorem xwi {x:Int} (h0:-9223372036854775808≤x) (h1:x<9223372036854775808):IntKind.wrap .i64 x=x:=by
 simp only [IntKind.wrap,IntKind.bits,IntKind.signed]
 simp
 omega
theorem rev_L1 {l:List Int} {N:Nat} (hN:l.length=N) (hb:N<1000000):∀(j n a b:Nat) (v:List Int),b - a≤j→j<n→a + b + 1=N→v.length=N→(∀ t,t<N→v[t]? = if t<a∨N - a≤t then l[N - 1 - t]? else l[t]?) →
  Zf N n v (a:Int) (b:Int)=some l.reverse
 | j,0,a,b,v,_,h,_,_,_=>absurd h (by omega)
 | j,n + 1,a,b,v,h1,h2,h3,h4,h5=>by
  rw [Zf]
  by_cases hab:a<b
  ·rw [if_pos (decide_eq_true (by omega))]
   have ha:v[a]? = l[a]?:=by rw [h5 a (by omega),if_neg (by omega)]
   have hb':v[b]? = l[b]?:=by rw [h5 b (by omega),if_neg (by omega)]
   have la:l[a]? = some l[a]:=List.getElem?_eq_getElem (by omega)
   have lb:l[b]? = some l[b]:=List.getElem?_eq_getElem (by omega)
   have ia:=xidxn (n:=N) (ha.trans la) (by omega)
   have ib:=xidxn (n:=N) (hb'.trans lb) (by omega)
   have ib2:idxn N (List.set v (Int.toNat (a:Int)) l[b]) (b:Int)=some l[b]:=xidxn (by rw [Int.toNat_natCast,List.getElem?_set_ne (by omega)]; exact hb'.trans lb) (by omega)
   rw [xbd ib,xbd ia,xbd ia,xbd ib2,xwi (by omega) (by omega),xwi (by omega) (by omega),Int.toNat_natCast,Int.toNat_natCast]
   have e1:(a:Int) + 1=((a + 1:Nat):Int):=by omega
   have e2:(b:Int) - 1=((b - 1:Nat):Int):=by omega
   cases j with
   | zero=>omega
   | succ j=>
   rw [e1,e2]
   refine rev_L1 hN hb j n (a + 1) (b - 1) _ (by omega) (by omega) (by omega) (by simp [h4]) fun t ht=>?_
   by_cases htb:t=b
   ·subst htb
    rw [List.getElem?_set_self (by simp; omega),if_pos (by omega),← la]
    congr 1; omega
   ·rw [List.getElem?_set_ne (by omega)]
    by_cases hta:t=a
    ·subst hta
     rw [List.getElem?_set_self (by omega),if_pos (by omega),← lb]
     congr 1; omega
    ·rw [List.getElem?_set_ne (by omega),h5 t ht]
     by_cases hc:t<a∨N - a≤t
     ·rw [if_pos hc,if_pos (by omega)]
     ·rw [if_neg hc,if_neg (by omega)]
  ·rw [if_neg (by simp; omega)]
   congr 1
   refine List.ext_getElem? fun t=>?_
   by_cases ht:t<N
   ·rw [h5 t ht,List.getElem?_reverse (by omega),hN]
    by_cases hc:t<a∨N - a≤t
    ·rw [if_pos hc]
    ·rw [if_neg hc]
     congr 1; omega
   ·rw [List.getElem?_eq_none (by omega),List.getElem?_eq_none (by simp; omega)]
theorem Zf6 {l:List Int} (hl:l ≠ []) (hb:l.length<1000000):Zi l.length l=some l.reverse:=by
 have hp:=List.length_pos_iff.2 hl
 unfold Zi
 rw [xwi (by omega) (by omega)]
 have e:(l.length:Int) - 1=((l.length - 1:Nat):Int):=by omega
 rw [e]
 have:=rev_L1 (l:=l) rfl hb (l.length - 1) fuel 0 (l.length - 1) l (by omega) (by unfold fuel; omega) (by omega) rfl (fun t ht=>by rw [if_neg (by omega)])
 have e0:Zf l.length fuel l 0 ((l.length - 1:Nat):Int)=some l.reverse:=this
 rw [xbd e0]
def dgs (n:Nat):List Int:=if h:n<10 then [48 + (n:Int)] else (48 + ((n % 10:Nat):Int)) :: dgs (n / 10)
termination_by n
theorem Z4 {n:Nat} (h:n<10):dgs n=[48 + (n:Int)]:=by rw [dgs,dif_pos h]
theorem Zaz {n:Nat} (h:¬ n<10):dgs n=(48 + ((n % 10:Nat):Int)) :: dgs (n / 10):=by rw [dgs,dif_neg h]
theorem dgs_ne (n:Nat):dgs n ≠ []:=by
 by_cases h:n<10
 ·rw [Z4 h]; simp
 ·rw [Zaz h]; simp
theorem Zes (n:Nat):∀ x∈dgs n,48≤x∧x≤57:=by
 induction n using Nat.strongRecOn with
 | _ n ih=>
  intro x hx
  by_cases h:n<10
  ·rw [Z4 h,List.mem_singleton] at hx
   omega
  ·rw [Zaz h,List.mem_cons] at hx
   rcases hx with rfl | hx
   ·omega
   ·exact ih (n / 10) (by omega) x hx
theorem Zec:∀(k n:Nat),n<10 ^ (k + 1)→(dgs n).length≤k + 1
 | 0,n,h=>by rw [Z4 (by omega)]; simp
 | k + 1,n,h=>by
  by_cases h':n<10
  ·rw [Z4 h']; simp
  ·rw [Zaz h',List.length_cons]
   have:n / 10<10 ^ (k + 1):=by
    rw [Nat.pow_succ] at h
    omega
   have:=Zec k (n / 10) this
   omega
theorem Za0 {c:Zb} (h:Zd c):0≤cnum c∧cnum c<340282366920938463463374607431768211456:=by
 obtain⟨a,b⟩:=c
 obtain⟨h1,h2,_⟩:=h
 unfold Zq at h1 h2
 unfold cnum
 simp only at *
 omega
theorem fmt_L1:∀(k n:Nat) (v5:Zb) (v6:List Int),Zd v5→(cnum v5).toNat<10 ^ (k + 1)→k<n→v6.length + k<1000 →
  ∃ z,Zo n v5 v6=some (z,v6++dgs (cnum v5).toNat)
 | k,0,_,_,_,_,h,_=>absurd h (by omega)
 | k,n + 1,v5,v6,hok,hk,hn,hl=>by
  obtain⟨H,L⟩:=v5
  have hok':=hok
  obtain⟨h1,h2,_⟩:=hok
  unfold Zq at h1 h2
  simp only at h1 h2
  have hm:Int.tmod H 10=H % 10:=Int.tmod_eq_emod_of_nonneg h1.1
  have hd:Int.tdiv H 10=H / 10:=Int.tdiv_eq_ediv_of_nonneg h1.1
  rw [Zo]
  simp only
  rw [hm,hd,xbd (Div10 (by omega) (by omega) h2.1 h2.2)]
  obtain⟨q,hq⟩:∃ q,q=(H % 10 * 18446744073709551616 + L) / 10:=⟨_,rfl⟩
  obtain⟨d,hd'⟩:∃ d,d=(H % 10 * 18446744073709551616 + L) % 10:=⟨_,rfl⟩
  obtain⟨N,hNe⟩:∃ N:Nat,(N:Int)=H * 18446744073709551616 + L:=⟨(H * 18446744073709551616 + L).toNat,by omega⟩
  have hc:(cnum ⟨H,L⟩:Int)=(N:Int):=by unfold cnum; exact hNe.symm
  have hdN:d=((N % 10:Nat):Int):=by omega
  have hqN:H / 10 * 18446744073709551616 + q=((N / 10:Nat):Int):=by omega
  have hq0:0≤q∧q<18446744073709551616:=by omega
  rw [hc,Int.toNat_natCast] at hk ⊢
  simp only [← hq,← hd']
  have w8:IntKind.wrap .u8 (48 + IntKind.wrap .u8 d)=48 + d:=by rw [xwu8 (x:=d) (by omega) (by omega),xwu8 (by omega) (by omega)]
  rw [w8,xwu64 (x:=H / 10) (by omega) (by omega),if_pos (by simp only [List.length_singleton]; unfold lim; omega)]
  have heq:Z2 ⟨H / 10,q⟩ ⟨0,0⟩=decide (N<10):=by
   rw [Bool.eq_iff_iff]
   simp only [Z2,Bool.and_true,Bool.and_eq_true,beq_iff_eq,decide_eq_true_eq]
   omega
  rw [heq]
  by_cases h10:N<10
  ·rw [if_pos (decide_eq_true h10),Z4 h10,hdN,Nat.mod_eq_of_lt h10]
   exact⟨_,rfl⟩
  ·rw [if_neg (by simpa using h10)]
   have ok2:Zd ⟨H / 10,q⟩:=⟨by unfold Zq; simp only; omega,by unfold Zq; simp only; omega,trivial⟩
   have hc2:(cnum ⟨H / 10,q⟩:Int)=((N / 10:Nat):Int):=by unfold cnum; exact hqN
   cases k with
   | zero=>omega
   | succ k=>
    have hk2:N / 10<10 ^ (k + 1):=by
     rw [Nat.pow_succ] at hk
     omega
    obtain⟨z,hz⟩:=fmt_L1 k n ⟨H / 10,q⟩ (v6++[48 + d]) ok2 (by rw [hc2,Int.toNat_natCast]; exact hk2) (by omega) (by simp; omega)
    rw [hc2,Int.toNat_natCast] at hz
    refine⟨z,?_⟩
    rw [hz,Zaz h10,List.append_assoc,hdN]
    rfl
theorem Zet {c:Zb} (hc:Zd c):Zv c=some (strOf (dgs (cnum c).toNat).reverse):=by
 have hb:=Za0 hc
 have hp:(cnum c).toNat<10 ^ (38 + 1):=by
  have:(10:Nat) ^ (38 + 1)=1000000000000000000000000000000000000000:=by decide
  omega
 obtain⟨z,hz⟩:=fmt_L1 38 fuel c [] hc hp (by unfold fuel; omega) (by simp)
 rw [List.nil_append] at hz
 have hl:=Zec 38 _ hp
 unfold Zv
 rw [xbd hz]
 simp only
 rw [if_pos (dgs_ne _),xbd (Zf6 (dgs_ne _) (by omega)),if_pos (by simp)]
def vl (L:List Int) (a:Int):Int:=L.foldl (fun a d=>a * 10 + (d - 48)) a
def okD (L:List Int):Prop:=∀ x∈L,48≤x∧x≤57
theorem Zed (x:Int) (L:List Int) (a:Int):vl (x :: L) a=vl L (a * 10 + (x - 48)):=rfl
theorem vl_app (L M:List Int) (a:Int):vl (L++M) a=vl M (vl L a):=by unfold vl; rw [List.foldl_append]
theorem vl_ge:∀(L:List Int) {a:Int},okD L→0≤a→a≤vl L a
 | [],_,_,_=>Int.le_refl _
 | x :: L,a,h,h0=>by
  have hx:=h x (List.mem_cons_self ..)
  have:=vl_ge L (a:=a * 10 + (x - 48)) (fun y hy=>h y (List.mem_cons_of_mem _ hy)) (by omega)
  rw [Zed]
  omega
theorem Zg1 {a b:Zb} (ha:Zd a) (hb:Zd b):∃ r,Z9 a b=some r∧Zd r∧cnum r=(cnum a + cnum b) % 340282366920938463463374607431768211456:=by
 obtain⟨a1,a2⟩:=a
 obtain⟨b1,b2⟩:=b
 obtain⟨h1,h2,_⟩:=ha
 obtain⟨h3,h4,_⟩:=hb
 unfold Zq at h1 h2 h3 h4
 simp only at h1 h2 h3 h4
 unfold Z9
 simp only
 rw [if_pos (by omega),if_pos (by omega)]
 refine⟨_,rfl,⟨?_,?_,trivial⟩,?_⟩
 ·unfold Zq; simp only; omega
 ·unfold Zq; simp only; omega
 ·unfold cnum
  simp only
  omega
theorem Zfe {s:ByteArray} (hs:(bsOf s).length≤9223372036854775807):∀(j i n:Nat) (c:Zb),(bsOf s).length - i=j→i≤(bsOf s).length→j<n→Zd c →
  (okD ((bsOf s).drop i)∧vl ((bsOf s).drop i) (cnum c)<340282366920938463463374607431768211456→∃ r,Ze s n c (i:Int)=some (.inl r)∧Zd r∧cnum r=vl ((bsOf s).drop i) (cnum c)) ∧
  (¬ (okD ((bsOf s).drop i)∧vl ((bsOf s).drop i) (cnum c)<340282366920938463463374607431768211456)→Ze s n c (i:Int)=some (.inr (⟨0,0⟩,false)))
 | j,i,0,c,_,_,h,_=>absurd h (by omega)
 | 0,i,n + 1,c,e,hi,_,hc=>by
  have hd:(bsOf s).drop i=[]:=List.drop_eq_nil_of_le (by omega)
  rw [Ze,if_neg (by rw [← Zay]; simp; omega),hd]
  refine⟨fun _=>⟨c,rfl,hc,rfl⟩,fun h=>?_⟩
  exact absurd ⟨fun _ hx=>(by cases hx),(Za0 hc).2⟩ h
 | j + 1,i,n + 1,c,e,hi,hn,hc=>by
  have hil:i<(bsOf s).length:=by omega
  have hdr:(bsOf s).drop i=(bsOf s)[i] :: (bsOf s).drop (i + 1):=List.drop_eq_getElem_cons hil
  obtain⟨x,hx⟩:∃ x,x=(bsOf s)[i]:=⟨_,rfl⟩
  have hsx:sidx s (i:Int)=some x:=by rw [hx]; exact Zfz hil
  have hx0:0≤x∧x<256:=by
   rw [hx]
   simp only [bsOf,List.getElem_map]
   have:=(s.data.toList[i]'(by simpa [bsOf] using hil)).toNat_lt
   omega
  rw [← hx] at hdr
  rw [hdr,Ze,if_pos (decide_eq_true (by rw [← Zay]; omega)),xbd hsx]
  simp only [Option.bind_some]
  have hcn:=Za0 hc
  by_cases hdig:48≤x∧x≤57
  ·rw [if_neg (by simp; omega),xbd hsx]
   simp only [Option.bind_some]
   rw [if_neg (by simp; omega)]
   obtain⟨r90,t1,t2,t3⟩:=times10 hc
   have w8:IntKind.wrap .u64 (IntKind.wrap .u8 (x - 48))=x - 48:=by rw [xwu8 (by omega) (by omega),xwu64 (by omega) (by omega)]
   have hnum:Z6 (x - 48)=some ⟨0,x - 48⟩:=rfl
   have ok94:Zd ⟨0,x - 48⟩:=⟨by unfold Zq; simp,by unfold Zq; simp only; omega,trivial⟩
   obtain⟨r96,s1,s2,s3⟩:=Zg1 t2 ok94
   have c94:cnum ⟨0,x - 48⟩=x - 48:=by unfold cnum; simp
   rw [c94] at s3
   rw [xbd t1,xbd hsx,w8,xbd hnum,xbd s1]
   simp only [Option.bind_some]
   have n96:=Za0 s2
   have n90:=Za0 t2
   rw [Zgh s2 t2]
   simp only [Option.bind_some]
   rw [Zed]
   by_cases hfit:cnum c * 10 + (x - 48)<340282366920938463463374607431768211456
   ·have h10:cnum c * 10<340282366920938463463374607431768211456:=by omega
    have e90:=t3 h10
    have e96:cnum r96=cnum c * 10 + (x - 48):=by rw [s3,e90]; omega
    have hcmp:decide (cmp3 (cnum r96) (cnum r90)<0)=false:=Zfi (by omega)
    rw [decide_eq_true h10,if_neg (by decide),hcmp]
    simp only [Option.bind_some,Bool.false_eq_true,if_false]
    have hw:IntKind.wrap .i64 ((i:Int) + 1)=((i + 1:Nat):Int):=by rw [xwi (by omega) (by omega)]; omega
    rw [hw]
    obtain⟨g1,g2⟩:=Zfe hs j (i + 1) n r96 (by omega) (by omega) (by omega) s2
    rw [e96] at g1 g2
    refine⟨fun⟨h1,h2⟩=>g1 ⟨fun y hy=>h1 y (List.mem_cons_of_mem _ hy),h2⟩,fun h=>g2 fun⟨h1,h2⟩=>h ⟨fun y hy=>?_,h2⟩⟩
    rcases List.mem_cons.1 hy with rfl | hy
    ·exact hdig
    ·exact h1 y hy
   ·have hno:¬ (okD (x :: (bsOf s).drop (i + 1))∧vl ((bsOf s).drop (i + 1)) (cnum c * 10 + (x - 48))<340282366920938463463374607431768211456):=fun⟨h1,h2⟩=>by
     have:=vl_ge ((bsOf s).drop (i + 1)) (a:=cnum c * 10 + (x - 48)) (fun y hy=>h1 y (List.mem_cons_of_mem _ hy)) (by omega)
     omega
    refine⟨fun h=>absurd h hno,fun _=>?_⟩
    by_cases h10:cnum c * 10<340282366920938463463374607431768211456
    ·have e90:=t3 h10
     have e96:cnum r96=cnum c * 10 + (x - 48) - 340282366920938463463374607431768211456:=by rw [s3,e90]; omega
     have hcmp:decide (cmp3 (cnum r96) (cnum r90)<0)=true:=by
      unfold cmp3
      rw [if_pos (by omega)]
      rfl
     rw [decide_eq_true h10,if_neg (by decide),hcmp]
     rfl
    ·rw [decide_eq_false h10,if_pos (by decide)]
     rfl
  ·have hno:¬ (okD (x :: (bsOf s).drop (i + 1))∧vl (x :: (bsOf s).drop (i + 1)) (cnum c)<340282366920938463463374607431768211456):=fun⟨h1,_⟩=>hdig (h1 x (List.mem_cons_self ..))
   refine⟨fun h=>absurd h hno,fun _=>?_⟩
   by_cases h48:x<48
   ·rw [if_pos (decide_eq_true h48)]
    rfl
   ·rw [if_neg (by simpa using h48),xbd hsx]
    simp only [Option.bind_some]
    rw [if_pos (decide_eq_true (by omega))]
def reads (L:List Int):Prop:=L ≠ []∧(1<L.length→L[0]? ≠ some 48)∧okD L∧vl L 0<340282366920938463463374607431768211456
theorem Zd4 {s:ByteArray} (hs:(bsOf s).length≤9223372036854775807):(reads (bsOf s)→∃ r,Zs s=some (r,true)∧Zd r∧cnum r=vl (bsOf s) 0)∧(¬ reads (bsOf s)→Zs s=some (⟨0,0⟩,false)):=by
 have zok:Zd Zc:=⟨by unfold Zq; decide,by unfold Zq; decide,trivial⟩
 have zc:cnum Zc=0:=rfl
 obtain⟨g1,g2⟩:=Zfe hs _ 0 fuel Zc rfl (by omega) (by unfold fuel; omega) zok
 rw [List.drop_zero,zc] at g1 g2
 unfold Zs
 have hemp:(s.toList == ByteArray.empty.toList)=decide (bsOf s=[]):=by
  rw [Zf0,Bool.eq_iff_iff,decide_eq_true_eq,decide_eq_true_eq]
  constructor
  ·intro h; rw [h]; rfl
  ·intro h
   rw [← Zd3 s,h]; rfl
 rw [hemp]
 simp only [Option.bind_some]
 by_cases hn:bsOf s=[]
 ·rw [if_pos (decide_eq_true hn)]
  simp only [Option.bind_some,if_true]
  exact⟨fun h=>absurd hn h.1,fun _=>by first | rfl | trivial⟩
 ·rw [if_neg (by simpa using hn)]
  have hp:=List.length_pos_iff.2 hn
  by_cases h1:1<(bsOf s).length
  ·rw [if_pos (decide_eq_true (by rw [← Zay]; omega))]
   have h0:sidx s 0=some (bsOf s)[0]:=Zfz (i:=0) hp
   rw [xbd h0]
   have hg:(bsOf s)[0]? = some (bsOf s)[0]:=List.getElem?_eq_getElem hp
   by_cases h48:(bsOf s)[0]=48
   ·rw [h48]
    simp only [Option.bind_some,beq_self_eq_true,if_true]
    exact⟨fun h=>absurd (by rw [hg,h48]) (h.2.1 h1),fun _=>by first | rfl | trivial⟩
   ·have hbf:((bsOf s)[0] == 48)=false:=by simpa using h48
    rw [hbf]
    simp only [Option.bind_some,Bool.false_eq_true,if_false]
    constructor
    ·intro h
     obtain⟨r,q1,q2,q3⟩:=g1 ⟨h.2.2.1,h.2.2.2⟩
     have q1':Ze s fuel Zc 0=some (.inl r):=q1
     exact⟨r,by rw [xbd q1'],q2,q3⟩
    ·intro h
     have q:Ze s fuel Zc 0=some (.inr (⟨0,0⟩,false)):=g2 fun⟨a,b⟩=>h ⟨hn,fun _=>by rw [hg]; simpa using h48,a,b⟩
     rw [xbd q]
  ·rw [if_neg (by rw [← Zay]; simp; omega)]
   simp only [Option.bind_some,Bool.false_eq_true,if_false]
   constructor
   ·intro h
    obtain⟨r,q1,q2,q3⟩:=g1 ⟨h.2.2.1,h.2.2.2⟩
    have q1':Ze s fuel Zc 0=some (.inl r):=q1
    exact⟨r,by rw [xbd q1'],q2,q3⟩
   ·intro h
    have q:Ze s fuel Zc 0=some (.inr (⟨0,0⟩,false)):=g2 fun⟨a,b⟩=>h ⟨hn,fun h2=>absurd h2 h1,a,b⟩
    rw [xbd q]
end Go.AM
set_option maxRecDepth 100000
namespace Go.AM
open Go
theorem vl_dgs (n:Nat):vl (dgs n).reverse 0=(n:Int):=by
 induction n using Nat.strongRecOn with
 | _ n ih=>
  by_cases h:n<10
  ·rw [Z4 h]
   show (0:Int) * 10 + (48 + (n:Int) - 48)=n
   omega
  ·rw [Zaz h,List.reverse_cons,vl_app,ih (n / 10) (by omega)]
   show ((n / 10:Nat):Int) * 10 + (48 + ((n % 10:Nat):Int) - 48)=n
   omega
theorem Zgq (n:Nat) (h:0<n):(dgs n).getLast? ≠ some 48:=by
 induction n using Nat.strongRecOn with
 | _ n ih=>
  by_cases h10:n<10
  ·rw [Z4 h10]
   simp
   omega
  ·rw [Zaz h10,List.getLast?_cons]
   have h2:=ih (n / 10) (by omega) (by omega)
   cases hl:(dgs (n / 10)).getLast? with
   | none=>exact absurd (List.getLast?_eq_none_iff.1 hl) (dgs_ne _)
   | some x=>
    rw [hl] at h2
    simpa using h2
theorem Zgi {n:Nat} (hn:(n:Int)<340282366920938463463374607431768211456):reads (dgs n).reverse:=by
 refine⟨by simpa using dgs_ne n,fun h1=>?_,fun x hx=>Zes n x (List.mem_reverse.1 hx),by rw [vl_dgs]; exact hn⟩
 have h2:=Zgq n (by
  rcases Nat.eq_zero_or_pos n with h0 | h0
  ·subst h0
   rw [Z4 (by omega)] at h1
   simp at h1
  ·exact h0)
 rw [List.getElem?_reverse (by rw [List.length_reverse] at h1; omega),Nat.sub_zero,← List.getLast?_eq_getElem?]
 exact h2
theorem vl_pos {L:List Int} (h:okD L) (hne:L ≠ []) (h0:L[0]? ≠ some 48):0<vl L 0:=by
 cases L with
 | nil=>exact absurd rfl hne
 | cons x L=>
  have hx:=h x (List.mem_cons_self ..)
  have hx48:x ≠ 48:=fun e=>h0 (by simp [e])
  have:=vl_ge L (a:=0 * 10 + (x - 48)) (fun y hy=>h y (List.mem_cons_of_mem _ hy)) (by omega)
  rw [Zed]
  omega
theorem dgs_vl:∀(k:Nat) (L:List Int),L.length=k→L ≠ []→(1<L.length→L[0]? ≠ some 48)→okD L→(dgs (vl L 0).toNat).reverse=L
 | k,L,hk,hne,hz,hok=>by
  obtain⟨M,d,rfl⟩:∃ M d,L=M++[d]:=⟨L.dropLast,L.getLast hne,(List.dropLast_concat_getLast hne).symm⟩
  have hd:=hok d (by simp)
  have hM:okD M:=fun x hx=>hok x (by simp [hx])
  rw [vl_app]
  show (dgs (vl M 0 * 10 + (d - 48)).toNat).reverse=_
  have h0:=vl_ge M hM (Int.le_refl 0)
  by_cases hMe:M=[]
  ·subst hMe
   have e:(vl [] 0 * 10 + (d - 48)).toNat<10:=by
    show ((0:Int) * 10 + (d - 48)).toNat<10
    omega
   rw [Z4 e]
   show [48 + ((((0:Int) * 10 + (d - 48)).toNat:Nat):Int)]=[d]
   congr 1
   omega
  ·have hMl:=List.length_pos_iff.2 hMe
   have hz':M[0]? ≠ some 48:=by
    have:=hz (by simp; omega)
    rwa [List.getElem?_append_left hMl] at this
   have hp:=vl_pos hM hMe hz'
   obtain⟨v,hv⟩:∃ v:Nat,vl M 0=v:=⟨(vl M 0).toNat,by omega⟩
   have hb:¬ (vl M 0 * 10 + (d - 48)).toNat<10:=by omega
   rw [Zaz hb,List.reverse_cons]
   have e1:(vl M 0 * 10 + (d - 48)).toNat / 10=(vl M 0).toNat:=by omega
   have e2:(48:Int) + (((vl M 0 * 10 + (d - 48)).toNat % 10:Nat):Int)=d:=by omega
   have hlt:M.length<k:=by rw [← hk]; simp
   rw [e1,e2,dgs_vl M.length M rfl hMe (fun _=>hz') hM]
termination_by k=>k
theorem Zg2 {a b:Zb} (ha:Zd a) (hb:Zd b) (h:cnum a=cnum b):a=b:=by
 obtain⟨a1,a2⟩:=a
 obtain⟨b1,b2⟩:=b
 obtain⟨h1,h2,_⟩:=ha
 obtain⟨h3,h4,_⟩:=hb
 unfold Zq at h1 h2 h3 h4
 unfold cnum at h
 simp only at *
 congr 1 <;> omega
theorem Zf1 (a:Zb):Z2 a a=true:=by
 obtain⟨a1,a2⟩:=a
 simp [Z2]
theorem Zco (n:Nat):bsOf (strOf (dgs n).reverse)=(dgs n).reverse:=Zf5 fun x hx=>by
 have:=Zes n x (List.mem_reverse.1 hx)
 omega
theorem Zcp {a:Zb} {s:ByteArray} (ha:Zd a) (hs:Ze1 s):Zx a s=some true:=by
 have hsane:Zax=some true:=rfl
 have hb:=Za0 ha
 unfold Zx
 rw [xbd (Zet ha)]
 obtain⟨N,hN⟩:∃ N:Nat,cnum a=N:=⟨(cnum a).toNat,by omega⟩
 rw [hN,Int.toNat_natCast]
 have hl:=Zec 38 N (by
  have:(10:Nat) ^ (38 + 1)=1000000000000000000000000000000000000000:=by decide
  omega)
 have hp:=(Zd4 (s:=strOf (dgs N).reverse) (by rw [Zco,List.length_reverse]; omega)).1 (by rw [Zco]; exact Zgi (by omega))
 obtain⟨r,p1,p2,p3⟩:=hp
 rw [Zco,vl_dgs] at p3
 have hra:r=a:=Zg2 p2 ha (by rw [p3,hN])
 subst hra
 rw [xbd p1]
 have hsl:(bsOf s).length≤9223372036854775807:=by
  unfold Ze1 at hs
  rw [Zay]
  exact hs
 obtain⟨q1,q2⟩:=Zd4 hsl
 ·by_cases hr:reads (bsOf s)
  ·obtain⟨c,c1,c2,c3⟩:=q1 hr
   rw [xbd c1]
   simp only [Option.bind_some,Zf1,Bool.and_self,if_true,Bool.not_true,Bool.false_eq_true,if_false]
   rw [xbd (Zet c2),c3,dgs_vl _ _ rfl hr.1 hr.2.1 hr.2.2.1,Zd3,Zf0]
   simp only [Option.bind_some,decide_true,if_true,hsane]
  ·rw [xbd (q2 hr)]
   simp only [Option.bind_some,Zf1,Bool.and_self,if_true,Bool.not_false,hsane]
end Go.AM

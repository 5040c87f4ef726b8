/- Parts of a proof, printed short. No condition. -/
import Derived.Laws.Strings
import Derived.Test.YtibpgdnenoehfaaGreatDoorDQ13
set_option maxRecDepth 100000
set_option linter.all false
namespace Go.AM
noncomputable section
open Go
open Go.IntKind(wrap)
def SB (x:Option Bool) (P:Prop):Prop:=∃ r,x=some r∧(r=true↔P)
def SB.same {x y:Option Bool} {P Q:Prop} (h1:SB x P) (h2:SB y Q) (h:P↔Q):x=y:=by
 obtain⟨r,e,hr⟩:=h1;obtain⟨s,f,hs⟩:=h2
 grind
def SB.iff {x:Option Bool} {P Q:Prop} (h:SB x P) (k:P↔Q):SB x Q:=by
 grind
def SB.of {x:Option Bool} {b:Bool} {P:Prop} (h:x=some b) (k:b=true↔P):SB x P:=⟨b,h,k⟩
def Ck (a:Option Yb) (P:Prop):Prop:=(a=some (.inl ())∧P)∨(a=some (.inr false)∧¬P)
def Ck.sb {a:Option Yb} {P:Prop} (h:Ck a P):SB (a.bind λo=>match o with|.inl ()=>some true|.inr r=>some r) P:=by
 rcases h with⟨e,h⟩|⟨e,h⟩
 rw[e];exact⟨true,rfl,gD⟩;rw[e];exact⟨false,rfl,gD⟩
def Wfs:=@Ck.sb
def Ck.seq {a:Option Yb} {P Q:Prop} {x:Option Bool} (h:Ck a P) (k:P→SB x Q):SB (a.bind λo=>match o with|.inl ()=>x|.inr r=>some r) (P∧Q):=by
 rcases h with⟨e,h⟩|⟨e,h⟩
 obtain⟨r,e2,hr⟩:=k h;rw[e];exact⟨r,e2,gD⟩;rw[e];exact⟨false,rfl,gD⟩
def Stp (a b:Option Yb) (g:Prop):Prop:=(g→a=b)∧(¬g→a=some (.inr false))
def LKp {L:Nat→Int→Option Yb} {m:Int} {good:Int→Prop} (h0:0≤m) (hm:m≤1000000000000) (step:∀ n i,0≤i→i<m→Stp (L (n+1) i) (L n (i+1)) (good i)) (stop:∀ n,L (n+1) m=some (.inl ())):Ck (L fuel 0) (∀ i,0≤i→i<m→good i):=by
 have hf:=Z8
 have key:∀ n i,0≤i→i≤m→(m-i).toNat<n→Ck (L n i) (∀ j,i≤j→j<m→good j):=by
  intro n
  induction n with
  |zero=>omega
  |succ n ih=>
   intro i a b c
   by_cases h:i<m
   have s:=step n i a h
   by_cases g:good i
   rw[s.1 g]
   rcases ih (i+1) om om om with⟨e,k⟩|⟨e,k⟩
   exact .inl ⟨e,λj hj hjm=>if hji:j=i then hji▸g else k j om hjm⟩;exact .inr ⟨e,λq=>k λj hj hjm=>q j om hjm⟩;exact .inr ⟨s.2 g,λq=>g (q i om h)⟩
   have:i=m:=om
   subst this;exact .inl ⟨stop n,λj hj hjm=>om⟩
 grind
def Stp.ite {b:Option Yb} {c:Bool} {g:Prop} (h:c=true↔¬g):Stp (if c=true then some (.inr false)else b) b g:=by
 constructor;intro hg;rw[if_neg λhc=>h.1 hc hg]
 grind
def Wa1:=@Stp.ite
def Stp.two {a b:Option Yb} {c:Bool} {g P:Prop} (h:c=true↔¬g) (k:g→Ck a P):Stp (if c=true then some (.inr false)else a.bind λo=>match o with|.inl ()=>b|.inr r=>some (.inr r)) b (g∧P):=by
 constructor;rintro⟨hg,hp⟩;rw[if_neg λhc=>h.1 hc hg]
 rcases k hg with⟨e,_⟩|⟨_,q⟩
 rw[e];rfl;exact absurd hp q;intro hn
 by_cases hg:g
 rw[if_neg λhc=>h.1 hc hg]
 rcases k hg with⟨_,q⟩|⟨e,_⟩
 exact absurd ⟨hg,q⟩ hn;rw[e];rfl
 grind
def Stp.one {a b:Option Yb} {P:Prop} (k:Ck a P):Stp (a.bind λo=>match o with|.inl ()=>b|.inr r=>some (.inr r)) b P:=by
 rcases k with⟨e,q⟩|⟨e,q⟩
 exact⟨λ_=>gD,λh=>absurd q h⟩;exact⟨λh=>absurd h q,λ_=>gD⟩
def Wgv:=@Stp.one
def Zakp {s:ByteArray} {i:Int} (h0:0≤i) (h1:i<s.size):∃ x,sidx s i=some x:=by
 have hi:i.toNat<s.size:=om
 exact⟨(s[i.toNat]'hi).toNat,by simp[sidx,h0,h1]⟩
def ch (s:ByteArray) (i:Int):Int:=(sidx s i).getD 0
def ch_eq {s:ByteArray} {i:Int} (h0:0≤i) (h1:i<s.size):sidx s i=some (ch s i):=by
 obtain⟨x,h⟩:=Zakp h0 h1;unfold ch;grind
def lowc (c:Int):Prop:=97≤c∧c≤122
def othc (c:Int):Prop:=(48≤c∧c≤57)∨c=45∨c=95
structure Vn (s:ByteArray):Prop where
 n0:1≤s.size
 n1:s.size≤24
 any:(s.toList==(⟨#[97,110,121]⟩:ByteArray).toList)=false
 c:∀ i:Int,0≤i→i<s.size→lowc (ch s i)∨(othc (ch s i)∧i≠0)
def Zwi {s:ByteArray}:(s.toList==ByteArray.empty.toList)=true↔s.size=0:=by
 rw[Wcr,ByteArray.toList_eq,ByteArray.toList_eq]
 have e:∀ s:ByteArray,s.data.toList.length=s.size:=λs=>by rfl
 constructor;intro h;have:=congrArg List.length h;exact this;simp_all
def ifand {b:Bool} {x:Option Bool} {c:Bool} (h:x=some c):(if b=true then x else some false)=some (b&&c):=gD
def ifor {b:Bool} {x:Option Bool} {c:Bool} (h:x=some c):(if b=true then some true else x)=some (b||c):=gD
def pVn {s:ByteArray}:SB (Zb1 s) (Vn s):=by
 unfold Zb1;simp only[Wc]
 by_cases h0:(s.toList==ByteArray.empty.toList)=true
 have:=Zwi.1 h0;rw[h0];exact⟨false,rfl,by simp;intro h;have:=h.n0;omega⟩
 have hs:s.size≠0:=λh=>h0 (Zwi.2 h)
 rw[Wda]at h0;rw[h0];simp only[Wdw]
 by_cases h1:(s.size:Int)>24
 rw[Wf h1];exact⟨false,rfl,by simp;intro h;have:=h.n1;omega⟩;rw[Wr h1];simp only[Wdw]
 cases ha:(s.toList==(⟨#[97,110,121]⟩:ByteArray).toList)with
 |true=>
  simp only[if_true,Wc];exact⟨false,rfl,by simp;intro h;have:=h.any;rw[ha]at this;cases this⟩
 |false=>
  rw[ch_eq (i:=0) om om];simp only[Wc,Waa,if_false]
  by_cases hl:lowc (ch s 0)
  have hl':=hl
  unfold lowc at hl'
  rw[Wr (show ¬ch s 0<97 by omega),Wr (show ¬ch s 0>122 by omega)]
  refine(Wfs (P:=∀ i:Int,0≤i→i<s.size→lowc (ch s i)∨othc (ch s i)) (LKp om om (λn i i0 i1=>?_) λn=>?_)).iff ?_
  rw[Zjg,if_pos (Wf i1),wi (i+1) om om,ch_eq i0 i1];simp only[Wc,ifand rfl]
  refine Wa1 ?_
  unfold lowc othc
  by_cases a1:ch s i≥97<;>by_cases a2:ch s i≤122<;>by_cases a3:ch s i≥48<;>by_cases a4:ch s i≤57<;>by_cases a5:ch s i=45<;>by_cases a6:ch s i=95<;>simp[a1,a2,a3,a4,a5,a6]<;>omega
  rw[Zjg,if_neg sM];constructor;intro h
  refine⟨om,om,ha,λi i0 i1=>?_⟩
  rcases h i i0 i1 with q|q
  exact .inl q
  by_cases e:i=0
  subst e;exact .inl hl;exact .inr ⟨q,e⟩;intro h i i0 i1
  exact(h.c i i0 i1).imp id λq=>q.1
  have hn:¬Vn s:=λh=>(h.c 0 om (by have:=h.n0;omega)).elim hl λq=>q.2 rfl
  unfold lowc at hl
  by_cases hlt:ch s 0<97
  rw[Wf hlt];simp only[if_true,Wc];exact⟨false,rfl,by simp[hn]⟩;rw[Wr hlt];rw[Wf (show ch s 0>122 by omega)];exact⟨false,rfl,by simp[hn]⟩
def rVn {s:ByteArray}:SB (Zad s) (Vn s):=by
 unfold Zad;simp only[Wc]
 by_cases h0:(s.toList==ByteArray.empty.toList)=true
 have:=Zwi.1 h0;rw[h0];exact⟨false,rfl,by simp;intro h;have:=h.n0;omega⟩
 have hs:s.size≠0:=λh=>h0 (Zwi.2 h)
 rw[Wda]at h0;rw[h0]
 by_cases h1:(s.size:Int)>24
 rw[Wf h1];exact⟨false,rfl,by simp;intro h;have:=h.n1;omega⟩;rw[Wr h1];simp only[Wdw]
 cases ha:(s.toList==(⟨#[97,110,121]⟩:ByteArray).toList)with
 |true=>
  exact⟨false,rfl,by simp;intro h;have:=h.any;rw[ha]at this;cases this⟩
 |false=>
  refine(Wfs (P:=∀ i:Int,0≤i→i<s.size→lowc (ch s i)∨(othc (ch s i)∧i≠0)) (LKp om om (λn i i0 i1=>?_) λn=>?_)).iff ⟨λh=>⟨om,om,ha,h⟩,λh=>h.c⟩
  rw[Zdb,if_pos (Wf i1),wi (i+1) om om,ch_eq i0 i1];simp only[Wc,ifand rfl,ifor rfl]
  refine Wa1 ?_
  unfold lowc othc
  by_cases a1:ch s i≥97<;>by_cases a2:ch s i≤122<;>by_cases a3:ch s i≥48<;>by_cases a4:ch s i≤57<;>by_cases a5:ch s i=45<;>by_cases a6:ch s i=95<;>by_cases a7:i=0<;>simp <;>omega
  rw[Zdb,if_neg sM]
def Zakq (s:ByteArray):Zb1 s=Zad s:=SB.same pVn rVn Wc6
def vnB (s:ByteArray):Bool:=(Zad s).getD false
def rvn_eq (s:ByteArray):Zad s=some (vnB s):=by
 obtain⟨r,e,_⟩:=@rVn s;unfold vnB;grind
def pvn_eq (s:ByteArray):Zb1 s=some (vnB s):=(Zakq s).trans (rvn_eq s)
def nI {α:Type} (p:α→Bool) (l:List α):Int:=orN (findI (λi x=>if p x=true then some (i:Int)else none) 0 l)
def idxF {α:Type} {L:Nat→Int→Option Yf} (l:List α) (p:α→Bool) (hl:l.length≤1000000000000) (step:∀ n (i:Nat) h,L (n+1) i=if p l[i]=true then some (.inr i)else L n (i+1:Nat)) (stop:∀ n,L (n+1) l.length=some (.inl ())):((L fuel 0).bind λo=>match o with|.inl ()=>some (-1)|.inr r=>some r)=some (nI p l):=by
 rw[Zpd (L:=L) l (λi x=>if p x=true then some i else none) hl gD stop];unfold nI;cases findI (λi x=>if p x=true then some (i:Int)else none) 0 l<;>rfl
def Z8y {α:Type} (p:α→Bool):∀ l i,orN (findI (λi x=>if p x=true then some i else none) i l)≥0↔l.any p=true
 |[],i=>by simp[findI,orN]
 |x::l,i=>by
  simp  [findI,List.any_cons]
  by_cases h:p x=true
  rw[h];simp[orN];rw[Bool.eq_false_iff.2 h];simpa using Z8y p l (i+1)
def nI_any {α:Type} (p:α→Bool) (l:List α):decide (nI p l≥0)=l.any p:=by
 rw[Wbm,W2];exact Z8y p l 0
def anyF {α:Type} {L:Nat→Int→Option Yb} (l:List α) (p:α→Bool) (hl:l.length≤1000000000000) (step:∀ n (i:Nat) h,L (n+1) i=if p l[i]=true then some (.inr true)else L n (i+1:Nat)) (stop:∀ n,L (n+1) l.length=some (.inl ())):((L fuel 0).bind λo=>match o with|.inl ()=>some false|.inr r=>some r)=some (l.any p):=by
 rw[Zpd (L:=L) l (λ_ x=>if p x=true then some true else none) hl gD stop]
 have key:∀ l i,findI (λ_ x=>if p x=true then some true else none) i l=if l.any p=true then some true else none:=by
  intro l
  induction l with
  |nil=>intro i;rfl
  |cons x l ih=>
   intro i
   by_cases hx:p x=true
   simp[findI,hx];simp[findI,hx,ih (i+1)]
 rw[key];cases l.any p<;>rfl
def nm (f:ByteArray) (s:ByteArray):Bool:=f.toList==s.toList
def dI (l:List Z5) (s:ByteArray):Int:=nI (λd=>nm d.Name s) l
def eI (l:List Z1) (s:ByteArray):Int:=nI (λd=>nm d.Name s) l
def Zakr {t:Zb} (hl:t.Devices.length≤1000000000000) (s:ByteArray):Zew t s=some (dI t.Devices s):=idxF t.Devices _ hl (λn i hi=>by rw[Zct,if_pos gD,Zat hi,wsucc om];rfl) λn=>by rw[Zct,if_neg sM]
def Zaks {t:Zb} (hl:t.Devices.length≤1000000000000) (s:ByteArray):Zr6 t s=some (dI t.Devices s):=congrArg (λx=>x.bind λr1=>some r1) (idxF (L:=Za3 t.Devices s) t.Devices (λd=>nm d.Name s) hl (λn i hi=>by rw[Za3,if_pos gD,Zat hi,wsucc om];rfl) λn=>by rw[Za3,if_neg sM])
def Zai3 {t:Zb} (hl:t.Edges.length≤1000000000000) (s:ByteArray):Zcc t s=some (eI t.Edges s):=idxF t.Edges _ hl (λn i hi=>by rw[Zc9,if_pos gD,Zat hi,wsucc om];rfl) λn=>by rw[Zc9,if_neg sM]
def Zai4 {t:Zb} (hl:t.Edges.length≤1000000000000) (s:ByteArray):Ztx t s=some (eI t.Edges s):=congrArg (λx=>x.bind λr1=>some r1) (idxF (L:=Zbe t.Edges s) t.Edges (λd=>nm d.Name s) hl (λn i hi=>by rw[Zbe,if_pos gD,Zat hi,wsucc om];rfl) λn=>by rw[Zbe,if_neg sM])
structure TIn (t:Zb):Prop where
 d:t.Devices.length≤1000000000000
 k:t.Links.length≤1000000000000
 e:t.Edges.length≤1000000000000
 p:t.Pools.length≤1000000000000
 ea:∀ x∈t.Edges,Zbf x.Prefix.Addr
 pa:∀ x∈t.Pools,Zbf x.Addr
def dvB (d:Z5):Bool:=vnB d.Name&&decide (d.Capacity≥0)&&decide (d.Capacity≤4096)&&(d.Class.toList==ByteArray.empty.toList||vnB d.Class)
def pdv_eq (d:Z5):Zh9 d=some (dvB d):=by
 unfold Zh9 dvB;rw[pvn_eq,pvn_eq]
 grind
def lkB (n:Nat) (l:Zah):Bool:=decide (l.A<0)||decide (l.B≤l.A)||decide (l.B≥(n:Int))||decide (l.Cost<1)||decide (l.Cost>1000)
def egB (n:Nat) (e:Z1):Bool:=vnB e.Name&&vnB e.Zone&&decide (0≤e.Device)&&decide (e.Device<n)&&decide (1≤e.Prefix.Bits)&&pvB e.Prefix&&(!e.Planned||e.Prefix.Addr==0)
def peg_eq {t:Zb} {e:Z1} (h:Zbf e.Prefix.Addr):Zkp t e=some (egB t.Devices.length e):=by
 unfold Zkp egB;rw[pvn_eq,pvn_eq,Zwm h];rw[show decide (e.Prefix.Bits>0)=decide (1≤e.Prefix.Bits)from by grind];cases vnB e.Name<;>cases vnB e.Zone<;>cases decide (0≤e.Device)<;>cases decide (e.Device<t.Devices.length)<;>cases decide (1≤e.Prefix.Bits)<;>cases pvB e.Prefix<;>simp
def reg_eq {n:Nat} {e:Z1} (h:Zbf e.Prefix.Addr):Zde e n=some (egB n e):=by
 unfold Zde egB;rw[rvn_eq,rvn_eq,Z09 h];simp
 grind
structure Tv (t:Zb):Prop where
 d0:1≤t.Devices.length
 d1:t.Devices.length≤12
 k1:t.Links.length≤24
 e1:t.Edges.length≤12
 p1:t.Pools.length≤8
 t0:0≤t.Tolerate
 t1:t.Tolerate≤2
 dv:∀ i:Int,0≤i→i<t.Devices.length→∀ d,idx t.Devices i=some d→dvB d=true∧dI t.Devices d.Name=i
 lk:∀ i:Int,0≤i→i<t.Links.length→∀ l,idx t.Links i=some l→lkB t.Devices.length l=false
 eg:∀ i:Int,0≤i→i<t.Edges.length→∀ e,idx t.Edges i=some e→egB t.Devices.length e=true∧eI t.Edges e.Name=i
 ov:t.Edges.Pairwise λa b=>a.Planned=false→b.Planned=false→meB b.Prefix a.Prefix=false
 pl:∀ i:Int,0≤i→i<t.Pools.length→∀ p,idx t.Pools i=some p→pvB p=true∧((t.Pools.take i.toNat).any λq=>meB p q)=false
def Zwn {α:Type} {l:List α} {i:Int} {x:α} (h:idx l i=some x):x∈l:=by
 unfold idx at h
 grind
def Zai5 (t:Zb) (hl:t.Links.length≤1000000000000):Ck (Zch t fuel 0) (∀ i:Int,0≤i→i<t.Links.length→∀ l,idx t.Links i=some l→lkB t.Devices.length l=false):=by
 refine LKp om om (λn i i0 i1=>?_) λn=>?_
 rw[Zch,if_pos (Wf i1),wi (i+1) om om,idx_of i0 i1]
 refine Wa1 (g:=∀ l,some (t.Links[i.toNat]'om)=some l→lkB t.Devices.length l=false) ?_
 simp[lkB];omega;rw[Zch,if_neg sM]
def Zahz (t:Zb) (hl:t.Links.length≤1000000000000):Ck (Zhs t fuel 0) (∀ i:Int,0≤i→i<t.Links.length→∀ l,idx t.Links i=some l→lkB t.Devices.length l=false):=by
 refine LKp om om (λn i i0 i1=>?_) λn=>?_
 rw[Zhs,if_pos (Wf i1),wi (i+1) om om,idx_of i0 i1]
 refine Wa1 (g:=∀ l,some (t.Links[i.toNat]'om)=some l→lkB t.Devices.length l=false) ?_
 simp[lkB];omega;rw[Zhs,if_neg sM]
def Zakt (l:List Z5) (hl:l.length≤1000000000000):Ck (Zbs l fuel 0) (∀ i:Int,0≤i→i<l.length→∀ d,idx l i=some d→dvB d=true∧dI l d.Name=i):=by
 refine LKp om om (λn i i0 i1=>?_) λn=>?_
 rw[Zbs,if_pos (Wf i1),wi (i+1) om om,idx_of i0 i1];simp only[Wc];rw[rvn_eq,rvn_eq,Zakr hl];simp only[Wc,ifor rfl,ifand rfl]
 refine Wa1 (g:=∀ d,some (l[i.toNat]'om)=some d→dvB d=true∧dI l d.Name=i) ?_
 generalize l[i.toNat]'om=d;simp only[Wn,forall_eq',dvB]
 by_cases hi:dI l d.Name=i
 rw[show decide (d.Capacity<0)=!decide (d.Capacity≥0)from by grind,show decide (d.Capacity>4096)=!decide (d.Capacity≤4096)from by grind];cases vnB d.Name<;>cases decide (d.Capacity≥0)<;>cases decide (d.Capacity≤4096)<;>cases(d.Class.toList==ByteArray.empty.toList)<;>cases vnB d.Class<;>simp;simp[hi];rw[Zbs,if_neg sM]
def Zaku (t:Zb) (hl:t.Devices.length≤1000000000000):Ck (Zhr t fuel 0) (∀ i:Int,0≤i→i<t.Devices.length→∀ d,idx t.Devices i=some d→dvB d=true∧dI t.Devices d.Name=i):=by
 refine LKp om om (λn i i0 i1=>?_) λn=>?_
 rw[Zhr,if_pos (Wf i1),wi (i+1) om om,idx_of i0 i1];simp only[Wc];rw[pdv_eq,Zaks hl];simp only[Wc,ifor rfl]
 refine Wa1 (g:=∀ d,some (t.Devices[i.toNat]'om)=some d→dvB d=true∧dI t.Devices d.Name=i) ?_
 generalize t.Devices[i.toNat]'om=d;simp;cases dvB d<;>simp;rw[Zhr,if_neg sM]
def Zai6 (t:Zb) (ht:TIn t):Ck (Zci t fuel 0) (∀ i:Int,0≤i→i<t.Edges.length→∀ e,idx t.Edges i=some e→egB t.Devices.length e=true∧eI t.Edges e.Name=i):=by
 have hl:=ht.e
 refine LKp om om (λn i i0 i1=>?_) λn=>?_
 rw[Zci,if_pos (Wf i1),wi (i+1) om om,idx_of i0 i1];simp only[Wc];rw[reg_eq (ht.ea _ (Wu (show i.toNat<t.Edges.length by omega))),Zai3 hl];simp only[Wc,ifor rfl]
 refine Wa1 (g:=∀ e,some (t.Edges[i.toNat]'om)=some e→egB t.Devices.length e=true∧eI t.Edges e.Name=i) ?_
 generalize t.Edges[i.toNat]'om=e;simp;cases egB t.Devices.length e<;>simp;rw[Zci,if_neg sM]
def Zado (p:Zl) (l:List Zl) (hp:Zbf p.Addr) (h:∀ x∈l,Zbf x.Addr) (hl:l.length≤1000000000000):Zh2 p l=some (l.any λq=>meB p q):=anyF l _ hl (λn i hi=>by rw[Ze5,if_pos gD,Zat hi,wsucc om];simp  [Wc,Zaim hp (h _ (Wu hi))]) λn=>by rw[Ze5,if_neg sM]
def Zah0 (p:Zl) (l:List Zl) (hp:Zbf p.Addr) (h:∀ x∈l,Zbf x.Addr) (hl:l.length≤1000000000000):Zb2 l p=some (l.any λq=>meB p q):=(congrArg (λx=>x.bind λr1=>some (decide (r1≥0))) (idxF (L:=Za6 l p) l (λq=>meB p q) hl (λn i hi=>by rw[Za6,if_pos gD,Zat hi,wsucc om];unfold Zrb;simp  [Wc,Zacx hp (h _ (Wu hi))]) λn=>by rw[Za6,if_neg sM])).trans (congrArg some (nI_any _ _))
def Zai7 (t:Zb) (ht:TIn t):Ck (Zc0 t fuel 0) (∀ i:Int,0≤i→i<t.Pools.length→∀ p,idx t.Pools i=some p→pvB p=true∧((t.Pools.take i.toNat).any λq=>meB p q)=false):=by
 have hl:=ht.p
 refine LKp om om (λn i i0 i1=>?_) λn=>?_
 rw[Zc0,if_pos (Wf i1),wi (i+1) om om,idx_of i0 i1];have ha:=ht.pa _ (Wu (show i.toNat<t.Pools.length by omega));simp only[Wc];rw[Z09 ha,if_pos gD,Zado _ _ ha (λx hx=>ht.pa x gD) gD];simp only[Wc,ifor rfl]
 refine Wa1 (g:=∀ p,some (t.Pools[i.toNat]'om)=some p→pvB p=true∧((t.Pools.take i.toNat).any λq=>meB p q)=false) ?_
 generalize t.Pools[i.toNat]'om=p;simp;cases pvB p<;>simp;rw[Zc0,if_neg sM]
def Zai8 (t:Zb) (ht:TIn t):Ck (Zhu t fuel 0) (∀ i:Int,0≤i→i<t.Pools.length→∀ p,idx t.Pools i=some p→pvB p=true∧((t.Pools.take i.toNat).any λq=>meB p q)=false):=by
 have hl:=ht.p
 refine LKp om om (λn i i0 i1=>?_) λn=>?_
 rw[Zhu,if_pos (Wf i1),wi (i+1) om om,idx_of i0 i1];have ha:=ht.pa _ (Wu (show i.toNat<t.Pools.length by omega));simp only[Wc];rw[Zwm ha,if_pos gD,Zah0 _ _ ha (λx hx=>ht.pa x gD) gD];simp only[Wc,ifor rfl]
 refine Wa1 (g:=∀ p,some (t.Pools[i.toNat]'om)=some p→pvB p=true∧((t.Pools.take i.toNat).any λq=>meB p q)=false) ?_
 generalize t.Pools[i.toNat]'om=p;simp;cases pvB p<;>simp;rw[Zhu,if_neg sM]
def Fix_eq {t:Zb} (hl:t.Edges.length≤2000000000):Zdf t=some ((t.Edges.filter λe=>!e.Planned).map (·.Prefix)):=by
 have hlim:=lim_eq;unfold Zdf
 have:=Zto (L:=Zcg t) t.Edges (λs _ e=>if(!e.Planned)=true then s++[e.Prefix]else s) id (λi s=>s.length≤i) om (λn s i hi hs=>by
  rw[Zcg,Zat hi,wsucc om];simp
  grind) (λn s hs=>by rw[Zcg,if_neg sM];rfl) [] sM
 rw[this.1]
 have key:∀(l:List Z1) acc i,foldI (λs _ e=>if(!e.Planned)=true then s++[e.Prefix]else s) acc i l=acc++(l.filter λe=>!e.Planned).map (·.Prefix):=by
  intro l
  induction l with
  |nil=>simp[foldI]
  |cons x l ih=>
   simp  [foldI]
   grind
 grind
def Wc4:=@List.any_eq_false
def Wha:=@List.mem_take_iff_getElem
def Zah1 (l:List Zl) (h:∀ x∈l,Zbf x.Addr) (hl:l.length≤1000000000000):Ck (Zcj l fuel 0) (l.Pairwise λa b=>meB b a=false):=by
 have key:(∀ i:Int,0≤i→i<l.length→∀ p,idx l i=some p→((l.take i.toNat).any λq=>meB p q)=false)↔l.Pairwise λa b=>meB b a=false:=by
  rw[Was];constructor;intro h i j hi hj hij;have g:=h j om om l[j] (Zat hj);rw[Wc4]at g;have:=g l[i] (Wha.2 ⟨i,gD,rfl⟩)
  simpa using this
  intro h i i0 i1 p hp;rw[idx_of i0 i1]at hp;rw[Wc4];intro q hq;obtain⟨k,hk,rfl⟩:=Wha.1 hq
  grind
 have c:Ck (Zcj l fuel 0) (∀ i:Int,0≤i→i<l.length→∀ p,idx l i=some p→((l.take i.toNat).any λq=>meB p q)=false):=by
  refine LKp om om (λn i i0 i1=>?_) λn=>?_
  rw[Zcj,if_pos (Wf i1),wi (i+1) om om,idx_of i0 i1];simp only[Wc];rw[if_pos om,Zado _ _ gD gD gD]
  refine Wa1 (g:=∀ p,some (l[i.toNat]'om)=some p→((l.take i.toNat).any λq=>meB p q)=false) ?_
  generalize l[i.toNat]'om=p;simp only[Wn,forall_eq'];show((l.take i.toNat).any λq=>meB p q)=true↔_;cases((l.take i.toNat).any λq=>meB p q)<;>simp;rw[Zcj,if_neg sM]
 grind
def rTv {t:Zb} (ht:TIn t):SB (Zcx t) (Tv t):=by
 unfold Zcx
 have hd:SB (Zcm t.Devices) (1≤t.Devices.length∧t.Devices.length≤12∧∀ i:Int,0≤i→i<t.Devices.length→∀ d,idx t.Devices i=some d→dvB d=true∧dI t.Devices d.Name=i):=by
  unfold Zcm
  by_cases h1:(t.Devices.length:Int)<1
  rw[Wf h1];exact⟨false,rfl,gD⟩
  by_cases h2:(t.Devices.length:Int)>12
  rw[Wf h2];exact⟨false,sM,gD⟩;rw[Wr h1,Wr h2];exact(Zakt t.Devices ht.d).sb.iff ⟨λh=>⟨om,om,h⟩,λh=>h.2.2⟩
 obtain⟨r,e,hr⟩:=hd;rw[e]
 by_cases hb:r=true∧t.Links.length≤24∧t.Edges.length≤12∧t.Pools.length≤8∧0≤t.Tolerate∧t.Tolerate≤2
 obtain⟨b1,b2,b3,b4,b5,b6⟩:=hb;obtain⟨g1,g2,g3⟩:=hr.1 b1;rw[b1,Wr om,Wr om,Wr gD,Wr gD,Wr om]
 refine((Zai5 t ht.k).seq λ_=>(Zai6 t ht).seq (Q:=(t.Edges.Pairwise λa b=>a.Planned=false→b.Planned=false→meB b.Prefix a.Prefix=false)∧∀ i:Int,0≤i→i<t.Pools.length→∀ p,idx t.Pools i=some p→pvB p=true∧((t.Pools.take i.toNat).any λq=>meB p q)=false) λ_=>?_).iff ?_
 rw[Fix_eq (t:=t) om]
 have h3:=Zah1 ((t.Edges.filter λe=>!e.Planned).map (·.Prefix)) (λx hx=>by
  obtain⟨y,hy,rfl⟩:=Wah.1 hx
  exact ht.ea y (W6.1 hy).1) gD
 refine(h3.seq λ_=>(Zai7 t ht).sb).iff ?_
 rw[Wdk,List.pairwise_filter]
 refine and_congr ?_ Wc6
 constructor<;>intro h<;>refine h.imp λh a b=>?_
 exact h gD (by simp[b]);exact h gD gD;exact⟨λ⟨h1,h2,h3,h4⟩=>⟨g1,g2,b2,b3,b4,b5,b6,g3,h1,h2,h3,h4⟩,λh=>⟨h.lk,h.eg,h.ov,h.pl⟩⟩
 have hn:¬Tv t:=λh=>hb ⟨hr.2 ⟨h.d0,h.d1,h.dv⟩,h.k1,h.e1,h.p1,h.t0,h.t1⟩
 refine⟨false,?_,gD⟩
 grind
theorem Zwj {α:Type} (l:List α) (i:Int):List.drop (Int.toNat 0) (List.take i.toNat l)=l.take i.toNat:=rfl
def Zai9 (t:Zb) (ht:TIn t):Ck (Zht t fuel 0) (∀ i:Int,0≤i→i<t.Edges.length→(∀ e,idx t.Edges i=some e→egB t.Devices.length e=true∧eI t.Edges e.Name=i)∧∀ e,idx t.Edges i=some e→∀ k:Int,0≤k→k<(t.Edges.take i.toNat).length→∀ d,idx (t.Edges.take i.toNat) k=some d→(e.Planned=false→d.Planned=false→meB e.Prefix d.Prefix=false)):=by
 have hl:=ht.e
 refine LKp om om (λn i i0 i1=>?_) λn=>?_
 rw[Zht,if_pos (Wf i1),wi (i+1) om om,idx_of i0 i1];have ha:=ht.ea _ (Wu (show i.toNat<t.Edges.length by omega));simp only[Wc];rw[peg_eq ha,Zai4 hl];simp only[Wc,ifor rfl];rw[if_pos (show 0≤(0:Int)∧0≤i∧i≤t.Edges.length by omega)]
 generalize t.Edges[i.toNat]'om=e at ha
 simp only[Wn,forall_eq']
 refine Stp.two (P:=∀ k:Int,0≤k→k<(t.Edges.take i.toNat).length→∀ d,idx (t.Edges.take i.toNat) k=some d→(e.Planned=false→d.Planned=false→meB e.Prefix d.Prefix=false)) ?_ λ_=>?_
 cases egB t.Devices.length e<;>simp
 refine LKp om gD (λn k k0 k1=>?_) λn=>?_
 rw[Zmj,Zwj,if_pos (Wf k1),wi (k+1) om gD,idx_of k0 k1];simp only[Wc];rw[Zacx ha (ht.ea _ (Wbh (Wu (show k.toNat<(t.Edges.take i.toNat).length by omega))))];simp only[Wc,ifand rfl]
 refine Wa1 (g:=∀ d,some ((t.Edges.take i.toNat)[k.toNat]'om)=some d→(e.Planned=false→d.Planned=false→meB e.Prefix d.Prefix=false)) ?_
 generalize (t.Edges.take i.toNat)[k.toNat]'om=d;simp  [Wn,forall_eq'];cases e.Planned<;>cases d.Planned<;>simp;rw[Zmj,Zwj,if_neg sM];rw[Zht,if_neg sM]
def Zadp {l:List Z1}:(∀ i:Int,0≤i→i<l.length→∀ e,idx l i=some e→∀ k:Int,0≤k→k<(l.take i.toNat).length→∀ d,idx (l.take i.toNat) k=some d→(e.Planned=false→d.Planned=false→meB e.Prefix d.Prefix=false))↔l.Pairwise λa b=>a.Planned=false→b.Planned=false→meB b.Prefix a.Prefix=false:=by
 rw[Was];constructor;intro h i j hi hj hij a b
 have hk:i<(l.take ((j:Int)).toNat).length:=gD
 have g:=h (j:Int) om om l[j] (Zat hj) i om om _ (Zat hk);rw[Wgc]at g;exact g b a;intro h i i0 i1 e he k k0 k1 d hd a b;rw[idx_of i0 i1]at he;rw[idx_of k0 k1]at hd
 grind
def pTv {t:Zb} (ht:TIn t):SB (Zlg t) (Tv t):=by
 unfold Zlg
 by_cases hb:1≤t.Devices.length∧t.Devices.length≤12∧t.Links.length≤24∧t.Edges.length≤12∧t.Pools.length≤8∧0≤t.Tolerate∧t.Tolerate≤2
 obtain⟨g1,g2,b2,b3,b4,b5,b6⟩:=hb;rw[show((t.Devices.length:Int)==0)=false from by grind,Wr gD,Wr om,Wr om,Wr gD,Wr gD,Wr gD]
 refine((Zaku t ht.d).seq λ_=>(Zahz t ht.k).seq λ_=>(Zai9 t ht).seq λ_=>(Zai8 t ht).sb).iff ?_
 constructor;rintro⟨h1,h2,h3,h4⟩;exact⟨g1,g2,b2,b3,b4,b5,b6,h1,h2,λi a b=>(h3 i a b).1,Zadp.1 λi a b=>(h3 i a b).2,h4⟩;intro h;exact⟨h.dv,h.lk,λi a b=>⟨h.eg i a b,Zadp.2 h.ov i a b⟩,h.pl⟩
 have hn:¬Tv t:=λh=>hb ⟨h.d0,h.d1,h.k1,h.e1,h.p1,h.t0,h.t1⟩
 refine⟨false,?_,gD⟩
 grind
structure Tc (t:Zb):Prop where
 v:Tv t
 c:∀ e∈t.Edges,e.Planned=false
def rTc {t:Zb} (ht:TIn t):SB (Zax t) (Tc t):=by
 unfold Zax;obtain⟨r,e,hr⟩:=rTv ht;rw[e];cases r;exact⟨false,sM,by simp;intro h;have:=hr.2 h.v;grind⟩;have v:=hr.1 rfl;have:=v.e1;rw[Fix_eq om]
 refine⟨_,rfl,?_⟩
 rw[Wcr,Wt];constructor;intro h
 have h:(t.Edges.filter λe=>!e.Planned).length=t.Edges.length:=om
 rw[Wcb]at h;exact⟨v,λe he=>gD⟩;intro h
 have:(t.Edges.filter λe=>!e.Planned).length=t.Edges.length:=Wcb.2 λe he=>by simp[h.c e he]
 omega
def pTc {t:Zb} (ht:TIn t):SB (Zmk t) (Tc t):=by
 unfold Zmk;obtain⟨r,e,hr⟩:=pTv ht;rw[e];simp only[Wc];cases r;exact⟨false,sM,by simp;intro h;have:=hr.2 h.v;grind⟩
 have h:=idxF (L:=Za8 t.Edges) t.Edges (λe=>e.Planned) ht.e (λn i hi=>by rw[Za8,if_pos gD,Zat hi,wsucc (by have:=ht.e;omega)];rfl) λn=>by rw[Za8,if_neg sM]
 refine⟨_,congrArg (λx=>((x.bind λr1=>some (decide (r1≥0))).bind λr5=>some (!r5)).bind λv7=>some v7) h,?_⟩
 rw[nI_any];constructor;intro h
 have h:t.Edges.any (λe=>e.Planned)=false:=gD
 rw[Wc4]at h;exact⟨hr.1 rfl,λe he=>gD⟩;intro h;rw[Wej,Wc4];intro e he;simp[h.c e he]
def As (l:List Int) (m:Int):Prop:=∀ i:Int,0≤i→i<l.length→∀ x,idx l i=some x→0≤x∧x<m∧(0<i→∀ y,idx l (i-1)=some y→y<x)
def rAs (l:List Int) (m:Int) (hl:l.length≤1000000000000):SB (Zdi l m) (As l m):=by
 refine Wfs (LKp om om (λn i i0 i1=>?_) λn=>?_)
 rw[Zb7,if_pos (Wf i1),wi (i+1) om om,wi (i-1) om om,idx_of i0 i1]
 by_cases hp:0<i
 rw[idx_of om om,Wf (show i>0 from hp)];simp only[if_true,Wc,ifor rfl]
 refine Wa1 ?_
 simp;omega;rw[Wr (show ¬i>0 from hp)];simp only[Waa,if_false,Wc,ifor rfl]
 refine Wa1 ?_
 simp;omega;rw[Zb7,if_neg sM]
def pAs (l:List Int) (m:Int) (hl:l.length≤1000000000000):SB (Zpx l m) (As l m):=by
 refine Wfs (LKp om om (λn i i0 i1=>?_) λn=>?_)
 rw[Zmn,if_pos (Wf i1),wi (i+1) om om,wi (i-1) om om,idx_of i0 i1]
 by_cases hp:0<i
 rw[idx_of om om,Wf (show i>0 from hp)];simp only[if_true,Wc,ifor rfl]
 refine Wa1 ?_
 simp;omega;rw[Wr (show ¬i>0 from hp)];simp only[Waa,if_false,Wc,ifor rfl]
 refine Wa1 ?_
 simp;omega;rw[Zmn,if_neg sM]
structure Fv (t:Zb) (f:Zp):Prop where
 v:Tv t
 l:As f.Links t.Links.length
 d:As f.Devices t.Devices.length
def and3 {A B C:Option Bool} {P Q R:Prop} (ha:SB A P) (hb:SB B Q) (hc:SB C R):SB (A.bind λr1=>(some r1).bind λb3=>(if b3=true then B.bind λr5=>some r5 else some false).bind λv7=>(some v7).bind λb9=>(if b9=true then C.bind λr11=>some r11 else some false).bind λv13=>some v13) (P∧Q∧R):=by
 obtain⟨a,e1,h1⟩:=ha;obtain⟨b,e2,h2⟩:=hb;obtain⟨c,e3,h3⟩:=hc
 refine⟨a&&(b&&c),gD,?_⟩
 grind
def rFv {t:Zb} (ht:TIn t) {f:Zp} (hl:f.Links.length≤1000000000000) (hd:f.Devices.length≤1000000000000):SB (Zbh t f) (Fv t f):=(and3 (rTv ht) (rAs _ _ hl) (rAs _ _ hd)).iff ⟨λh=>⟨h.1,h.2.1,h.2.2⟩,λh=>⟨h.v,h.l,h.d⟩⟩
def pFv {t:Zb} (ht:TIn t) {f:Zp} (hl:f.Links.length≤1000000000000) (hd:f.Devices.length≤1000000000000):SB (Ztz t f) (Fv t f):=(and3 (pTv ht) (pAs _ _ hl) (pAs _ _ hd)).iff ⟨λh=>⟨h.1,h.2.1,h.2.2⟩,λh=>⟨h.v,h.l,h.d⟩⟩
structure PIn (p:Zw):Prop where
 i:p.Ingress.length≤1000000000000
 e:p.Egress.length≤1000000000000
 m:p.Moves.length≤1000000000000
 h:p.Hides.length≤1000000000000
 s:p.Steers.length≤1000000000000
 ha:∀ h∈p.Hides,Zbf h.Addr
def Ck.sq2 {a:Option Yb} {P:Prop} {b:Bool} (h:Ck a P):SB (a.bind λo=>match o with|.inl ()=>some b|.inr r=>some r) (P∧b=true):=h.seq λ_=>⟨b,rfl,Wc6⟩
def Rv (l:List Zai):Prop:=(∀ i:Int,0≤i→i<l.length→∀ r,idx l i=some r→vB r.Match=true)∧decide ((l.length:Int)≤4096)=true
def rRv {l:List Zai} (hl:l.length≤1000000000000):SB (Zgn l) (Rv l):=by
 refine Ck.sq2 (LKp om om (λn i i0 i1=>?_) λn=>?_)
 rw[Zfu,if_pos (Wf i1),wi (i+1) om om,idx_of i0 i1];simp only[Zg3]
 refine Wa1 ?_
 simp;rw[Zfu,if_neg sM]
def pRv {l:List Zai} (hl:l.length≤1000000000000):SB (Zk4 l) (Rv l):=by
 refine Ck.sq2 (LKp om om (λn i i0 i1=>?_) λn=>?_)
 rw[Zoi,if_pos (Wf i1),wi (i+1) om om,idx_of i0 i1];simp only[Zp3]
 refine Wa1 ?_
 simp;rw[Zoi,if_neg sM]
def hdB (h:Zab):Bool:=vB h.Match&&(decide (h.Ports.Lo≤h.Ports.Hi)&&decide (h.Ports.Hi≤65535))
def Hv (l:List Zab):Prop:=(∀ i:Int,0≤i→i<l.length→∀ r,idx l i=some r→hdB r=true)∧decide ((l.length:Int)≤256)=true
def rHv {l:List Zab} (hl:l.length≤1000000000000):SB (Zgp l) (Hv l):=by
 refine Ck.sq2 (LKp om om (λn i i0 i1=>?_) λn=>?_)
 rw[Zdc,if_pos (Wf i1),wi (i+1) om om,idx_of i0 i1];unfold Zmg;simp only[Zg3]
 refine Wa1 ?_
 simp  [Wn,forall_eq',hdB];cases vB (l[i.toNat]'om).Match<;>simp;omega;rw[Zdc,if_neg sM]
def pHv {l:List Zab} (hl:l.length≤1000000000000):SB (Zkq l) (Hv l):=by
 have ht:Z3o 3=some 65535:=kR
 refine Ck.sq2 (LKp om om (λn i i0 i1=>?_) λn=>?_)
 rw[Zhm,if_pos (Wf i1),wi (i+1) om om,idx_of i0 i1];unfold Zp9;simp only[Wc,Zp3,ht,ifand rfl]
 refine Wa1 ?_
 simp only[Wn,forall_eq',hdB];cases vB (l[i.toNat]'om).Match<;>simp;omega;rw[Zhm,if_neg sM]
def sgB (m:Zaa):Bool:=!(m.From.x2.Lo !=m.From.x2.Hi||(m.From.x2.Lo !=6&&m.From.x2.Lo !=17))&&(Zba m.From.x0 m.To.x0&&(Zba m.From.x2 m.To.x2&&Zba m.From.x3 m.To.x3))
def otB (t:Zb) (r:Za):Bool:=t.Edges.any λe=>decide ((ofR e.Prefix).1.Lo≤r.Hi)&&decide (r.Lo≤(ofR e.Prefix).1.Hi)
def rsg_eq (m:Zaa):Zj0 m=some (sgB m):=by
 unfold Zj0 sgB;simp
 grind
def Zah2 {t:Zb} (ht:TIn t) {i:Int} (i0:0≤i) (i1:i<t.Edges.length):Zbg t i i=some {{full with x0:=(ofR (t.Edges[i.toNat]'om).Prefix).1}with x1:=(ofR (t.Edges[i.toNat]'om).Prefix).1}:=by
 unfold Zbg;rw[idx_of i0 i1];simp;rw[Z90 (ht.ea _ (Wu _))];rfl
def Zakv {t:Zb} (ht:TIn t) (r:Za):Zij t r=some (!otB t r):=by
 have hl:=ht.e
 have c:Ck (Zc6 t r fuel 0) (∀ i:Int,0≤i→i<t.Edges.length→∀ e,idx t.Edges i=some e→(decide ((ofR e.Prefix).1.Lo≤r.Hi)&&decide (r.Lo≤(ofR e.Prefix).1.Hi))=false):=by
  refine LKp om om (λn i i0 i1=>?_) λn=>?_
  rw[Zc6,if_pos (Wf i1),wi (i+1) om om,Zah2 ht i0 i1,idx_of i0 i1]
  refine Wa1 ?_
  simp only[Wn,forall_eq'];rw[Bool.not_eq_false];rw[Zc6,if_neg sM]
 have s:SB (Zij t r) (otB t r=false):=by
  refine c.sb.iff ?_
  unfold otB;rw[Wc4];constructor;intro h e he;obtain⟨k,hk,rfl⟩:=Wav he;have:=h k om om _ (Zat hk)
  simpa using this
  intro h i i0 i1 e he;have:=h e (Zwn he)
  grind
 obtain⟨b,e,hb⟩:=s
 grind
def pmv_eq {t:Zb} (ht:TIn t) (m:Zaa):Zml t m=some (sgB m&&!otB t m.From.x1):=by
 have hl:=ht.e;unfold Zml sgB;simp
 have c:Zb3 t.Edges m.From=some (otB t m.From.x1):=(congrArg (λx=>x.bind λr1=>some (decide (r1≥0))) (idxF (L:=Za7 t.Edges m.From) t.Edges (λe=>decide ((ofR e.Prefix).1.Lo≤m.From.x1.Hi)&&decide (m.From.x1.Lo≤(ofR e.Prefix).1.Hi)) hl (λn i hi=>by
   rw[Za7,if_pos gD,Zat hi,wsucc om];unfold Zo2
   simp  [Wc,pOf_eq (ht.ea _ (Wu hi))]) λn=>by rw[Za7,if_neg sM])).trans (congrArg some (nI_any _ _))
 grind
def Mo (t:Zb) (l:List Zaa):Prop:=∀ i:Int,0≤i→i<l.length→(∀ m,idx l i=some m→(sgB m&&!otB t m.From.x1)=true)∧∀ m,idx l i=some m→∀ k:Int,0≤k→k<i→∀ o,idx l k=some o→(xB m.To o.To).2=false
def pMo {t:Zb} (ht:TIn t) {l:List Zaa} (hl:l.length≤1000000000000):Ck (Zev t l fuel 0) (Mo t l):=by
 refine LKp om om (λn i i0 i1=>?_) λn=>?_
 rw[Zev,if_pos (Wf i1),wi (i+1) om om,idx_of i0 i1];simp only[Wc];rw[pmv_eq ht];simp only[Wc];rw[if_pos (show 0≤(0:Int)∧0≤i∧i≤l.length by omega)];generalize l[i.toNat]'om=m;simp only[Wn,forall_eq']
 refine Stp.two (P:=∀ k ,0≤k→k<i→∀ o,idx l k=some o→(xB m.To o.To).2=false) ?_ λ_=>?_
 cases(sgB m&&!otB t m.From.x1)<;>simp
 have e:(l.take i.toNat).length=i:=gD
 refine LKp i0 om (λn k k0 k1=>?_) λn=>?_
 rw[Zhl,Zwj,e,if_pos (Wf k1),wi (k+1) om om,idx_of k0 om,idx_of k0 om];simp only[Z4f]
 refine Wa1 ?_
 simp;rw[Zhl,Zwj,e,if_neg sM];rw[Zev,if_neg sM]
def rMo {t:Zb} (ht:TIn t) {p:Zw} (hl:p.Moves.length≤1000000000000):Ck (Zcn t p fuel 0) (Mo t p.Moves):=by
 refine LKp om om (λn i i0 i1=>?_) λn=>?_
 rw[Zcn,if_pos (Wf i1),wi (i+1) om om,idx_of i0 i1];simp only[Wc];rw[rsg_eq,Zakv ht];simp only[Wc,ifor rfl];generalize hm:p.Moves[i.toNat]'om=m;simp only[Wn,forall_eq']
 refine Stp.two (P:=∀ k ,0≤k→k<i→∀ o,idx p.Moves k=some o→(xB m.To o.To).2=false) ?_ λ_=>?_
 cases sgB m<;>cases otB t m.From.x1<;>simp
 refine LKp i0 om (λn k k0 k1=>?_) λn=>?_
 rw[Zhk,if_pos (Wf k1),wi (k+1) om om,idx_of i0 i1,idx_of k0 om];simp only[Z19,hm]
 refine Wa1 ?_
 simp;rw[Zhk,if_neg sM];rw[Zcn,if_neg sM]
def atB (a:Int) (e:Z1):Bool:=!e.Planned&&pcB e.Prefix a
def rAt_eq {t:Zb} (ht:TIn t) (a:Int):Zff t a=some (nI (atB a) t.Edges):=by
 have hl:=ht.e
 exact idxF t.Edges _ hl (λn i hi=>by
  rw[Zef,if_pos gD,Zat hi,wsucc om];simp only[Wc,Zafe (ht.ea _ (Wu hi)),ifand rfl]
  rfl) λn=>by rw[Zef,if_neg sM]
def pAt_eq {t:Zb} (ht:TIn t) {a:Int} (ha:Zbf a):Zvn t a=some (nI (atB a) t.Edges):=by
 have hl:=ht.e
 exact congrArg (λx=>x.bind λr1=>some r1) (idxF (L:=Zbk t.Edges a) t.Edges (atB a) hl (λn i hi=>by
  rw[Zbk,if_pos gD,Zat hi,wsucc om];unfold Zty;simp only[Wc,Zaff (ht.ea _ (Wu hi)) ha,ifand rfl]
  rfl) λn=>by rw[Zbk,if_neg sM])
def Ha (t:Zb) (l:List Zab):Prop:=∀ i:Int,0≤i→i<l.length→∀ h,idx l i=some h→nI (atB h.Addr) t.Edges<0
def pHa {t:Zb} (ht:TIn t) {p:Zw} (hp:PIn p):Ck (Zfd t p fuel 0) (Ha t p.Hides):=by
 have hl:=hp.h
 refine LKp om om (λn i i0 i1=>?_) λn=>?_
 rw[Zfd,if_pos (Wf i1),wi (i+1) om om,idx_of i0 i1];simp only[Wc];rw[pAt_eq ht (hp.ha _ (Wu _))]
 refine Wa1 ?_
 simp;rw[Zfd,if_neg sM]
def rHa {t:Zb} (ht:TIn t) {p:Zw} (hp:PIn p):Ck (Zco t p fuel 0) (Ha t p.Hides):=by
 have hl:=hp.h
 refine LKp om om (λn i i0 i1=>?_) λn=>?_
 rw[Zco,if_pos (Wf i1),wi (i+1) om om,idx_of i0 i1];simp only[Wc];rw[rAt_eq ht];simp only[Wc]
 refine Wa1 ?_
 simp;rw[Zco,if_neg sM]
def Str6 (l:List Zaf):Prop:=∀ i:Int,0≤i→i<l.length→∀ s,idx l i=some s→(vB s.Match&&vnB s.Class)=true
def rSt4 {p:Zw} (hp:PIn p):Ck (Zcp p fuel 0) (Str6 p.Steers):=by
 have hl:=hp.s
 refine LKp om om (λn i i0 i1=>?_) λn=>?_
 rw[Zcp,if_pos (Wf i1),wi (i+1) om om,idx_of i0 i1];simp only[Wc,Zg3,rvn_eq,ifor rfl]
 refine Wa1 ?_
 simp;cases vB (p.Steers[i.toNat]'om).Match<;>simp;rw[Zcp,if_neg sM]
def rSt2 {p:Zw} (hp:PIn p):Ck (Zhv p fuel 0) (Str6 p.Steers):=by
 have hl:=hp.s
 refine LKp om om (λn i i0 i1=>?_) λn=>?_
 rw[Zhv,if_pos (Wf i1),wi (i+1) om om,idx_of i0 i1];simp only[Wc,Zg3,rvn_eq,ifor rfl]
 refine Wa1 ?_
 simp;cases vB (p.Steers[i.toNat]'om).Match<;>simp;rw[Zhv,if_neg sM]
def pSt1 {p:Zw} (hp:PIn p):Ck (Zfy p fuel 0) (Str6 p.Steers):=by
 have hl:=hp.s
 refine LKp om om (λn i i0 i1=>?_) λn=>?_
 rw[Zfy,if_pos (Wf i1),wi (i+1) om om,idx_of i0 i1];simp only[Wc,Zp3,pvn_eq,ifor rfl]
 refine Wa1 ?_
 simp;cases vB (p.Steers[i.toNat]'om).Match<;>simp;rw[Zfy,if_neg sM]
def pStF {p:Zw} (hp:PIn p):SB ((Zbz p.Steers).bind λr44=>some (!r44)) (Str6 p.Steers):=by
 have hl:=hp.s
 have h:=idxF (L:=Za0 p.Steers) p.Steers (λs=>!(vB s.Match&&vnB s.Class)) hl (λn i hi=>by
  rw[Za0,Zat hi,wsucc om];unfold Zo3;simp  [Zp3,pvn_eq]
  grind) λn=>by rw[Za0,if_neg sM]
 refine⟨_,congrArg (λx=>(x.bind λr1=>some (decide (r1≥0))).bind λr44=>some (!r44)) h,?_⟩
 rw[nI_any,Wej,Wc4];constructor;intro h i i0 i1 s hs
 simpa using h s (Zwn hs)
 intro h s hs;obtain⟨k,hk,rfl⟩:=Wav hs;have:=h k om om _ (Zat hk)
 grind
structure Qv (p:Zw):Prop where
 i:Rv p.Ingress
 e:Rv p.Egress
 m:vL p.Moves=true
 h:Hv p.Hides
 sl:p.Steers.length≤4096
 s:Str6 p.Steers
structure Pv (t:Zb) (p:Zw):Prop where
 q:Qv p
 mo:Mo t p.Moves
 ha:Ha t p.Hides
def pre4 {A B C D:Option Bool} {P Q R S T:Prop} {n:Nat} {x:Option Bool} (ha:SB A P) (hb:SB B Q) (hc:SB C R) (hd:SB D S) (hx:n≤4096→P→Q→R→S→SB x T):SB (A.bind λr1=>(Option.some (!r1)).bind λb3=>(if b3=true then Option.some true else B.bind λr5=>Option.some (!r5)).bind λv7=>(Option.some v7).bind λb9=>(if b9=true then Option.some true else C.bind λr11=>Option.some (!r11)).bind λv13=>(Option.some v13).bind λb15=>(if b15=true then Option.some true else D.bind λr17=>Option.some (!r17)).bind λv19=>(Option.some v19).bind λb21=>if(b21||(decide ((n:Int)>4096)))=true then Option.some false else x) (P∧Q∧R∧S∧n≤4096∧T):=by
 obtain⟨a,e1,h1⟩:=ha;obtain⟨b,e2,h2⟩:=hb;obtain⟨c,e3,h3⟩:=hc;obtain⟨d,e4,h4⟩:=hd;rw[e1,e2,e3,e4]
 by_cases hn:n≤4096
 rw[Wr om];cases a;exact⟨false,rfl,gD⟩;cases b;exact⟨false,rfl,gD⟩;cases c;exact⟨false,rfl,gD⟩;cases d;exact⟨false,rfl,gD⟩;simp_all
 refine⟨false,?_,gD⟩
 rw[Wf om];cases a<;>cases b<;>cases c<;>cases d<;>rfl
def rPv {t:Zb} (ht:TIn t) {p:Zw} (hp:PIn p):SB (Zgq t p) (Pv t p):=by
 refine(pre4 (T:=Mo t p.Moves∧Ha t p.Hides∧Str6 p.Steers) (rRv hp.i) (rRv hp.e) (SB.of Z5v Wc6) (rHv hp.h) λ_ _ _ _ _=>(rMo ht hp.m).seq λ_=>(rHa ht hp).seq λ_=>(rSt4 hp).sb).iff ?_
 exact⟨λh=>⟨⟨h.1,h.2.1,h.2.2.1,h.2.2.2.1,h.2.2.2.2.1,h.2.2.2.2.2.2.2⟩,h.2.2.2.2.2.1,h.2.2.2.2.2.2.1⟩,λh=>⟨h.q.i,h.q.e,h.q.m,h.q.h,h.q.sl,h.mo,h.ha,h.q.s⟩⟩
def pPv {t:Zb} (ht:TIn t) {p:Zw} (hp:PIn p):SB (Zqa t p) (Pv t p):=by
 have hm:SB (Zpv t p.Moves) (Mo t p.Moves∧vL p.Moves=true):=(pMo ht hp.m).seq λ_=>SB.of (b:=vL p.Moves) (by rw[Z8d];rfl) Wc6
 refine(pre4 (T:=Ha t p.Hides∧Str6 p.Steers) (pRv hp.i) (pRv hp.e) hm (pHv hp.h) λ_ _ _ _ _=>(pHa ht hp).seq λ_=>pStF hp).iff ?_
 exact⟨λh=>⟨⟨h.1,h.2.1,h.2.2.1.2,h.2.2.2.1,h.2.2.2.2.1,h.2.2.2.2.2.2⟩,h.2.2.1.1,h.2.2.2.2.2.1⟩,λh=>⟨h.q.i,h.q.e,⟨h.mo,h.q.m⟩,h.q.h,h.q.sl,h.ha,h.q.s⟩⟩
def pQv {p:Zw} (hp:PIn p):SB (Znw p) (Qv p):=by
 refine(pre4 (T:=Str6 p.Steers) (pRv hp.i) (pRv hp.e) (SB.of Z8d Wc6) (pHv hp.h) λ_ _ _ _ _=>(pSt1 hp).sb).iff ?_
 exact⟨λh=>⟨h.1,h.2.1,h.2.2.1,h.2.2.2.1,h.2.2.2.2.1,h.2.2.2.2.2⟩,λh=>⟨h.i,h.e,h.m,h.h,h.sl,h.s⟩⟩
def edl (t:Zb) (d:Int):∀ n w i,Zdl t d n w i=Zc2 t d n w i
 |0,_,_=>rfl
 |n+1,w,i=>by
  rw[Zdl,Zc2];unfold Zrc;simp  [Wc,edl t d n]
def elL (t:Zb) (d:Int):List Int:=(Zcz t d).getD []
def Zaa3 {t:Zb} (h:t.Edges.length≤1000000) (d:Int):Zcz t d=some (elL t d):=by
 have hlim:=lim_eq;have hf:=Z8
 have L:∀ n w (i:Int),0≤i→i≤t.Edges.length→w.length≤i→(t.Edges.length-i).toNat<n→Ok (Zc2 t d n w i) λ_=>True:=by
  intro n
  induction n with
  |zero=>omega
  |succ n ih=>
   intro w i h0 h1 hw hn;unfold Zc2;rw[wi (i+1) om om]
   refine Wx (λhc=>Wa (p:=λv=>v.length≤i+1) ?_ λv hv=>ih _ _ om om hv om) λ_=>Wb trivial
   exact Ix h0 hc λx _=>Wi (λ_=>Ap gD (Wb gD)) λ_=>Wb om
 obtain⟨r,e,_⟩:=L fuel [] 0 om om sM om
 have:Zcz t d=some r:=by unfold Zcz;grind
 unfold elL
 grind
def Zah3 {t:Zb} (h:t.Edges.length≤1000000) (d:Int):Zpw t d=some (elL t d):=by
 have e:=Zaa3 h d
 unfold Zcz at e
 unfold Zpw Zg8;rw[edl,e];rfl
def Zah4 (a b:List Int) (ha:a.length≤1000000000000):SB (Zia a b) (a=b):=by
 unfold Zia
 by_cases h:a.length=b.length
 rw[if_neg gD]
 refine(Wfs (P:=∀ i:Int,0≤i→i<a.length→∀ x,idx a i=some x→∀ y,idx b i=some y→x=y) (LKp om om (λn i i0 i1=>?_) λn=>?_)).iff ?_
 rw[Zf7,if_pos (Wf i1),wi (i+1) om om,idx_of i0 i1,idx_of i0 om]
 refine Wa1 ?_
 simp;rw[Zf7,if_neg sM];constructor;intro g
 refine Wgh h λi h1 h2=>?_
 exact g i om om _ (Zat h1) _ (Zat h2);rintro rfl i _ _ x hx y hy;rw[hx]at hy;exact Wau hy;rw[if_pos gD];exact⟨false,rfl,gD⟩
structure CIn (c:Zo):Prop where
 l:c.Ports.length≤2000000000
 p:∀ p∈c.Ports,PIn p
def Cd (t:Zb) (d:Int) (c:Zo):Prop:=(∀ p∈c.Ports,Pv t p)∧c.Ports.map (·.Edge)=elL t d
def pCd2 {t:Zb} (ht:TIn t) {c:Zo} (hc:CIn c):(Zej t c fuel [] 0=some (.inl (c.Ports.map (·.Edge)))∧∀ p∈c.Ports,Pv t p)∨(Zej t c fuel [] 0=some (.inr false)∧¬∀ p∈c.Ports,Pv t p):=by
 have hlim:=lim_eq;have hf:=Z8;have hl:=hc.l
 have key:∀ n k,k≤c.Ports.length→c.Ports.length-k<n→(∀ p∈c.Ports.take k,Pv t p)→(Zej t c n ((c.Ports.take k).map (·.Edge)) k=some (.inl (c.Ports.map (·.Edge)))∧∀ p∈c.Ports,Pv t p)∨(Zej t c n ((c.Ports.take k).map (·.Edge)) k=some (.inr false)∧¬∀ p∈c.Ports,Pv t p):=by
  intro n
  induction n with
  |zero=>grind
  |succ n ih=>
   intro k hk hn hp;rw[Zej]
   by_cases h:k<c.Ports.length
   rw[if_pos gD,Zat h,wi (k+1) om om];simp only[Wc];rw[if_pos gD];obtain⟨r,e,hr⟩:=pPv ht (hc.p _ (Wu h));rw[e];simp only[Wc];cases r
   grind
   have e2:(c.Ports.take k).map (·.Edge)++[(c.Ports[k]).Edge]=(c.Ports.take (k+1)).map (·.Edge):=by
    rw[Wbg,Wo h,Wa0];rfl
   rw[e2]
   exact ih (k+1) om om λp hq=>by
    rw[Wbg]at hq
    grind
   grind
 exact key fuel 0 om om (λp h=>(by cases h))
structure Cv (t:Zb) (l:List Zo):Prop where
 tc:Tc t
 len:l.length=t.Devices.length
 c:∀ i:Int,0≤i→i<l.length→∀ c,idx l i=some c→Cd t i c
def pCv {t:Zb} (ht:TIn t) {l:List Zo} (hl:∀ c∈l,CIn c):SB (Zqp t l) (Cv t l):=by
 unfold Zqp;obtain⟨r,e,hr⟩:=pTc ht;rw[e];simp  [Wc];cases r;exact⟨false,sM,by simp;intro h;have:=hr.2 h.tc;grind⟩;have tc:=hr.1 rfl;have e1:=tc.v.e1;have d1:=tc.v.d1
 by_cases hn:l.length=t.Devices.length
 rw[if_neg gD]
 refine(Wfs (P:=∀ i:Int,0≤i→i<l.length→∀ c,idx l i=some c→Cd t i c) (LKp om om (λn i i0 i1=>?_) λn=>?_)).iff ⟨λh=>⟨tc,hn,h⟩,λh=>h.c⟩
 rw[Znt,if_pos (Wf i1),wi (i+1) om om,idx_of i0 i1];have hc:=hl _ (Wu (show i.toNat<l.length by omega))
 generalize l[i.toNat]'om=c at hc
 simp only[Wc,Wn,forall_eq'];rw[Zah3 om]
 rcases pCd2 ht hc with⟨e,q⟩|⟨e,q⟩
 rw[e];simp only[Wc];obtain⟨r,e,hr⟩:=Zah4 (c.Ports.map (·.Edge)) (elL t i) (by rw[Wt];have:=hc.l;omega);rw[e];simp only[Wc]
 refine Wa1 ?_
 unfold Cd;rw[←hr];cases r;simp
 simpa using q
 rw[e];exact⟨λh=>absurd h.1 q,λ_=>rfl⟩;rw[Znt,if_neg sM];rw[if_pos gD];exact⟨false,rfl,by simp;intro h;exact hn h.len⟩
def rCv {t:Zb} (ht:TIn t) {l:List Zo} (hl:∀ c∈l,CIn c):SB (Zfm t l) (Cv t l):=by
 unfold Zfm;obtain⟨r,e,hr⟩:=rTc ht;rw[e];simp only[Wc];cases r;exact⟨false,sM,by simp;intro h;have:=hr.2 h.tc;cases this⟩;have tc:=hr.1 rfl;have e1:=tc.v.e1;have d1:=tc.v.d1
 by_cases hn:l.length=t.Devices.length
 rw[if_neg (by simp[hn])]
 refine(Wfs (P:=∀ i:Int,0≤i→i<l.length→∀ c,idx l i=some c→Cd t i c) (LKp om om (λn i i0 i1=>?_) λn=>?_)).iff ⟨λh=>⟨tc,hn,h⟩,λh=>h.c⟩
 rw[Ze6,if_pos (Wf i1),wi (i+1) om om,Zaa3 om,idx_of i0 i1];have hc:=hl _ (Wu (show i.toNat<l.length by omega));have hci:idx l i=some (l[i.toNat]'om):=idx_of i0 i1
 generalize l[i.toNat]'om=c at hc hci
 simp only[Wc,Wn,forall_eq'];have hcl:=hc.l
 by_cases hne:c.Ports.length=(elL t i).length
 rw[if_neg (by simp[hne])]
 have k:Ck (Zd2 t l i (elL t i) fuel 0) (∀ k:Int,0≤k→k<(elL t i).length→∀ p,idx c.Ports k=some p→(idx (elL t i) k=some p.Edge∧Pv t p)):=by
  refine LKp om om (λn k k0 k1=>?_) λn=>?_
  rw[Zd2,if_pos (Wf k1),wi (k+1) om om,hci,idx_of k0 k1];simp only[Wc];rw[idx_of k0 om];have hp:=hc.p _ (Wu (show k.toNat<c.Ports.length by omega))
  generalize c.Ports[k.toNat]'om=p at hp
  simp only[Wc,Wn,forall_eq'];obtain⟨r,e,hr⟩:=rPv ht hp;rw[e];simp only[Wc,ifor rfl]
  refine Wa1 ?_
  rw[←hr];cases r<;>simp;exact⟨λh g=>h g.symm,λh g=>h g.symm⟩;rw[Zd2,if_neg sM]
 have kk:(∀ k:Int,0≤k→k<(elL t i).length→∀ p,idx c.Ports k=some p→(idx (elL t i) k=some p.Edge∧Pv t p))↔Cd t i c:=by
  unfold Cd;constructor;intro h
  refine⟨λp hp=>?_,Wgh (by rw[Wt];exact hne) λk h1 h2=>?_⟩
  obtain⟨k,hk,rfl⟩:=Wav hp;exact(h (k:Int) om om _ (Zat hk)).2
  have h3:k<c.Ports.length:=by rw[Wt]at h1;exact h1
  have:=(h (k:Int) om om _ (Zat h3)).1;rw[Zat h2]at this;rw[List.getElem_map];exact(Wau this).symm;rintro⟨h1,h2⟩ k k0 k1 p hp
  refine⟨?_,h1 p (Zwn hp)⟩
  rw[idx_of k0 om]at hp;rw[idx_of k0 k1]
  grind
 rcases k with⟨e,q⟩|⟨e,q⟩
 rw[e];exact⟨λ_=>rfl,λh=>absurd (kk.1 q) h⟩;rw[e];exact⟨λh=>absurd (kk.2 h) q,λ_=>rfl⟩;rw[if_pos sO]
 refine⟨λh=>?_,λ_=>rfl⟩
 have:=congrArg List.length h.2;rw[Wt]at this;exact absurd this hne;rw[Ze6,if_neg sM];rw[if_pos sO];exact⟨false,rfl,by simp;intro h;exact hn h.len⟩
def Stp.seq {a x b:Option Yb} {P Q:Prop} (h:Ck a P) (k:P→Stp x b Q):Stp (a.bind λo=>match o with|.inl ()=>x|.inr r=>some (.inr r)) b (P∧Q):=by
 rcases h with⟨e,q⟩|⟨e,q⟩
 rw[e];exact⟨λg=>(k q).1 g.2,λg=>(k q).2 λw=>g ⟨q,w⟩⟩;rw[e];exact⟨λg=>absurd g.1 q,λ_=>rfl⟩
def Stp.iteN {x b:Option Yb} {c:Bool} {g Q:Prop} (h:c=true↔¬g) (k:g→Stp x b Q):Stp (if c=true then some (.inr false)else x) b (g∧Q):=by
 by_cases hg:g
 rw[if_neg λhc=>h.1 hc hg];exact⟨λw=>(k hg).1 w.2,λw=>(k hg).2 λq=>w ⟨hg,q⟩⟩;rw[if_pos (h.2 hg)];exact⟨λw=>absurd w.1 hg,λ_=>rfl⟩
def Wgj:=@Stp.iteN
def Stp.iff {a b:Option Yb} {P Q:Prop} (h:Stp a b P) (k:P↔Q):Stp a b Q:=⟨λg=>h.1 (k.2 g),λg=>h.2 λw=>g (k.1 w)⟩
structure Cg (c:Zo):Prop where
 e:∀ i:Int,0≤i→i<c.Ports.length→∀ p,idx c.Ports i=some p→0≤p.Edge∧p.Edge<12∧(0<i→∀ q,idx c.Ports (i-1)=some q→q.Edge<p.Edge)
 q:∀ i:Int,0≤i→i<c.Ports.length→∀ p,idx c.Ports i=some p→Qv p
def lst (c:Zo) (i:Int):Int:=match idx c.Ports (i-1)with|some p=>p.Edge|none=>-1
def pCg {c:Zo} (hc:CIn c):SB (Zrs c) (Cg c):=by
 unfold Zrs;have hl:=hc.l;have hf:=Z8
 have step:∀ n (i:Int),0≤i→i<c.Ports.length→∀ p,idx c.Ports i=some p→Zex c (n+1) (lst c i) i=if(decide (p.Edge≤lst c i)||decide (p.Edge≥12)||!(((Znw p).getD false)))=true then some (.inr false)else Zex c n (lst c (i+1)) (i+1):=by
  intro n i i0 i1 p hp;rw[Zex,if_pos (Wf i1),wi (i+1) om om,hp];obtain⟨r,e,_⟩:=pQv (hc.p _ (Zwn hp))
  have:lst c (i+1)=p.Edge:=by unfold lst;rw[show i+1-1=i by omega,hp]
  grind
 have h:=LKp (L:=λn i=>Zex c n (lst c i) i) (m:=c.Ports.length) (good:=λi=>∀ p,idx c.Ports i=some p→lst c i<p.Edge∧p.Edge<12∧Qv p) om om (λn i i0 i1=>by
  have hp:=idx_of i0 i1;have hq:=hc.p _ (Wu (show i.toNat<c.Ports.length by omega))
  generalize c.Ports[i.toNat]'om=p at hp hq
  simp only[step n i i0 i1 p hp]
  refine Wa1 ?_
  obtain⟨r,e,hr⟩:=pQv hq
  grind) λn=>by rw[Zex,if_neg sM]
 have h0:lst c 0=-1:=by unfold lst;rfl
 rw[←h0]
 refine(Wfs h).iff ⟨λg=>?_,λg i i0 i1 p hp=>?_⟩
 have lo:∀(k:Nat) (i:Int),i=k→i<c.Ports.length→∀ p,idx c.Ports i=some p→0≤p.Edge:=by
  intro k
  induction k with
  |zero=>
   intro i hi i1 p hp;have:=(g i om i1 p hp).1
   grind
  |succ k ih=>
   intro i hi i1 p hp;have h1:=(g i om i1 p hp).1;have h2:=idx_of (l:=c.Ports) (i:=i-1) om om;have h3:=ih (i-1) om om _ h2
   unfold lst at h1
   rw[h2]at h1;simp only[]at h1;omega
 refine⟨λi i0 i1 p hp=>⟨lo i.toNat i om i1 p hp,(g i i0 i1 p hp).2.1,λ_ q hq=>?_⟩,λi i0 i1 p hp=>(g i i0 i1 p hp).2.2⟩
 have h1:=(g i i0 i1 p hp).1
 unfold lst at h1
 rw[hq]at h1;exact h1;have h1:=g.e i i0 i1 p hp
 refine⟨?_,h1.2.1,g.q i i0 i1 p hp⟩
 unfold lst
 cases hq:idx c.Ports (i-1)with
 |none=>simp only[];omega
 |some q=>
  simp only[]
  have:0<i:=by
   apply Wai;intro hn;rw[show i=0 by omega]at hq;have:idx c.Ports (-1)=none:=rfl
   grind
  exact h1.2.2 this q hq
def pre4s {A B C D:Option Bool} {P Q R S T:Prop} {n:Nat} {x b:Option Yb} (ha:SB A P) (hb:SB B Q) (hc:SB C R) (hd:SB D S) (hx:n≤4096→Stp x b T):Stp (A.bind λr1=>(Option.some (!r1)).bind λb3=>(if b3=true then Option.some true else B.bind λr5=>Option.some (!r5)).bind λv7=>(Option.some v7).bind λb9=>(if b9=true then Option.some true else C.bind λr11=>Option.some (!r11)).bind λv13=>(Option.some v13).bind λb15=>(if b15=true then Option.some true else D.bind λr17=>Option.some (!r17)).bind λv19=>(Option.some v19).bind λb21=>if(b21||(decide ((n:Int)>4096)))=true then Option.some (.inr false)else x) b (P∧Q∧R∧S∧n≤4096∧T):=by
 obtain⟨a,e1,h1⟩:=ha;obtain⟨c,e2,h2⟩:=hb;obtain⟨d,e3,h3⟩:=hc;obtain⟨e,e4,h4⟩:=hd;rw[e1,e2,e3,e4];simp only[Wc,ifor rfl]
 refine(Wgj (g:=P∧Q∧R∧S∧n≤4096) ?_ λg=>hx g.2.2.2.2).iff ⟨λh=>⟨h.1.1,h.1.2.1,h.1.2.2.1,h.1.2.2.2.1,h.1.2.2.2.2,h.2⟩,λh=>⟨⟨h.1,h.2.1,h.2.2.1,h.2.2.2.1,h.2.2.2.2.1⟩,h.2.2.2.2.2⟩⟩
 grind
def rCg {c:Zo} (hc:CIn c):SB (Zs3 c) (Cg c):=by
 have hl:=hc.l
 refine(Wfs (P:=∀ i:Int,0≤i→i<c.Ports.length→(∀ p,idx c.Ports i=some p→0≤p.Edge∧p.Edge<12∧(0<i→∀ q,idx c.Ports (i-1)=some q→q.Edge<p.Edge))∧∀ p,idx c.Ports i=some p→Qv p) (LKp om om (λn i i0 i1=>?_) λn=>?_)).iff ⟨λh=>⟨λi a b=>(h i a b).1,λi a b=>(h i a b).2⟩,λh i a b=>⟨h.e i a b,h.q i a b⟩⟩
 rw[Zhw,if_pos (Wf i1),wi (i+1) om om,wi (i-1) om om,idx_of i0 i1];have hq:=hc.p _ (Wu (show i.toNat<c.Ports.length by omega))
 generalize c.Ports[i.toNat]'om=p at hq
 simp only[Wn,forall_eq']
 have tail:=pre4s (b:=Zhw c n (i+1)) (T:=Str6 p.Steers) (n:=p.Steers.length) (rRv hq.i) (rRv hq.e) (SB.of (Z5v (l:=p.Moves)) Wc6) (rHv hq.h) λ_=>Wgv (rSt2 hq)
 have fin:=tail.iff (Q:=Qv p) ⟨λh=>⟨h.1,h.2.1,h.2.2.1,h.2.2.2.1,h.2.2.2.2.1,h.2.2.2.2.2⟩,λh=>⟨h.i,h.e,h.m,h.h,h.sl,h.s⟩⟩
 by_cases hp:0<i
 rw[idx_of om om,Wf (show i>0 from hp)];simp only[if_true,Wc,ifor rfl]
 refine Wgj ?_ λ_=>fin
 simp;omega;rw[Wr (show ¬i>0 from hp)];simp only[Waa,if_false,Wc,ifor rfl]
 refine Wgj ?_ λ_=>fin
 simp;omega;rw[Zhw,if_neg sM]
def ltP (a b:Zl):Bool:=decide (a.Addr<b.Addr)||(a.Addr==b.Addr&&decide (a.Bits<b.Bits))
def Zakw (a b:Zl):Zje a b=some (ltP a b):=by
 unfold Zje ltP
 grind
def Or_eq (a b:Int):Zt0 [a,b]=some (if a=0 then b else a):=by
 unfold Zt0;obtain⟨k,hk⟩:∃ k,fuel=k+3:=⟨fuel-3,by have:=Z8;omega⟩
 have s0:∀ k,Ze2 [a,b] (k+1) 0=if(a !=0)=true then some (.inr a)else Ze2 [a,b] k 1:=λk=>by
  rfl
 have s1:∀ k,Ze2 [a,b] (k+1) 1=if(b !=0)=true then some (.inr b)else Ze2 [a,b] k 2:=λk=>by
  rfl
 have s2:∀ k,Ze2 [a,b] (k+1) 2=some (.inl ()):=λk=>by
  rw[Ze2,if_neg sM]
 grind
def Zakx (a b:Int):Zks a b=some (if a<b then -1 else if a>b then 1 else 0):=by
 unfold Zks Znu
 grind
def Zaky (a b:Int):Zoj a b=some (if a<b then -1 else if a>b then 1 else 0):=by
 unfold Zoj Zqq
 grind
def Zakz (a b:Zl):∃ c,Zok a b=some c∧decide (c≥0)=!ltP a b:=by
 unfold Zok;rw[Zakx,Zaky];simp;rw[Or_eq]
 refine⟨_,rfl,?_⟩
 unfold ltP
 grind
def Rt (l:List Zi):Prop:=∀ i:Int,0≤i→i<l.length→∀ r,idx l i=some r→pvB r.Prefix=true∧(0<i→∀ q,idx l (i-1)=some q→ltP q.Prefix r.Prefix=true)
structure RtIn (l:List Zi):Prop where
 n:l.length≤1000000000000
 a:∀ r∈l,Zbf r.Prefix.Addr
def rRt {l:List Zi} (hl:RtIn l):SB (Zs2 l) (Rt l):=by
 have hn:=hl.n
 refine Wfs (LKp om om (λn i i0 i1=>?_) λn=>?_)
 rw[Zmo,if_pos (Wf i1),wi (i+1) om om,wi (i-1) om om,idx_of i0 i1];have ha:=hl.a _ (Wu (show i.toNat<l.length by omega))
 generalize l[i.toNat]'om=x at ha
 simp only[Wc,Z09 ha]
 by_cases hp:0<i
 rw[idx_of gD om,Wf (show i>0 from hp)];simp only[if_true,Wc,Zakw,ifor rfl]
 refine Wa1 ?_
 simp[hp];cases pvB x.Prefix<;>simp;rw[Wr (show ¬i>0 from hp)];simp only[Waa,if_false,Wc,ifor rfl]
 refine Wa1 ?_
 simp[hp];rw[Zmo,if_neg sM]
def pRt {l:List Zi} (hl:RtIn l):SB (Zt1 l) (Rt l):=by
 have hn:=hl.n
 refine Wfs (LKp om om (λn i i0 i1=>?_) λn=>?_)
 rw[Znv,if_pos (Wf i1),wi (i+1) om om,wi (i-1) om om,idx_of i0 i1];have ha:=hl.a _ (Wu (show i.toNat<l.length by omega))
 generalize l[i.toNat]'om=x at ha
 simp only[Wc,Zwm ha]
 by_cases hp:0<i
 rw[idx_of gD om,Wf (show i>0 from hp)];obtain⟨c,e,hc⟩:=Zakz (l[(i-1).toNat]'om).Prefix x.Prefix;simp only[if_true,Wc,e,hc,ifor rfl]
 refine Wa1 ?_
 simp[hp];cases pvB x.Prefix<;>simp;rw[Wr (show ¬i>0 from hp)];simp only[Waa,if_false,Wc,ifor rfl]
 refine Wa1 ?_
 simp[hp];rw[Znv,if_neg sM]
def ownB2 (t:Zb) (d i:Int):Bool:=match idx t.Links i with|some l=>l.A==d||l.B==d|none=>false
def Zu2 {α:Type} {l:List α} {i:Int} (h:¬(0≤i∧i<l.length)):idx l i=none:=by
 unfold idx
 grind
def pow_eq (t:Zb) (d i:Int):Zo4 t d i=some (ownB2 t d i):=by
 unfold Zo4 ownB2
 by_cases h0:0≤i
 by_cases h1:i<t.Links.length
 rw[Wf (show i≥0 from h0),Wf h1,idx_of h0 h1];simp  [Wc,Wfy,if_true,ifor rfl];rw[Wf (show i≥0 from h0),Wr h1,Zu2 (λh=>h1 h.2)];rfl;rw[Wr (show ¬i≥0 from h0),Zu2 (λh=>h0 h.1)];rfl
def Zah5 {t:Zb} (ht:Tv t) (d i:Int):Zo5 t d i=some (ownB2 t d i):=by
 unfold Zo5 ownB2
 by_cases h0:0≤i
 by_cases h1:i<t.Links.length
 have hk:=ht.lk i h0 h1 _ (idx_of h0 h1);rw[Wf (show i≥0 from h0),Wf h1,idx_of h0 h1]
 generalize t.Links[i.toNat]'om=l at hk
 unfold Zpu
 unfold lkB at hk
 simp at hk
 simp
 by_cases a:d=l.A
 subst a;simp only[BEq.rfl,if_true,Wc,Bool.true_or];rw[Wf om]
 by_cases b:d=l.B
 subst b;simp only[a,if_false,BEq.rfl,if_true,Wc,Bool.or_true];rw[Wf om]
 have e1:¬l.A=d:=λh=>a h.symm
 have e2:¬l.B=d:=λh=>b h.symm
 simp[a,b,e1,e2];rw[Wf (show i≥0 from h0),Wr h1,Zu2 (λh=>h1 h.2)];rfl;rw[Wr (show ¬i≥0 from h0),Zu2 (λh=>h0 h.1)];rfl
def egO (t:Zb) (d i:Int):Bool:=match idx t.Edges i with|some e=>e.Device==d|none=>false
def eg_eq (t:Zb) (d i:Int):(if(decide (i≥0)&&decide (i<List.length t.Edges))=true then(idx t.Edges i).bind λx65=>some (x65.Device==d)else some false)=some (egO t d i):=by
 unfold egO
 by_cases h0:0≤i
 by_cases h1:i<t.Edges.length
 rw[Wf (show i≥0 from h0),Wf h1,idx_of h0 h1];simp;rw[Wf (show i≥0 from h0),Wr h1,Zu2 (λh=>h1 h.2)];rfl;rw[Wr (show ¬i≥0 from h0),Zu2 (λh=>h0 h.1)];rfl
def rtB (t:Zb) (d:Int) (r:Zi):Bool:=if r.Edge then egO t d r.Port else ownB2 t d r.Port
def lbB (t:Zb) (g:Bool) (d i x:Int):Bool:=x==-1||(!g&&!(i==d)&&ownB2 t d x)
def deB (f:Zp) (d:Int):Bool:=f.Devices.any λx=>x==d
structure Dn (t:Zb) (g:Bool) (d:Int) (l:List Zi) (b:List Int):Prop where
 v:Rt l
 n:l.length≤256
 z:g=true→l.length=0
 m:b.length=t.Devices.length
 r:∀ i:Int,0≤i→i<l.length→∀ x,idx l i=some x→rtB t d x=true
 b:∀ i:Int,0≤i→i<b.length→∀ x,idx b i=some x→lbB t g d i x=true
def has_eq (l:List Int) (x:Int) (hl:l.length≤1000000000000):Zk3 l x=some (l.any λy=>y==x):=anyF l _ hl (λn i hi=>by rw[Zgy,if_pos gD,Zat hi,wsucc om];rfl) λn=>by rw[Zgy,if_neg sM]
def Zak0 (l:List Int) (x:Int) (hl:l.length≤1000000000000):Zkr l x=some (l.any λy=>y==x):=by
 refine(congrArg (λy=>y.bind λr1=>some (decide (r1≥0))) (idxF (L:=Zd8 l x) l (λy=>x==y) hl (λn i hi=>by rw[Zd8,if_pos gD,Zat hi,wsucc om];rfl) λn=>by rw[Zd8,if_neg sM])).trans ?_
 show some (decide (nI (λy=>x==y) l≥0))=_;rw[nI_any]
 grind
def SB.and4 {x:Option Bool} {c:Bool} {g T:Prop} (h:c=true↔¬g) (k:g→SB x T):SB (if c=true then Option.some false else x) (g∧T):=by
 by_cases hg:g
 rw[if_neg λhc=>h.1 hc hg];exact(k hg).iff ⟨λw=>⟨hg,w⟩,λw=>w.2⟩;rw[if_pos (h.2 hg)];exact⟨false,rfl,gD⟩
def pDn {N:Z0} {d:Int} {l:List Zi} {b:List Int} (hr:idx N.Routes d=some l) (hb:idx N.Labels d=some b) (hl:RtIn l) (hf:N.Failure.Devices.length≤1000000000000) (hd:N.Topology.Devices.length≤12):SB (Zjh N d) (Dn N.Topology (deB N.Failure d) d l b):=by
 unfold Zjh;obtain⟨r,e,hv⟩:=pRt hl;rw[hr,hb,Zak0 _ _ hf];simp only[Wc,e,ifor rfl];change SB _ (Dn N.Topology (N.Failure.Devices.any λy=>y==d) d l b);generalize (N.Failure.Devices.any λy=>y==d)=g
 refine(SB.and4 (g:=Rt l∧l.length≤256∧(g=true→l.length=0)∧b.length=N.Topology.Devices.length) (T:=(∀ i:Int,0≤i→i<l.length→∀ x,idx l i=some x→rtB N.Topology d x=true)∧∀ i:Int,0≤i→i<b.length→∀ x,idx b i=some x→lbB N.Topology g d i x=true) ?_ λq=>(Ck.seq (LKp om om (λn i i0 i1=>?_) λn=>?_) λ_=>Wfs (LKp om om (λn i i0 i1=>?_) λn=>?_))).iff ⟨λh=>⟨h.1.1,h.1.2.1,h.1.2.2.1,h.1.2.2.2,h.2.1,h.2.2⟩,λh=>⟨⟨h.v,h.n,h.z,h.m⟩,h.r,h.b⟩⟩
 rw[←hv]
 by_cases h1:l.length≤256<;>by_cases h2:b.length=N.Topology.Devices.length<;>by_cases h3:l.length=0<;>cases r<;>cases g<;>simp[h3]<;>omega
 rw[Zgs,if_pos (Wf i1),wi (i+1) om om,idx_of i0 i1];generalize l[i.toNat]'om=x;simp only[Wn,forall_eq',Wc,eg_eq,pow_eq,ifor rfl,ifand rfl]
 refine Wa1 ?_
 unfold rtB;cases x.Edge<;>cases ownB2 N.Topology d x.Port<;>cases egO N.Topology d x.Port<;>simp;rw[Zgs,if_neg sM];rw[Zgt,if_pos (Wf i1),wi (i+1) om om,idx_of i0 i1];generalize b[i.toNat]'om=x;simp only[Wn,forall_eq',Wc,pow_eq,ifor rfl,ifand rfl]
 refine Wa1 ?_
 unfold lbB;cases hx:x==-1<;>cases g<;>cases hi:i==d<;>cases ownB2 N.Topology d x<;>simp[hx,bne];rw[Zgt,if_neg sM]
structure NIn (N:Z0):Prop where
 t:TIn N.Topology
 c:∀ c∈N.Configs,CIn c
 fl:N.Failure.Links.length≤1000000000000
 fd:N.Failure.Devices.length≤1000000000000
 r:∀ l∈N.Routes,RtIn l
structure Nv (N:Z0):Prop where
 c:Cv N.Topology N.Configs
 f:Fv N.Topology N.Failure
 r:N.Routes.length=N.Topology.Devices.length
 l:N.Labels.length=N.Topology.Devices.length
 d:∀ i:Int,0≤i→i<N.Topology.Devices.length→∀ l,idx N.Routes i=some l→∀ b,idx N.Labels i=some b→Dn N.Topology (deB N.Failure i) i l b
def nv0 {N:Z0} {A B x:Option Bool} {T:Prop} (ha:SB A (Cv N.Topology N.Configs)) (hb:SB B (Fv N.Topology N.Failure)) (hx:Cv N.Topology N.Configs→Fv N.Topology N.Failure→N.Routes.length=N.Topology.Devices.length→N.Labels.length=N.Topology.Devices.length→SB x T) :
  SB (A.bind λr1=>(some (!r1)).bind λb3=>(if b3=true then some true else B.bind λr5=>some (!r5)).bind λv7=>(some v7).bind λb9=>(some (b9||(List.length N.Routes !=(List.length N.Topology.Devices:Int)))).bind λb11=>if(b11||((List.length N.Labels:Int)!=List.length N.Topology.Devices))=true then some false else x) ((Cv N.Topology N.Configs∧Fv N.Topology N.Failure∧N.Routes.length=N.Topology.Devices.length∧N.Labels.length=N.Topology.Devices.length)∧T):=by
 obtain⟨a,e1,h1⟩:=ha;obtain⟨b,e2,h2⟩:=hb;rw[e1,e2];simp only[Wc,ifor rfl]
 refine SB.and4 ?_ λg=>hx g.1 g.2.1 g.2.2.1 g.2.2.2
 grind
def pNv {N:Z0} (h:NIn N):SB (Zn2 N) (Nv N):=by
 refine(nv0 (T:=∀ i:Int,0≤i→i<N.Topology.Devices.length→∀ l,idx N.Routes i=some l→∀ b,idx N.Labels i=some b→Dn N.Topology (deB N.Failure i) i l b) (pCv h.t h.c) (pFv h.t h.fl h.fd) λhc hf hr hl=>?_).iff ⟨λg=>⟨g.1.1,g.1.2.1,g.1.2.2.1,g.1.2.2.2,g.2⟩,λg=>⟨⟨g.c,g.f,g.r,g.l⟩,g.d⟩⟩
 have hd:=hf.v.d1
 refine Wfs (LKp om om (λn i i0 i1=>?_) λn=>?_)
 rw[Zf8,if_pos (Wf i1),wi (i+1) om om];have a:=idx_of (l:=N.Routes) i0 om;have b:=idx_of (l:=N.Labels) i0 om;obtain⟨r,e,hv⟩:=pDn a b (h.r _ (Zwn a)) h.fd hd;rw[e,a,b];simp only[Wn,forall_eq']
 refine Wa1 ?_
 rw[←hv];cases r<;>simp;rw[Zf8,if_neg sM]
def rNv {N:Z0} (h:NIn N):SB (Zmu N) (Nv N):=by
 refine(nv0 (T:=∀ i:Int,0≤i→i<N.Topology.Devices.length→∀ l,idx N.Routes i=some l→∀ b,idx N.Labels i=some b→Dn N.Topology (deB N.Failure i) i l b) (rCv h.t h.c) (rFv h.t h.fl h.fd) λhc hf hr hl=>?_).iff ⟨λg=>⟨g.1.1,g.1.2.1,g.1.2.2.1,g.1.2.2.2,g.2⟩,λg=>⟨⟨g.c,g.f,g.r,g.l⟩,g.d⟩⟩
 have hd:=hf.v.d1
 refine Wfs (LKp om om (λn i i0 i1=>?_) λn=>?_)
 rw[Zfj,if_pos (Wf i1),wi (i+1) om om];have a:=idx_of (l:=N.Routes) i0 om;have b:=idx_of (l:=N.Labels) i0 om;have hR:=h.r _ (Zwn a);have hRn:=hR.n
 generalize N.Routes[i.toNat]'om=l at a hR hRn
 generalize N.Labels[i.toNat]'om=q at b
 have al:Zbi N.Topology N.Failure i=some (!deB N.Failure i):=by
  unfold Zbi;obtain⟨r,e,hv⟩:=rFv h.t h.fl h.fd;rw[e,hv.2 hf,has_eq _ _ h.fd];rw[Wf (show i≥0 from i0),Wf i1];rfl
 obtain⟨r,e,hv⟩:=rRt hR;simp only[al,a,b,e,Wc,ifor rfl,ifand rfl,Wn,forall_eq'];generalize deB N.Failure i=g
 refine(Wgj (g:=Rt l∧l.length≤256∧(g=true→l.length=0)∧q.length=N.Topology.Devices.length) ?_ λw=>Stp.seq (P:=∀ k:Int,0≤k→k<l.length→∀ x,idx l k=some x→rtB N.Topology i x=true) (LKp om om (λn k k0 k1=>?_) λn=>?_) λ_=>Wgv (P:=∀ k:Int,0≤k→k<N.Topology.Devices.length→∀ x,idx q k=some x→lbB N.Topology g i k x=true) (LKp om om (λn k k0 k1=>?_) λn=>?_)).iff ⟨λh=>⟨h.1.1,h.1.2.1,h.1.2.2.1,h.1.2.2.2,h.2.1,λk k0 k1=>h.2.2 k k0 (by rw[←h.1.2.2.2];exact k1)⟩,λh=>⟨⟨h.v,h.n,h.z,h.m⟩,h.r,λk k0 k1=>h.b k k0 (by rw[h.m];exact k1)⟩⟩
 rw[←hv]
 by_cases h1:l.length≤256<;>by_cases h2:q.length=N.Topology.Devices.length<;>by_cases h3:l.length=0<;>cases r<;>cases g<;>simp[h1,h2,h3]<;>omega
 rw[Zfh,a];simp only[Wc];rw[if_pos (Wf k1),wi (k+1) om om,idx_of k0 k1];generalize l[k.toNat]'om=x;simp only[Wn,forall_eq',Wc,eg_eq,Zah5 hf.v,ifor rfl,ifand rfl]
 refine Wa1 ?_
 unfold rtB;cases x.Edge<;>cases ownB2 N.Topology i x.Port<;>cases egO N.Topology i x.Port<;>simp;rw[Zfh,a];simp only[Wc];rw[if_neg sM];rw[Zfi,if_pos (Wf k1),wi (k+1) om om,b];simp only[Wc];rw[idx_of k0 (by have:=w.2.2.2;omega)];generalize q[k.toNat]'(by have:=w.2.2.2;omega)=x;simp only[Wn,forall_eq',Wc,Zah5 hf.v,ifor rfl,ifand rfl]
 refine Wa1 ?_
 unfold lbB;cases hx:x==-1<;>cases g<;>cases hi:k==i<;>cases ownB2 N.Topology i x<;>simp[hx,hi,bne];rw[Zfi,if_neg sM];rw[Zfj,if_neg sM]
def H8 (h:Zab):Prop:=¬(h.Ports.Lo=8∧h.Ports.Hi=8)
def P8 (p:Zw):Prop:=∀ i:Int,0≤i→i<p.Hides.length→∀ h,idx p.Hides i=some h→H8 h
def C8 (c:Zo):Prop:=∀ i:Int,0≤i→i<c.Ports.length→∀ p,idx c.Ports i=some p→P8 p
structure Nd (N:Z0):Prop where
 n:Nv N
 g:∀ i:Int,0≤i→i<N.Configs.length→∀ c,idx N.Configs i=some c→Cg c∧C8 c
def pP8 {p:Zw} (h:PIn p):Ck (Zj2 p fuel 0) (P8 p):=by
 have hl:=h.h
 refine LKp om om (λn i i0 i1=>?_) λn=>?_
 rw[Zj2,if_pos (Wf i1),wi (i+1) om om,idx_of i0 i1]
 refine Wa1 ?_
 unfold H8 Zba;simp;rw[Zj2,if_neg sM]
def rP8 {p:Zw} (h:PIn p):Ck (Zhx p fuel 0) (P8 p):=by
 have hl:=h.h
 refine LKp om om (λn i i0 i1=>?_) λn=>?_
 rw[Zhx,if_pos (Wf i1),wi (i+1) om om,idx_of i0 i1];simp only[Wc,ifand rfl]
 refine Wa1 ?_
 unfold H8;simp;rw[Zhx,if_neg sM]
def SB.fst {A x:Option Bool} {P T:Prop} (ha:SB A P) (k:P→SB x T):SB (A.bind λr1=>if(!r1)=true then Option.some false else x) (P∧T):=by
 obtain⟨a,e,h⟩:=ha;rw[e]
 refine SB.and4 (g:=P) ?_ k
 grind
def Stp.fst {x b:Option Yb} {A:Option Bool} {P T:Prop} (ha:SB A P) (k:P→Stp x b T):Stp (A.bind λr1=>if(!r1)=true then Option.some (.inr false)else x) b (P∧T):=by
 obtain⟨a,e,h⟩:=ha;rw[e]
 refine Wgj (g:=P) ?_ k
 grind
def pNd {N:Z0} (h:NIn N):SB (Zdt N) (Nd N):=by
 refine((pNv h).fst λhn=>Wfs (LKp om (by have:=hn.c.len;have:=hn.f.v.d1;omega) (λn i i0 i1=>?_) λn=>?_)).iff ⟨λg=>⟨g.1,g.2⟩,λg=>⟨g.n,g.g⟩⟩
 have hm:=hn.c.len;have hd:=hn.f.v.d1;rw[Zom,if_pos (Wf i1),wi (i+1) om om,idx_of i0 i1];have hc:=h.c _ (Wu (show i.toNat<N.Configs.length by omega))
 generalize N.Configs[i.toNat]'om=c at hc
 have hcl:=hc.l;simp only[Wn,forall_eq']
 refine Stp.fst (pCg hc) λ_=>Wgv (LKp om om (λn k k0 k1=>?_) λn=>?_)
 rw[Zol,if_pos (Wf k1),wi (k+1) om om,idx_of k0 k1];simp only[Wn,forall_eq'];exact Wgv (pP8 (hc.p _ (Wu (show k.toNat<c.Ports.length by omega))));rw[Zol,if_neg sM];rw[Zom,if_neg sM]
def rNd {N:Z0} (h:NIn N):SB (Zdm N) (Nd N):=by
 refine((rNv h).fst λhn=>Wfs (LKp om (by have:=hn.c.len;have:=hn.f.v.d1;omega) (λn i i0 i1=>?_) λn=>?_)).iff ⟨λg=>⟨g.1,g.2⟩,λg=>⟨g.n,g.g⟩⟩
 have hm:=hn.c.len;have hd:=hn.f.v.d1;rw[Zmq,if_pos (Wf i1),wi (i+1) om om,idx_of i0 i1];have hi:=idx_of i0 i1;have hc:=h.c _ (Wu (show i.toNat<N.Configs.length by omega))
 generalize N.Configs[i.toNat]'om=c at hc hi
 have hcl:=hc.l;simp only[Wn,forall_eq']
 refine Stp.fst (rCg hc) λ_=>Wgv (LKp (m:=c.Ports.length) om om (λn k k0 k1=>?_) λn=>?_)
 rw[Zmp,hi];simp only[Wc];rw[if_pos (Wf k1),wi (k+1) om om,idx_of k0 k1];simp;exact Wgv (rP8 (hc.p _ (Wu (show k.toNat<c.Ports.length by omega))));rw[Zmp,hi];simp only[Wc];rw[if_neg sM];rw[Zmq,if_neg sM]
def Z1k {N:Z0} (h:NIn N):∃ v,Zdt N=some v∧Zdm N=some v∧(v=true↔Nd N):=by
 obtain⟨v,e,hv⟩:=pNd h;exact⟨v,e,by rw[←e];exact(SB.same (rNd h) (pNd h) Wc6),hv⟩
def vn_rn':∀ s,s∈rn→Zad s=some true:=by
 intro s h
 simp  [rn,Wy,Wag,or_false]at h
 rcases h with rfl|rfl|rfl|rfl|rfl|rfl<;>kernel_rfl
def vn_en':∀ s,s∈en→Zad s=some true:=by
 intro s h
 simp  [en,Wy,Wag,or_false]at h
 rcases h with rfl|rfl|rfl|rfl|rfl<;>kernel_rfl
def vn_rn (i:Nat) (s:ByteArray) (h:rn[i]? = some s):Zad s=some true:=vn_rn' s (Wq h)
def vn_en (i:Nat) (s:ByteArray) (h:en[i]? = some s):Zad s=some true:=vn_en' s (Wq h)
def vn_zn:∀ s,s∈zn→Zad s=some true:=by
 intro s h
 simp  [zn,Wy,Wag,or_false]at h
 rcases h with rfl|rfl|rfl<;>kernel_rfl
def vn_cn:∀ s,s∈cn→s=ByteArray.empty∨Zad s=some true:=by
 intro s h
 simp  [cn,Wy,Wag,or_false]at h
 rcases h with rfl|rfl|rfl
 exact .inl rfl;exact .inr kR;exact .inr kR
def Zadq {N:List ByteArray} (hN:(N.map ByteArray.toList).Nodup) {i j:Nat} {s t:ByteArray} (h1:N[i]? = some s) (h2:N[j]? = some t) (hne:i≠j):(s.toList==t.toList)=false:=by
 rw[beq_eq_false_iff_ne];intro e
 have g1:(N.map ByteArray.toList)[i]? = some s.toList:=gD
 have g2:(N.map ByteArray.toList)[j]? = some t.toList:=gD
 obtain⟨a1,a2⟩:=We.1 g1;obtain⟨b1,b2⟩:=We.1 g2;have:=(List.getElem_inj (h₀:=a1) (h₁:=b1) hN).1 gD;omega
def rn_nd:(rn.map ByteArray.toList).Nodup:=by decide +kernel
def en_nd:(en.map ByteArray.toList).Nodup:=by decide +kernel
def Zah6 {T:Zb} (hd:All DOk T.Devices) (h6:T.Devices.length≤6) {i:Nat} (hi:i<T.Devices.length) {s:ByteArray} (hs:rn[i]? = some s) (t:Zb) (ht:t.Devices=T.Devices):Zew t s=some (i:Int):=by
 have L:∀ n k,k≤i→i-k<n→Zct t s n k=some (.inr (i:Int)):=by
  intro n
  induction n with
  |zero=>omega
  |succ n ih=>
   intro k hk hn
   have hk2:k<T.Devices.length:=om
   unfold Zct;rw[ht,if_pos gD,Zat hk2,wi (k+1) om om];simp only[Wc];have g:=(hd k T.Devices[k] gD).name
   by_cases e:k=i
   subst e;rw[hs]at g;rw[←Wau g];simp;rw[Zadq rn_nd g hs e];exact ih (k+1) om om
 have hf:=Z8;unfold Zew;rw[show 0=((0:Nat):Int)from rfl,L fuel 0 om om];rfl
def Zak1 {T:Zb} (hT:XOk T) {i:Nat} (hi:i<T.Edges.length) {s:ByteArray} (hs:en[i]? = some s):Zcc T s=some (i:Int):=by
 have e1:=hT.e1
 have L:∀ n k,k≤i→i-k<n→Zc9 T s n k=some (.inr (i)):=by
  intro n
  induction n with
  |zero=>omega
  |succ n ih=>
   intro k hk hn
   have hk2:k<T.Edges.length:=om
   unfold Zc9;rw[if_pos gD,Zat hk2,wi (k+1) om om];simp only[Wc];have g:=(hT.edge k T.Edges[k] gD).name
   by_cases e:k=i
   subst e;rw[hs]at g;rw[←Wau g];simp;rw[Zadq en_nd g hs e];exact ih (k+1) om om
 have hf:=Z8;unfold Zcc;rw[show 0=((0:Nat):Int)from rfl,L fuel 0 om om];rfl
def Zadr {T:Zb} (hT:XOk T):Zcm T.Devices=some true:=by
 have d0:=hT.d0;have d1:=hT.d1
 refine Wh1 (Lf ?_)
 rw[Wr om,Wr om]
 refine Wa (p:=λo=>o=.inl ()) (LC (m:=T.Devices.length) om om (λn i i0 i1 ih=>?_) λn=>?_) λo ho=>by subst ho;exact Wb rfl
 unfold Zbs;rw[if_pos (Wf i1),wi (i+1) om om]
 have hi:i.toNat<T.Devices.length:=om
 have hx:idx T.Devices i=some T.Devices[i.toNat]:=by simp[AM.idx,i0]
 have g:=hT.dev i.toNat T.Devices[i.toNat] gD;have gl:=g.lim;rw[hx]
 refine Lf ?_
 rw[vn_rn _ _ g.name]
 refine Lf (Lf (Wa (p:=λv=>v=false) ?_ λv hv=>?_))
 simp;rw[Zah6 hT.dev d1 hi g.name (Zb.mk T.Devices [] [] [] 0) rfl]
 refine Lf (Wb ?_)
 rw[bne_eq_false_iff_eq];omega;subst hv
 refine Lf (Wa (p:=λv=>v=false) (Wb gD) λv hv=>?_)
 subst hv
 refine Lf (Wa (p:=λv=>v=false) (Wb gD) λv hv=>?_)
 subst hv
 refine Lf (Wa (p:=λv=>v=false) ?_ λv hv=>?_)
 simp only[Waa,if_false]
 refine Lf (Lf (Wa (p:=λv=>v=false) (Wi (λh=>?_) λ_=>Wb rfl) λv hv=>Wb hv))
 refine Lf ?_
 rcases vn_cn _ g.cls with e|e
 rw[e]at h;simp at h
 rw[e];exact Lf (Wb rfl);subst hv;exact ih;unfold Zbs;rw[if_neg sM];exact Wb rfl
def Zah7:∀(i:Nat) p,subnets[i]? = some p→Zcs p=some true∧1≤p.Bits:=by
 intro i p h;have:=Wq h
 simp  [subnets,Wy,Wag,or_false]at this
 rcases this with rfl|rfl|rfl|rfl|rfl|rfl<;>exact⟨kR,dC⟩
def Zads {T:Zb} (hT:XOk T):Zdf T=some (subnets.take T.Edges.length):=by
 have hf:=Z8;have hlim:=lim_eq;have e1:=hT.e1
 have L:∀ n k,k≤T.Edges.length→T.Edges.length-k<n→Zcg T n (subnets.take k) k=some (subnets.take T.Edges.length):=by
  intro n
  induction n with
  |zero=>omega
  |succ n ih=>
   intro k hk hn;unfold Zcg
   by_cases h:k<T.Edges.length
   have g:=hT.edge k T.Edges[k] gD;rw[if_pos gD,Zat h,wi (k+1) om om];simp only[Wc,g.pl,Wg9,if_true];rw[if_pos sO]
   have e:subnets.take k++[(T.Edges[k]).Prefix]=subnets.take (k+1):=by
    rw[Wbg,g.pre];rfl
   rw[e];exact ih (k+1) om om
   grind
 unfold Zdf;have:=L fuel 0 om om
 grind
def Zah8:∀ k:Fin 6,Zcj (subnets.take k.1) fuel 0=some (.inl ()):=by
 intro k
 rcases(by omega:k=0∨k=1∨k=2∨k=3∨k=4∨k=5)with rfl|rfl|rfl|rfl|rfl|rfl<;>kernel_rfl
def Zagw {T:Zb} (h:T.Pools∈pl4):Zc0 T fuel 0=some (.inl ()):=by
 obtain⟨D,K,E,P,t⟩:=T
 simp  [pl4,Wy,Wag,or_false]at h
 rcases h with rfl|rfl|rfl|rfl<;>kernel_rfl
def Z4p {T:Zb} (hT:XOk T):Zcx T=some true:=by
 have k1:=hT.k1;have e1:=hT.e1;have p1:=hT.p1;have t0:=hT.t0;have t1:=hT.t1;unfold Zcx;rw[Zadr hT]
 refine Wh1 (Lf (Lf (Lf (Lf (Lf (Lf ?_))))))
 rw[Wr (p:=(T.Links.length:Int)>24) om,Wr (p:=(T.Edges.length:Int)>12) om,Wr (p:=(T.Pools.length:Int)>8) om,Wr (p:=T.Tolerate<0) om,Wr (p:=T.Tolerate>2) om]
 refine Wa (p:=λo=>o=.inl ()) (LC (m:=T.Links.length) om om (λn i i0 i1 ih=>?_) λn=>?_) λo ho=>?_
 unfold Zch;rw[if_pos (Wf i1),wi (i+1) om om]
 refine Ix i0 i1 λl hl=>?_
 have g:=hT.link l hl;have g0:=g.h0;have g1:=g.h1;have g2:=g.h2;have gc:=g.cost
 simp at gc
 rw[Wr (p:=l.A<0) om,Wr (p:=l.B≤l.A) om,Wr (p:=l.B≥(T.Devices.length:Int)) om,Wr (p:=l.Cost<1) om,Wr (p:=l.Cost>1000) om];exact ih;unfold Zch;rw[if_neg sM];exact Wb rfl;subst ho
 refine Wa (p:=λo=>o=.inl ()) (LC (m:=T.Edges.length) om om (λn i i0 i1 ih=>?_) λn=>?_) λo ho=>?_
 unfold Zci;rw[if_pos (Wf i1),wi (i+1) om om]
 have hi:i.toNat<T.Edges.length:=om
 have hx:idx T.Edges i=some T.Edges[i.toNat]:=by simp[AM.idx,i0,hi]
 have g:=hT.edge i.toNat T.Edges[i.toNat] (by simp[hi]);have g0:=g.h0;have g1:=g.h1;have gv:=Zah7 _ _ g.pre;rw[hx]
 refine Lf (Wa (p:=λv=>v=true) ?_ λv hv=>?_)
 unfold Zde;rw[vn_en _ _ g.name]
 refine Lf (Lf (Wa (p:=λv=>v=false) ?_ λv hv=>?_))
 simp;rw[vn_zn _ g.zone];exact Lf (Wb rfl);subst hv;rw[Wr (p:=(T.Edges[i.toNat]).Device<0) om,Wr (p:=(T.Edges[i.toNat]).Device≥(T.Devices.length:Int)) om,Wr (p:=(T.Edges[i.toNat]).Prefix.Bits<1) om];rw[gv.1,g.pl];exact Wb rfl;subst hv
 refine Lf (Wa (p:=λv=>v=false) ?_ λv hv=>?_)
 simp
 refine Lf ?_
 rw[Zak1 hT hi g.name]
 refine Lf (Wb ?_)
 rw[bne_eq_false_iff_eq];omega;subst hv;exact ih;unfold Zci;rw[if_neg sM];exact Wb rfl;subst ho;rw[Zads hT]
 refine Lf ?_
 rw[Zah8 ⟨T.Edges.length,om⟩]
 refine Lf ?_
 rw[Zagw hT.pools];exact Wb rfl
def Z2f {T:Zb} (hT:XOk T):Zax T=some true:=by
 have e1:=hT.e1;unfold Zax;rw[Z4p hT,Zads hT];simp[subnets];omega
def Zak2:∀(i:Nat) p,(subnets.take 5)[i]? = some p→Zb9 p 3325256705=some false∧Zb9 p 3405803781=some false:=by
 intro i p h;have:=Wq h
 simp  [subnets,List.take,Wy,Wag,or_false]at this
 rcases this with rfl|rfl|rfl|rfl|rfl<;>exact⟨kR,kR⟩
def At_out {T:Zb} (hT:XOk T) {a:Int} (ha:a=3325256705∨a=3405803781):Zff T a=some (-1):=by
 have e1:=hT.e1
 refine Wh1 (Wa (p:=λo=>o=.inl ()) (LC (m:=T.Edges.length) om om (λn i i0 i1 ih=>?_) λn=>?_) λo ho=>by subst ho;exact Wb rfl)
 unfold Zef;rw[if_pos (Wf i1),wi (i+1) om om]
 have hi:=om
 have hx:idx T.Edges i=some T.Edges[i.toNat]:=by simp[AM.idx,i0]
 have g:=hT.edge i.toNat T.Edges[i.toNat] (by simp );rw[hx]
 refine Lf ?_
 rw[g.pl]
 refine Lf (Wa (p:=λv=>v=false) ?_ λv hv=>?_)
 simp only[Wg9,if_true]
 refine Lf ?_
 have q:=Zak2 i.toNat (T.Edges[i.toNat]).Prefix (by rw[List.getElem?_take_of_lt om];exact g.pre)
 rcases ha with rfl|rfl
 rw[q.1];exact Wb rfl;rw[q.2];exact Wb rfl;subst hv;exact ih;unfold Zef;rw[if_neg sM];exact Wb rfl
def Fits (a e j:Nat):Prop:=a%2^j=0∧a+2^j≤e
instance (a e j:Nat):Decidable (Fits a e j):=inferInstanceAs (Decidable (_∧_))
def Fits.mono {a e i j:Nat} (h:Fits a e j) (hij:i≤j):Fits a e i:=by
 obtain⟨h1,h2⟩:=h;have hd:=Wdj 2 hij;exact⟨Nat.mod_eq_zero_of_dvd (Nat.dvd_trans hd om),by have:=Wcd (n:=2) om hij;omega⟩
structure IsG (a e j:Nat):Prop where
 fits:Fits a e j
 top:¬Fits a e (j+1)
def IsG.uniq {a e i j:Nat} (h:IsG a e i) (k:IsG a e j):i=j:=by
 rcases Wc2 i j with hlt|rfl|hgt
 exact absurd (k.fits.mono hlt) h.top;rfl;exact absurd (h.fits.mono hgt) k.top
def gexp (a e:Nat):Nat→Nat
 |0=>0
 |j+1=>if Fits a e (j+1)then j+1 else gexp a e j
def gxL (a e:Nat):Nat:=gexp a e 33
def Zaa4 {a e:Nat} (h:a<e):∀ j,¬Fits a e (j+1)→IsG a e (gexp a e j)
 |0,hn=>⟨⟨by rw[gexp];omega,by rw[gexp];omega⟩,hn⟩
 |j+1,hn=>by
  rw[gexp];split;exact⟨gD,hn⟩;exact Zaa4 h j gD
def Z4u {a e:Nat} (h:a<e) (he:e≤4294967296):IsG a e (gxL a e):=Zaa4 h 33 λhf=>by
 have h1:=hf.2;omega
def Wf3:=@Nat.one_le_two_pow
def gx_pos (a e:Nat):1≤2^gxL a e:=Wf3
def gb (a e:Nat):List Za:=
 if h:a<e then⟨(a:Int),((a+2^gxL a e-1:Nat):Int)⟩::gb (a+2^gxL a e) e else[]
termination_by e-a
decreasing_by
 have:=gx_pos a e;omega
def gb_nil {a e:Nat} (h:¬a<e):gb a e=[]:=by rw[gb];grind
def Z4v {a e:Nat} (h:a<e):gb a e=⟨a,(a+2^gxL a e-1:Nat)⟩::gb (a+2^gxL a e) e:=by
 conv=>lhs;rw[gb]
 grind
def Z98 {e:Nat} (he:e≤4294967296):∀ j a,a%2^j=0→e<a+2^j→(gb a e).length≤j
 |j,a,h1,h2=>by
  by_cases h:a<e
  have hg:=Z4u h he
  have hlt:gxL a e<j:=by
   refine Wai λhn=>?_
   have:=(hg.fits.mono (Nat.le_of_not_lt hn)).2;omega
  rw[Z4v h,Waj]
  have hd:(a+2^gxL a e)%2^gxL a e=0:=by
   rw[Nat.add_mod,hg.fits.1];simp
  have hr:e<a+2^gxL a e+2^gxL a e:=by
   refine Wai λhn=>hg.top ⟨?_,?_⟩
   exact Nat.mod_eq_zero_of_dvd (Nat.dvd_trans (Wdj 2 hlt) om)
   grind
  have:=Z98 he (gxL a e) _ hd hr;omega;rw[gb_nil h];simp
 termination_by j=>j
def Zaja {a i:Nat} (h1:a%2^i=0) (h2:a%2^(i+1)≠0):(a+2^i)%2^(i+1)=0:=by
 obtain⟨q,rfl⟩:=Nat.dvd_of_mod_eq_zero h1
 have hq:q%2=1:=by
  rcases Nat.mod_two_eq_zero_or_one q with h|h
  exfalso;apply h2;obtain⟨r,rfl⟩:=Nat.dvd_of_mod_eq_zero h;rw[←Weu];exact Nat.mul_mod_right _ _;exact h
 have:2^i*q+2^i=2^(i+1)*((q+1) / 2):=by
  have e1:q+1=2*((q+1) / 2):=om
  grind
 simp_all
def gb_up {e w:Nat} (he:e≤4294967296) (hw:e≤2^w):∀ m j a,j+m=w+1→a%2^j=0→(gb a e).length≤w+2+m
 |m,j,a,hm,h1=>by
  by_cases h:a<e
  have hg:=Z4u h he
  by_cases hj:e<a+2^j
  have:=Z98 he j a h1 hj;omega
  have hij:j≤gxL a e:=by
   refine Wai λhn=>hg.top ?_
   exact Fits.mono (j:=j) ⟨h1,om⟩ om
  have hiw:gxL a e≤w:=by
   refine Wai λhn=>?_
   have h3:=hg.fits.2;have h4:=Nat.pow_lt_pow_right (a:=2) om (Nat.lt_of_not_le hn);omega
  rw[Z4v h,Waj]
  by_cases ho:a%2^(gxL a e+1)=0
  have hr:e<a+2^gxL a e+2^gxL a e:=by
   refine Wai λhn=>hg.top ⟨ho,?_⟩
   omega
  have hd:(a+2^gxL a e)%2^gxL a e=0:=by
   rw[Nat.add_mod,hg.fits.1];simp
  have:=Z98 he (gxL a e) _ hd hr;omega
  have hm1:(gxL a e+1)+(w+1-(gxL a e+1))=w+1:=om
  have:=gb_up he hw (w+1-(gxL a e+1)) (gxL a e+1) _ hm1 (Zaja hg.fits.1 ho);omega;rw[gb_nil h];simp
 termination_by m=>m
def gb_len {a e w:Nat} (he:e≤4294967296) (hw:e≤2^w):(gb a e).length≤2*w+3:=by
 have:=gb_up he hw (w+1) 0 a om gD;omega
theorem Zajb (a b:Nat):Int.tmod (a:Int) (b:Int)=(a%b:Nat):=rfl
def Zajc {j:Nat} (h:j≤33):2^j≤8589934592:=by
 have:=Wcd (n:=2) om h
 grind
def end_eq {r:Za} {hi:Nat} (hr:r.Hi=hi) (h:hi<4294967296):wrap .u64 ((wrap .u64 r.Hi)+1)=(hi+1:Nat):=by
 rw[hr,wu64 (x:=hi) om om,wu64 om om];omega
def rL2 {r:Za} {hi a:Nat} (hr:r.Hi=hi) (h:hi<4294967296) (ha:a<hi+1):∀ m j n,j+m=33→Fits a (hi+1) j→Zma r a (n+m+1) ((2^j:Nat):Int)=some ((2^gxL a (hi+1):Nat):Int)
 |m,j,n,hm,hf=>by
  have h2:=Zajc (show j≤33 by omega);have h3:1≤2^j:=Wf3
  have e2:2*((2^j:Nat):Int)=(2^(j+1):Nat):=om
  have e3:((2^j:Nat):Int)*2=(2^(j+1):Nat):=gD
  rw[Zma,e2,e3,wu64 (x:=(2^(j+1):Nat)) om om,if_pos om,end_eq hr h,Zajb,wu64 (x:=a+(2^(j+1):Nat)) om om];simp only[Wc]
  by_cases hg:Fits a (hi+1) (j+1)
  have hj:j+1≤33:=by
   have h5:=hg.2
   grind
  obtain⟨m',rfl⟩:∃ m',m=m'+1:=⟨m-1,om⟩;rw[if_pos];exact rL2 hr h ha m' (j+1) n om hg;simp only[Wh,Wcr,W2];have h5:=hg.1;have h6:=hg.2;exact⟨om,om⟩;rw[if_neg,(IsG.mk hf hg).uniq (Z4u ha om)];simp only[Wh,Wcr,W2];rintro⟨h5,h6⟩;exact hg ⟨om,om⟩
 termination_by m=>m
def Z8z (m:Nat) (h:m≤1000):∃ n,fuel=n+m+1:=⟨fuel-m-1,by unfold fuel;omega⟩
def Zajd {a s:Nat} (h:a+s≤4294967296) (hs:1≤s):(⟨wrap .u32 a,wrap .u32 (wrap .u64 (wrap .u64 (a+s)-1))⟩:Za)=⟨a,(a+s-1:Nat)⟩:=by
 rw[wu32 (x:=a) om om,wu64 (x:=a+s) om om,wu64 (x:=a+s-1) om om,wu32 om om]
 grind
def rL1 {r:Za} {hi:Nat} (hr:r.Hi=hi) (h:hi<4294967296):∀ k a n l,(gb a (hi+1)).length=k→a≤hi+1→l.length+k≤1000 →
  Zmb r (n+k+1) l a=some (l++gb a (hi+1))
 |k,a,n,l,hk,ha,hl=>by
  rw[Zmb,end_eq hr h]
  by_cases hlt:a<hi+1
  rw[if_pos gD];obtain⟨f,hf⟩:=Z8z 33 om;have h1:Fits a (hi+1) 0:=⟨Nat.mod_one a,om⟩;rw[hf,show(1:Int)=(2^0:Nat)from rfl,rL2 hr h hlt 33 0 f om h1];have h6:=(Z4u hlt om).fits.2;have h7:1≤2^gxL a (hi+1):=Wf3;rw[Z4v hlt,Waj]at hk;obtain⟨k',rfl⟩:∃ k',k=k'+1:=⟨k-1,om⟩;simp only[Wc];rw[if_pos (by simp;unfold lim;omega),show(2^0:Nat)=(1:Int)from rfl,Zajd om h7,Z4v hlt,wu64 om om];have:=rL1 hr h k' (a+2^gxL a (hi+1)) n (l++[⟨a,(a+2^gxL a (hi+1)-1:Nat)⟩]) om om gD;rw[show n+(k'+1)=n+k'+1 by omega,show(a+(2^gxL a (hi+1):Nat))=((a+2^gxL a (hi+1):Nat):Int) by omega,this,Wan];rfl;rw[if_neg gD,gb_nil hlt,War]
 termination_by k=>k
def bl (r:Za):List Za:=gb r.Lo.toNat (r.Hi.toNat+1)
def rBlocks {r:Za} {w:Nat} {top:Int} (hr:ROk top r) (hw:w≤32) (ht:top<(2^w:Nat)):Zdk r w=some (bl r):=by
 have g0:=hr.h0;have g1:=hr.h1;have g2:=hr.h2
 have h32:=by
  have:=Wcd (n:=2) om hw;omega
 have hlo:r.Lo=r.Lo.toNat:=om
 have hhi:r.Hi=r.Hi.toNat:=om
 unfold Zdk;have hwu:wrap .u64 (w:Int)=(w:Int):=wu64 om om;have hhu:wrap .u64 r.Hi=r.Hi:=wu64 om om;have hlu:=wu64 om om;have d1:decide ((w:Int)<0)=false:=Wr om;have d2:decide ((w:Int)>32)=false:=Wr om;have d3:decide (r.Lo>r.Hi)=false:=Wr om;have d4:decide (r.Hi≥(2^w:Nat))=false:=Wr om;rw[hwu,hhu,hlu,Zacw om,d2,d3,d4];have hlen:=gb_len (a:=r.Lo.toNat) (e:=r.Hi.toNat+1) (w:=w) om om;obtain⟨n,hn⟩:=Z8z (gb r.Lo.toNat (r.Hi.toNat+1)).length om;have hmain:=rL1 hhi om _ r.Lo.toNat n [] rfl om gD;rw[←hlo,←hn]at hmain;rw[hmain];rfl
def bls (b:Arr5 Za):Arr5 Yc:=⟨bl b.x0,bl b.x1,bl b.x2,bl b.x3,bl b.x4⟩
def p31:(4294967295:Int)<(2^32:Nat):=dC
def p8:(255:Int)<(2^8:Nat):=dC
def p16:(65535:Int)<(2^16:Nat):=dC
def Zagx {b:Arr5 Za} (h:BOk b) {k:Int} (h0:0≤k) (h1:k<5):Zsz b k=some ((bls b).get k):=by
 rcases five h0 h1 with rfl|rfl|rfl|rfl|rfl
 show(Zdk b.x0 (32:Nat)).bind _=_;rw[rBlocks h.h0 om p31];rfl;show(Zdk b.x1 (32:Nat)).bind _=_;rw[rBlocks h.h1 om p31];rfl;show(Zdk b.x2 (8:Nat)).bind _=_;rw[rBlocks h.h2 om p8];rfl;show(Zdk b.x3 (16:Nat)).bind _=_;rw[rBlocks h.h3 om p16];rfl;show(Zdk b.x4 (16:Nat)).bind _=_;rw[rBlocks h.h4 om p16];rfl
def crn (b:Bx):List Int:=lowsL (toL b)
def crn_nd {l:List Bx} (h:VS l):(l.map crn).Nodup:=by
 have:=Z8j tops5 h.cf;rw[Wa3]at this;exact this
def crn_in {l:List Bx} (h:VS l) {b:Bx} (hb:b∈l):vP tops5 (crn b)∧mem l (crn b)=true∧∀ i,i<5→(crn b).getD i 0=0∨∃ q,vP tops5 q∧vP tops5 (dn i q)∧q.take (i+1)=(crn b).take (i+1)∧mem l q≠mem l (dn i q):=by
 have g:=cornerL tops5 h.cf (toL b) (Wbv hb);exact⟨Zac2 tops5 (ok_vR (h.ok b hb)),g.1,g.2⟩
def Sx (P:List Int) (i:Int):List Int:=(sr i).Lo::P.filter (inR · (sr i))
def Dx (P:List Int) (i:Int):List Int:=(([0,1,2,3,4]:List Int).filter (·!=i)).flatMap (Sx P)
def Tx (Q:List (Int×Int)):List (Int×Int×Int):=[(0,0,0),(2,0,0),(7,0,0),(18,0,0),(50,0,0),(51,0,0),(1,0,8),(1,9,8),(6,0,0),(17,0,0)]++Q.map λz=>(z.1,0,z.2)
def U3 (A B:List Int) (C:List (Int×Int×Int)):List Ya:=A.flatMap λa=>B.flatMap λb=>C.map λc=>[a,b,c.1,c.2.1,c.2.2]
def U3_len (A B:List Int) (C:List (Int×Int×Int)):(U3 A B C).length≤C.length*B.length*A.length:=by
 refine Ztd λa _=>Ztd λb _=>?_
 simp
def U3_mem {A B:List Int} {C:List (Int×Int×Int)} {a b d e f:Int} (ha:a∈A) (hb:b∈B) (hc:(d,e,f)∈C):[a,b,d,e,f]∈U3 A B C:=
 Waq.2 ⟨a,ha,Waq.2 ⟨b,hb,Wah.2 ⟨_,hc,rfl⟩⟩⟩
def sr_pos {i:Int} (i0:0≤i) (i1:i<5):0<(sr i).Lo:=by
 rcases(by omega:i=0∨i=1∨i=2∨i=3∨i=4)with rfl|rfl|rfl|rfl|rfl<;>decide
def eb_sr {i v:Int} (i0:0≤i) (i1:i<5) (hv:v∈eb) (h:inR v (sr i)=true):v=(sr i).Lo:=by
 simp  [eb,Wy,Wag,or_false]at hv
 rcases(by omega:i=0∨i=1∨i=2∨i=3∨i=4)with rfl|rfl|rfl|rfl|rfl<;>rcases hv with rfl|rfl|rfl|rfl|rfl|rfl|rfl<;>revert h<;>decide
def in_Sx {x:Zs} {i v:Int} (i0:0≤i) (i1:i<5) (hv:v=0∨v∈PX x) (h:inR v (sr i)=true):v∈Sx (P0 x) i:=by
 rcases hv with hv|hv
 have:=(Zdw.1 h).1;have:=sr_pos i0 i1;omega
 rcases Wl.1 hv with hv|hv
 rw[eb_sr i0 i1 hv h];exact Wz ..;exact Wc7 _ gD
def in_Dx {P:List Int} {i j v:Int} (j0:0≤j) (j1:j<5) (hne:j≠i) (h:v∈Sx P j):v∈Dx P i:=by
 refine Waq.2 ⟨j,W6.2 ⟨?_,gD⟩,h⟩
 grind
def Zxv {i j v:Int} (i0:0≤i) (i1:i<5) (j0:0≤j) (j1:j<5) (h1:inR v (sr i)=true) (h2:inR v (sr j)=true):i=j:=by
 rw[Zdw]at h1 h2
 rcases(by omega:i=0∨i=1∨i=2∨i=3∨i=4)with rfl|rfl|rfl|rfl|rfl<;>rcases(by omega:j=0∨j=1∨j=2∨j=3∨j=4)with rfl|rfl|rfl|rfl|rfl<;>first|rfl|(simp only[sr]at h1 h2;simp at h1 h2;omega)
def cnt5 (P:List Int):(P.filter (inR · (sr 0))).length+(P.filter (inR · (sr 1))).length+(P.filter (inR · (sr 2))).length+(P.filter (inR · (sr 3))).length+(P.filter (inR · (sr 4))).length≤P.length:=by
 induction P with
 |nil=>simp
 |cons v P ih=>
  have key:∀ i j ,0≤i→i<5→0≤j→j<5→i≠j→¬(inR v (sr i)=true∧inR v (sr j)=true):=λi j a b c d e h=>e (Zxv a b c d h.1 h.2)
  simp  [Wb2]
  grind
def prod72 (P:List Int) (hP:P.length≤12) {i:Int} (i0:0≤i) (i1:i<5):(Dx P i).length*(Sx P i).length≤72:=by
 have h:=cnt5 P
 have key:∀ a b ,a+b≤12→(4+b)*(1+a)≤72:=by
  intro a b hab;have h1:(4+b)*(1+a)≤(16-a)*(1+a):=W9 _ om
  have h2:∀ k:Fin 13,(16-k.1)*(1+k.1)≤72:=dC
  have h3:=h2 ⟨a,om⟩
  grind
 rcases(by omega:i=0∨i=1∨i=2∨i=3∨i=4)with rfl|rfl|rfl|rfl|rfl<;>simp[Dx,Sx]
 have:=key (P.filter (inR · (sr 0))).length ((P.filter (inR · (sr 1))).length+(P.filter (inR · (sr 2))).length+(P.filter (inR · (sr 3))).length+(P.filter (inR · (sr 4))).length) om;rw[Wfa 1]at this
 refine Wbj (We4 ?_) this
 congr 1;omega
 have:=key (P.filter (inR · (sr 1))).length ((P.filter (inR · (sr 0))).length+(P.filter (inR · (sr 2))).length+(P.filter (inR · (sr 3))).length+(P.filter (inR · (sr 4))).length) om;rw[Wfa 1]at this
 refine Wbj (We4 ?_) this
 congr 1;omega
 have:=key (P.filter (inR · (sr 2))).length ((P.filter (inR · (sr 1))).length+(P.filter (inR · (sr 0))).length+(P.filter (inR · (sr 3))).length+(P.filter (inR · (sr 4))).length) om;rw[Wfa 1]at this
 refine Wbj (We4 ?_) this
 congr 1;omega
 have:=key (P.filter (inR · (sr 3))).length ((P.filter (inR · (sr 1))).length+(P.filter (inR · (sr 2))).length+(P.filter (inR · (sr 0))).length+(P.filter (inR · (sr 4))).length) om;rw[Wfa 1]at this
 refine Wbj (We4 ?_) this
 congr 1;omega
 have:=key (P.filter (inR · (sr 4))).length ((P.filter (inR · (sr 1))).length+(P.filter (inR · (sr 2))).length+(P.filter (inR · (sr 3))).length+(P.filter (inR · (sr 0))).length) om
 grind
def Tx_len {Q:List (Int×Int)} (h:Q.length≤12):(Tx Q).length≤22:=by unfold Tx;simp_all
def UF (x:Zs) (i:Int):List Ya:=U3 (Sx (P0 x) i) (Dx (P0 x) i) (Tx (QX x))
def UT (x:Zs) (i:Int):List Ya:=U3 (Dx (P0 x) i) (Sx (P0 x) i) (Tx (QX x))
def UF_len {T:Zb} {x:Zs} (h:IOk T x) {i:Int} (i0:0≤i) (i1:i<5):(UF x i).length≤1584:=by
 have h1:=U3_len (Sx (P0 x) i) (Dx (P0 x) i) (Tx (QX x));unfold UF;rw[Weu]at h1;have:=Wdp (Tx_len (QX_len h)) (prod72 (P0 x) (P0_len h) i0 i1);omega
def UT_len {T:Zb} {x:Zs} (h:IOk T x) {i:Int} (i0:0≤i) (i1:i<5):(UT x i).length≤1584:=by
 have h1:=U3_len (Dx (P0 x) i) (Sx (P0 x) i) (Tx (QX x));unfold UT;rw[Weu,Wgg (Sx _ _).length]at h1;have:=Wdp (Tx_len (QX_len h)) (prod72 (P0 x) (P0_len h) i0 i1);omega
def Zah9 {a c d e f:Int} (h:mem ini [a,c,d,e,f]=true):d=6∨d=17∨(d=1∧f=8∧e≠8)∨(d≠1∧d≠6∧d≠17∧e=0∧f=0):=by
 obtain⟨y,hy,hm⟩:=mem_in h;rw[mem1]at hm
 simp  [Wh,Zdw]at hm
 simp  [ini,Wy,Wag,or_false]at hy
 rcases hy with rfl|rfl|rfl|rfl|rfl|rfl|rfl|rfl<;>dsimp  at hm<;>omega
def Zaa5 {T:Zb} (hT:XOk T) {x:Zs} {l:List Bx} (hg:GS (KXI x) l) (hr:RS T l) {b:Bx} (hb:b∈l):∃ a c d e f i j,crn b=[a,c,d,e,f]∧0≤i∧i<5∧0≤j∧j<5∧i≠j∧inR a (sr i)=true∧inR c (sr j)=true∧a∈Sx (P0 x) i∧c∈Sx (P0 x) j∧(d,e,f)∈Tx (QX x):=by
 have e1:=hT.e1;obtain⟨hv,hm,hc⟩:=crn_in hg.v hb;obtain⟨a,c,d,e,f,hq⟩:=fiveP hv;rw[hq]at hv hm hc;obtain⟨hi,y,⟨i,j,i0,i1,j0,j1,hne,rfl⟩,hy⟩:=hr _ hv hm;have hw:=hy;rw[mem1]at hw;simp only[Wh]at hw
 have K:∀ n,n<5→[a,c,d,e,f].getD n 0=0∨∃ q,q.take (n+1)=[a,c,d,e,f].take (n+1)∧vP tops5 q∧KXI x n q:=by
  intro n hn
  rcases hc n hn with h|⟨q,h1,h2,h3,h4⟩
  exact .inl h;exact .inr ⟨q,h3,h1,hg.c n hn q h1 h2 h4⟩
 have k0:=K 0 om;have k1:=K 1 om;have k2:=K 2 om;have k3:=K 3 om;have k4:=K 4 om
 have ha:a=0∨a∈PX x:=by
  rcases k0 with h|⟨q,h1,h2,h3⟩
  exact .inl h;obtain⟨a',c',d',e',f',rfl⟩:=fiveP h2
  simp at h1;subst h1;exact .inr h3
 have hcc:c=0∨c∈PX x:=by
  rcases k1 with h|⟨q,h1,h2,h3⟩
  exact .inl h;obtain⟨a',c',d',e',f',rfl⟩:=fiveP h2
  simp at h1;obtain⟨rfl,rfl⟩:=h1;exact .inr h3
 have hd:d=0∨d∈pr9:=by
  rcases k2 with h|⟨q,h1,h2,h3⟩
  exact .inl h;obtain⟨a',c',d',e',f',rfl⟩:=fiveP h2
  simp at h1;obtain⟨rfl,rfl,rfl⟩:=h1;exact .inr h3
 have he:e=0∨(d≠6∧d≠17∧(d=1→e=8∨e=9)):=by
  rcases k3 with h|⟨q,h1,h2,h3⟩
  exact .inl h;obtain⟨a',c',d',e',f',rfl⟩:=fiveP h2
  simp at h1;obtain⟨rfl,rfl,rfl,rfl⟩:=h1;exact .inr h3
 have hf:f=0∨(d=6∨d=17→(d,f)∈QX x):=by
  rcases k4 with h|⟨q,h1,h2,h3⟩
  exact .inl h;obtain⟨a',c',d',e',f',rfl⟩:=fiveP h2
  simp at h1;obtain⟨rfl,rfl,rfl,rfl,rfl⟩:=h1;exact .inr h3
 refine⟨a,c,d,e,f,i,j,hq,i0,om,j0,om,hne,hw.1,hw.2.1,in_Sx i0 om ha hw.1,in_Sx j0 om hcc hw.2.1,?_⟩
 unfold Tx;rw[Wl];simp only[pr9,Wy,Wag,or_false]at hd
 have q67:∀ d,d=6∨d=17→(e=0∨(d≠6∧d≠17∧(d=1→e=8∨e=9)))→(f=0∨(d=6∨d=17→(d,f)∈QX x))→(d,e,f)∈([(0,0,0),(2,0,0),(7,0,0),(18,0,0),(50,0,0),(51,0,0),(1,0,8),(1,9,8),(6,0,0),(17,0,0)]:List (Int×Int×Int))∨(d,e,f)∈(QX x).map λz=>(z.1,0,z.2):=by
  simp_all
 rcases Zah9 hi with h|h|⟨h1,h2,h3⟩|⟨h1,h2,h3,h4,h5⟩
 exact q67 d (.inl h) he hf;exact q67 d (.inr h) he hf;subst h1 h2
 rcases he with he|he
 subst he;exact .inl dC
 have:e=9:=by have:=he.2.2 rfl;omega
 subst this;exact .inl dC
 grind
def crn_UF {T:Zb} (hT:XOk T) {x:Zs} {l:List Bx} (hg:GS (KXI x) l) (hr:RS T l) {i:Int} (i0:0≤i) (i1:i<5) (hs:∀ q,vP tops5 q→mem l q=true→inR (q.getD 0 0) (sr i)=true) {b:Bx} (hb:b∈l):crn b∈UF x i:=by
 obtain⟨a,c,d,e,f,i',j,hq,a1,a2,a3,a4,hne,h1,h2,h3,h4,h5⟩:=Zaa5 hT hg hr hb;have g:=crn_in hg.v hb;have k:=hs _ g.1 g.2.1;rw[hq]at k;have e:=Zxv i0 i1 a1 a2 k h1;subst e;rw[hq];exact U3_mem h3 (in_Dx a3 a4 (λh=>hne h.symm) h4) h5
def crn_UT {T:Zb} (hT:XOk T) {x:Zs} {l:List Bx} (hg:GS (KXI x) l) (hr:RS T l) {j:Int} (j0:0≤j) (j1:j<5) (hs:∀ q,vP tops5 q→mem l q=true→inR (q.getD 1 0) (sr j)=true) {b:Bx} (hb:b∈l):crn b∈UT x j:=by
 obtain⟨a,c,d,e,f,i',j',hq,a1,a2,a3,a4,hne,h1,h2,h3,h4,h5⟩:=Zaa5 hT hg hr hb;have g:=crn_in hg.v hb;have k:=hs _ g.1 g.2.1;rw[hq]at k;have e:=Zxv j0 j1 a3 a4 k h2;subst e;rw[hq];exact U3_mem (in_Dx a1 a2 hne h3) h4 h5
def len_UF {T:Zb} (hT:XOk T) {x:Zs} (hx:IOk T x) {l:List Bx} (hg:GS (KXI x) l) (hr:RS T l) {i:Int} (i0:0≤i) (i1:i<5) (hs:∀ q,vP tops5 q→mem l q=true→inR (q.getD 0 0) (sr i)=true):l.length≤1584:=by
 have h:=Wb1 (crn_nd hg.v) (l₂:=UF x i) λq hq=>by
  obtain⟨b,hb,rfl⟩:=Wah.1 hq;exact crn_UF hT hg hr i0 i1 hs hb
 rw[Wt]at h;have:=UF_len hx i0 i1;omega
structure PrOk (T:Zb) (x:Zs) (i j:Int) (l:List Bx):Prop where
 g:GS (KXI x) l
 r:RS T l
 m:∀ q,vP tops5 q→mem l q=true→mem [wh i j] q=true
def PoG.po {T:Zb} {x:Zs} {p:Zac} (h:PoG (GR T x) p):PoOk p:=h.mono λ_ g=>g.g.v
def PairE {T:Zb} (hT:XOk T) {x:Zs} {p:Zac} (hp:PoG (GR T x) p) {i j:Int} (i0:0≤i) (i1:i<T.Edges.length) (j0:0≤j) (j1:j<T.Edges.length):Ok (Znk T p i j) λr=>r.1≠[]→i≠j∧PrOk T x i j r.1:=by
 have e1:=hT.e1
 refine Wa (Zkz hT) λv _=>Wi (λ_=>Wb λh=>absurd rfl h) λ_=>Lf (Lf (Lf (Wi (λ_=>Wb λh=>absurd rfl h) λh=>?_)))
 refine Wi (λ_=>Wb λh=>absurd rfl h) λhne=>?_
 rw[Ztc hT i0 i1 j0 j1]
 have hb:∀ y∈[wh i j],BOk y:=λy hy=>by rw[Wj.1 hy];exact wh_ok i j
 have u:=sr_ct i0 om x;have w:=sr_ct j0 om x
 refine Lf (Wa (In_g hp.a.g sM (λy hy=>(hb y hy).bin) (by rw[flt_vB hb];exact KX_box ⟨u.lo,u.hi⟩ ⟨w.lo,w.hi⟩ ⟨.inl rfl,.inl rfl⟩ (.inl rfl) (.inl rfl))) λr hr=>Wb λ_=>⟨gD,hr.1,λq hq hm=>hp.a.r q hq (hr.2 q hq hm).1,λq hq hm=>?_⟩)
 have g:=(hr.2 q hq hm).2
 rwa [flt_vB hb]at g
def Zafx {b:Bx} (hb:BOk b) (r:Bool):Ok (Zrq b r) λ_=>True:=by
 have hf:=Z8
 have L:∀ n v i,0≤i→i≤5→(5-i).toNat<n→Ok (Zr5 b r n v i) λ_=>True:=by
  intro n
  induction n with
  |zero=>omega
  |succ n ih=>
   intro v i h0 h1 hn
   refine Lf (Wi (λh=>?_) λ_=>Wb trivial)
   simp at h
   rw[Zagx hb h0 h.1,wi (i+1) om om]
   grind
 exact Wa (Zy3 b) λv _=>Wi (λ_=>Wb trivial) λ_=>Wa (L fuel _ 0 om om om) λv _=>Wb trivial
def Sum_ok {l:List Bx} (hl:l.length≤1000000) (hb:∀ x∈l,BOk x) (r:Bool):Ok (Zso l r) λ_=>True:=by
 have hf:=Z8
 have L:∀ n (v i:Int),0≤i→i≤l.length→(l.length-i).toNat<n→Ok (Zpr l r n v i) λ_=>True:=by
  intro n
  induction n with
  |zero=>omega
  |succ n ih=>
   intro v i h0 h1 hn;unfold Zpr;rw[wi (i+1) om om]
   exact Wx (λhc=>Ix h0 hc λx hx=>Wa (Zafx (hb x hx) r) λv _=>ih _ _ om om om) λ_=>Wb trivial
 unfold Zso
 grind
structure PlOk (T:Zb) (y:Zs) (x:Zal):Prop where
 f0:0≤x.From
 f1:x.From<T.Edges.length
 t0:0≤x.To
 t1:x.To<T.Edges.length
 ne:x.From≠x.To
 s:PrOk T y x.From x.To x.Allow
def Zaa6 {T:Zb} (hT:XOk T) {y:Zs} {x:Zal} (hx:PlOk T y x) {l:List Int} (hl:l.length=T.Devices.length):Ok (Znl T l x) λr=>r.length=T.Devices.length:=by
 have hlim:=lim_eq;have d1:=hT.d1;have hs:=hx.s.g.v;have hsl:=hs.len;unfold Znl;rw[Ztc hT hx.f0 hx.f1 hx.t0 hx.t1]
 refine Ap gD (Ix hx.f0 hx.f1 λa ha=>Ix hx.t0 hx.t1 λb hb=>?_)
 have ea:=hT.edev ha;have eb:=hT.edev hb
 refine Wa (p:=λo:Int×Int=>(0≤o.1∧o.1<T.Devices.length)∧0≤o.2∧o.2<T.Devices.length) (Wi (λ_=>Wb ⟨eb,ea⟩) λ_=>Wb ⟨ea,eb⟩) λ⟨u,v⟩ ⟨g1,g2⟩=>?_
 rw[Wb7]
 refine Ix g1.1 om λc _=>Ix g1.1 g1.2 λd _=>Wa (Sum_ok om hs.ok _) λn _=>Ix g1.1 om λ_ _=>Ix g2.1 gD λe _=>Lf (Ix g2.1 g2.2 λf _=>Wa (Zafx (wh_ok _ _) _) λn _=>Ix g2.1 gD λ_ _=>Wb gD)
def Zafy {T:Zb} (hT:XOk T) {l:List Int} (hl:l.length=T.Devices.length):Ok (Zqn T l) λ_=>True:=by
 have d1:=hT.d1
 refine Wa (LC (Q:=λ_=>True) (m:=l.length) om om (λn i i0 i1 ih=>?_) λn=>?_) λo _=>?_
 unfold Znm;rw[wi (i+1) om om]
 exact Wx (λ_=>Ix i0 i1 λx _=>Ix i0 om λy _=>Wi (λ_=>Wb trivial) λ_=>ih) λ_=>Wb trivial
 unfold Znm
 exact Wx gD λ_=>Wb trivial
 rcases o with o|o<;>exact Wb trivial
def pc (x:Zal):Int:=5*x.From+x.To
structure LPl (T:Zb) (y:Zs) (w:List Zal) (m:Int):Prop where
 x:∀ x,x∈w→PlOk T y x
 o:(w.map pc).Pairwise (·<·)
 b:∀ x,x∈w→pc x<m
 l:w.length≤m
def LPl.nil {T:Zb} {y:Zs}:LPl T y [] 0:=⟨sM,sM,sM,sM⟩
def LPl.mono {T:Zb} {y:Zs} {w:List Zal} {m n:Int} (h:LPl T y w m) (k:m≤n):LPl T y w n:=⟨h.x,h.o,λx hx=>by have:=h.b x hx;omega,by have:=h.l;omega⟩
def LPl.snoc {T:Zb} {y:Zs} {w:List Zal} {m:Int} (h:LPl T y w m) {x:Zal} (hx:PlOk T y x) (e:pc x=m):LPl T y (w++[x]) (m+1):=by
 refine⟨λz hz=>?_,?_,λz hz=>?_,by have:=h.l;grind⟩
 rcases Wl.1 hz with k|k
 exact h.x z k;rw[Wj.1 k];exact hx;rw[Wa0]
 exact Z4c h.o λi hi=>by
  obtain⟨z,hz,rfl⟩:=Wah.1 hi;rw[e];exact h.b z hz
 rcases Wl.1 hz with k|k
 have:=h.b z k;omega
 grind
def Zaet {T:Zb} (hT:XOk T) {y:Zs} {p:Zac} (hp:PoG (GR T y) p) {i:Int} (i0:0≤i) (i1:i<T.Edges.length) (n:Nat):∀ w e s (j:Int),0≤j→j≤T.Edges.length→LPl T y w (5*i+j)→s.length=T.Devices.length→(T.Edges.length-j).toNat<n→Ok (Zmc T p i n w e s j) λo=>match o with|.inl r=>LPl T y r.1 (5*i+5)∧r.2.2.length=T.Devices.length|.inr r=>r.1=[]:=by
 have hlim:=lim_eq;have e1:=hT.e1
 induction n with
 |zero=>omega
 |succ n ih=>
  intro w e s j h0 h1 hw hs hn;have hwl:=hw.l;unfold Zmc;rw[wi (j+1) om om]
  refine Wx (λhc=>?_) λ_=>Wb ⟨hw.mono om,hs⟩
  refine Wa (p:=λo=>match o with|.inl r=>LPl T y r.1 (5*i+(j+1))∧r.2.2.length=T.Devices.length|.inr r=>r.1=[]) ?_ λo ho=>?_
  refine Wa (PairE hT hp i0 i1 h0 hc) λ⟨S,e2⟩ hS=>Wi (λ_=>Wb rfl) λhe=>Lf (Wi (λ_=>Wb ⟨hw.mono om,hs⟩) λhz=>?_)
  have hS:=hS gD
  have q:∀ b ,PlOk T y ⟨i,j,b,S⟩:=λb=>⟨i0,i1,h0,hc,hS.1,hS.2⟩
  refine Wa (Zaa6 hT (q false) hs) λc hc1=>?_
  refine Wa (p:=λo=>(∃ b,o.1=⟨i,j,b,S⟩)∧o.2.length=T.Devices.length) (Wa (Zafy hT hc1) λv _=>Wi (λ_=>Wa (Zaa6 hT (q true) hs) λc hc2=>Wb ⟨⟨true,rfl⟩,hc2⟩) λ_=>Wb ⟨⟨false,rfl⟩,hc1⟩) λ⟨x,c2⟩ ⟨⟨b,hx⟩,h2⟩=>?_
  subst hx
  exact Wa (Zafy hT h2) λv _=>Wi (λ_=>Wb ⟨hw.mono om,hs⟩) λ_=>Ap gD (Wb ⟨(hw.snoc (q b) rfl).mono om,h2⟩)
  rcases o with o|o
  exact ih _ _ _ _ om om ho.1 ho.2 om;exact Wb ho
def Zaeu {T:Zb} (hT:XOk T) {y:Zs} {p:Zac} (hp:PoG (GR T y) p) (n:Nat):∀ w z e s (i:Int),0≤i→i≤T.Edges.length→LPl T y w (5*i)→s.length=T.Devices.length→(T.Edges.length-i).toNat<n→Ok (Zmd T p n w z e s i) λo=>match o with|.inl r=>LPl T y r.1 25|.inr r=>r.1=[]:=by
 have hf:=Z8;have e1:=hT.e1
 induction n with
 |zero=>omega
 |succ n ih=>
  intro w z e s i h0 h1 hw hs hn;unfold Zmd;rw[wi (i+1) om om]
  refine Wx (λhc=>Wa (Zaet hT hp h0 hc fuel w e s 0 om om (hw.mono om) hs om) λo ho=>?_) λ_=>Wb (hw.mono om)
  rcases o with o|o
  exact ih _ _ _ _ _ om om (ho.1.mono om) ho.2 om;exact Wb ho
def Zaje {T:Zb} (hT:XOk T) {y:Zs} {p:Zac} (hp:PoG (GR T y) p):Ok (Zs0 T p) λr=>LPl T y r.1 25:=by
 have hf:=Z8;have hlim:=lim_eq;have d1:=hT.d1;have e1:=hT.e1;have nil25:LPl T y [] 25:=LPl.nil.mono om
 refine Wa (Z8x hT hp.po) λv _=>Wi (λ_=>Wb nil25) λ_=>Waf om (Wa (Zaeu hT hp fuel [] _ 0 _ 0 om om LPl.nil sM om) λo ho=>?_)
 rcases o with⟨a,b,c⟩|⟨a,b⟩
 exact Wi (λ_=>Wb nil25) λ_=>Wb ho
 subst ho;exact Wb nil25
def mi (e:Int) (g:Bool) (x:Zal):Bool:=(if g=true then x.To else x.From)==e
def mW (e:Int) (g:Bool) (w:List Zal):List Bx:=(w.filter (mi e g)).flatMap (·.Allow)
def Zak3 (e:Int) (g:Bool) (w:List Zal) (x:Zal):mW e g (w++[x])=mW e g w++if mi e g x=true then x.Allow else[]:=by
 unfold mW
 grind
def crn_wh {T:Zb} {y:Zs} {i j:Int} {l:List Bx} (h:PrOk T y i j l) {b:Bx} (hb:b∈l):inR ((crn b).getD 0 0) (sr i)=true∧inR ((crn b).getD 1 0) (sr j)=true:=by
 have g:=crn_in h.g.v hb;have k:=h.m _ g.1 g.2.1;obtain⟨a,c,d,e,f,hq⟩:=fiveP g.1;rw[hq]at k⊢;rw[mem1]at k
 simp at k
 exact⟨k.1,k.2.1⟩
def PrOk.s0 {T:Zb} {y:Zs} {i j:Int} {l:List Bx} (h:PrOk T y i j l):∀ q,vP tops5 q→mem l q=true→inR (q.getD 0 0) (sr i)=true∧inR (q.getD 1 0) (sr j)=true:=by
 intro q hq hm;have k:=h.m q hq hm;obtain⟨a,c,d,e,f,rfl⟩:=fiveP hq;rw[mem1]at k
 simp at k
 exact⟨k.1,k.2.1⟩
def mW_len {T:Zb} (hT:XOk T) {y:Zs} (hy:IOk T y) {w:List Zal} {m:Int} (hw:LPl T y w m) {e:Int} (e0:0≤e) (e1:e<T.Edges.length) (g:Bool):(mW e g w).length≤1584:=by
 have h5:=hT.e1
 have nd:((mW e g w).map crn).Nodup:=by
  unfold mW;rw[List.map_flatMap];unfold List.Nodup;rw[List.pairwise_flatMap]
  refine⟨λx hx=>crn_nd (hw.x x (W6.1 hx).1).s.g.v,?_⟩
  have o:=hw.o;rw[Wdk]at o
  refine Wek ?_ (o.filter _)
  intro x z hx hz hlt u hu v hv huv;obtain⟨b,hb,rfl⟩:=Wah.1 hu;obtain⟨c,hc,rfl⟩:=Wah.1 hv;obtain⟨hx1,hx2⟩:=W6.1 hx;obtain⟨hz1,hz2⟩:=W6.1 hz;have px:=hw.x x hx1;have pz:=hw.x z hz1;have kb:=crn_wh px.s hb;have kc:=crn_wh pz.s hc;rw[huv]at kb;have a1:=Zxv px.f0 (by have:=px.f1;omega) pz.f0 (by have:=pz.f1;omega) kb.1 kc.1;have a2:=Zxv px.t0 (by have:=px.t1;omega) pz.t0 (by have:=pz.t1;omega) kb.2 kc.2
  unfold pc at hlt
  omega
 cases g
 have h:=Wb1 nd (l₂:=UF y e) λq hq=>by
  obtain⟨b,hb,rfl⟩:=Wah.1 hq;obtain⟨x,hx,hb⟩:=Waq.1 hb;obtain⟨hx1,hx2⟩:=W6.1 hx;have p:=hw.x x hx1
  have ee:=by simpa [mi]using hx2
  exact crn_UF hT p.s.g p.s.r e0 om (λq hq hm=>by rw[←ee];exact(p.s.s0 q hq hm).1) hb
 rw[Wt]at h;have:=UF_len hy e0 om;omega
 have h:=Wb1 nd (l₂:=UT y e) λq hq=>by
  obtain⟨b,hb,rfl⟩:=Wah.1 hq;obtain⟨x,hx,hb⟩:=Waq.1 hb;obtain⟨hx1,hx2⟩:=W6.1 hx;have p:=hw.x x hx1
  have ee:=by simpa [mi]using hx2
  exact crn_UT hT p.s.g p.s.r e0 om (λq hq hm=>by rw[←ee];exact(p.s.s0 q hq hm).2) hb
 rw[Wt]at h;have:=UT_len hy e0 om;omega
def RlOk (l:List Zai):Prop:=∀ r,r∈l→BOk r.Match
def Of8_ok {l:List Bx} (hl:l.length≤1000000) (hb:∀ x∈l,BOk x):Ok (Zwt l) λr=>r.length=l.length∧RlOk r:=by
 have hf:=Z8;have hlim:=lim_eq
 have L:∀ n w (i:Int),0≤i→i≤l.length→w.length=i→RlOk w→(l.length-i).toNat<n→Ok (Zqo l n w i) λr=>r.length=l.length∧RlOk r:=by
  intro n
  induction n with
  |zero=>grind
  |succ n ih=>
   intro w i h0 h1 hw hr hn;unfold Zqo;rw[wi (i+1) om om]
   refine Wx (λhc=>Ix h0 hc λx hx=>Ap gD (ih _ _ om om gD (λr h=>?_) om)) λ_=>Wb ⟨om,hr⟩
   rcases Wl.1 h with h|h
   exact hr r h
   grind
 exact Wa (L fuel [] 0 om om rfl (λ_ h=>(by cases h)) om) λv hv=>Wb hv
def Zadt {T:Zb} (hT:XOk T) {y:Zs} (hy:IOk T y) {w:List Zal} (hw:LPl T y w 25) {e:Int} (e0:0≤e) (e1:e<T.Edges.length) (g:Bool):Ok (Zps T w e g) λr=>r.length≤1609∧RlOk r:=by
 have hf:=Z8;have hlim:=lim_eq;have hwl:=hw.l;have hm:=mW_len hT hy hw e0 e1 g
 have pre:∀ i:Nat,(mW e g (w.take i)).length≤1584:=λi=>by
  have:mW e g w=mW e g (w.take i)++mW e g (w.drop i):=by
   unfold mW;rw[←List.flatMap_append,←List.filter_append,Wat]
  grind
 have L:∀(n:Nat) v i,i≤w.length→v.length≤(mW e g (w.take i)).length+i→RlOk v→w.length-i<n→Ok (Zme T w e g n v i) λr=>r.length≤1609∧RlOk r:=by
  intro n
  induction n with
  |zero=>omega
  |succ n ih=>
   intro v i h1 hv hr hn;have p:=pre i;unfold Zme;rw[wi (i+1) om om]
   refine Wx (λhc=>?_) λhc=>Wb ⟨om,hr⟩
   have hi:i<w.length:=om
   have hx:=hw.x w[i] (Wu hi);have hxl:=hx.s.g.v.len
   have et:mW e g (w.take (i+1))=mW e g (w.take i)++if mi e g w[i]=true then(w[i]).Allow else[]:=by
    rw[Wbg,Wo hi];exact Zak3 e g _ _
   refine Wa (p:=λv2=>v2.length≤(mW e g (w.take (i+1))).length+(i+1)∧RlOk v2) ?_ λv2 hv2=>ih v2 (i+1) om hv2.1 hv2.2 om
   rw[Zat hi]
   refine Lf (Wa (p:=λz=>z=if g=true then(w[i]).To else(w[i]).From) (Wi (λh=>Lf (Wb gD)) λh=>Wb gD) λz hz=>Wi (λ_=>Wb ⟨gD,hr⟩) λhne=>?_)
   have hmi:mi e g w[i]=true:=by
    unfold mi
    grind
   refine Lf (Wi (λ_=>Lf (Wa (Of8_ok om hx.s.g.v.ok) λs hs=>Ap om (Wb ⟨gD,λr h=>?_⟩))) λ_=>Lf (Lf ?_))
   rcases Wl.1 h with h|h
   exact hr r h;exact hs.2 r h;rw[Ztc hT hx.f0 hx.f1 hx.t0 hx.t1]
   refine Lf (Ap sO (Wb ⟨gD,λr h=>?_⟩))
   rcases Wl.1 h with h|h
   exact hr r h;rw[Wj.1 h];exact wh_ok _ _
 exact Wa (L fuel [] 0 om sM (λ_ h=>(by cases h)) om) λv hv=>Wb hv
def nonec:ByteArray:=⟨#[110,111,110,101]⟩
structure StrOk (s:Zaf):Prop where
 m:BOk s.Match
 c:s.Class=ips∨s.Class=dlp∨s.Class=nonec
def PIg.cls2 {G:List Bx→Prop} {l:List Z9} (h:PIg G l) {x:Z9} (hx:x∈l):x.Class=ips∨x.Class=dlp∨x.Class=nonec:=by
 have g:x.Class∈l.map (·.Class):=Wah.2 ⟨x,hx,rfl⟩;have c:=h.c
 unfold C4 at c
 grind
def Zaia {T:Zb} (hT:XOk T) {y:Zs} (hy:IOk T y) {p:Zac} (hp:PoG (GR T y) p) {e:Int} (e0:0≤e) (e1:e<T.Edges.length):Ok (Zod T p e) λr=>r.1.length≤3168∧∀ s,s∈r.1→StrOk s:=by
 have hf:=Z8;have hlim:=lim_eq;have h5:=hT.e1;have hl:=hp.i.len;have u:=sr_ct e0 om y
 have L2:∀(i:Int) (r:List Bx) (c:Int),0≤i→i<p.Inspect.length→(∀ b∈r,BOk b)→r.length≤1584→∀(n:Nat) (w:List Zaf) (b:Int),b≤10000→∀(k:Int),0≤k→k≤r.length→w.length≤b+k→(∀ s,s∈w→StrOk s)→(r.length-k).toNat<n→Ok (Zkh p i (r,c) n w k) λv=>v.length≤b+1584∧∀ s,s∈v→StrOk s:=by
  intro i r c i0 i1 hr hrl n
  induction n with
  |zero=>intro w b _ k _ _ _ _ h;omega
  |succ n ih=>
   intro w b hb k k0 k1 hw hs hn;unfold Zkh;rw[wi (k+1) om om]
   refine Wx (λhc=>Ix k0 hc λx hx=>Ix i0 i1 λz hz=>Ap sO (ih _ b hb _ om (by dsimp only at hc;omega) sO (λs h=>?_) (by dsimp only at hc;omega))) λ_=>Wb ⟨om,hs⟩
   rcases Wl.1 h with h|h
   exact hs s h;rw[Wj.1 h];exact⟨hr x hx,hp.i.cls2 hz⟩
 have fb:BOk ⟨sr e,full.x1,full.x2,full.x3,full.x4⟩:=⟨sr_ok e,Zm2.h1,Zm2.h2,Zm2.h3,Zm2.h4⟩
 have hfb:∀ b∈[({full with x0:=sr e}:Bx)],BOk b:=λb hb=>by rw[Wj.1 hb];exact fb
 have L1:∀(n:Nat) (w:List Zaf) (i:Int),0≤i→i≤p.Inspect.length→w.length≤1584*i→(∀ s,s∈w→StrOk s)→(p.Inspect.length-i).toNat<n→Ok (Zki p n w {full with x0:=sr e} i) λo=>match o with|.inl v=>v.1.length≤3168∧∀ s,s∈v.1→StrOk s|.inr v=>v.1=[]:=by
  intro n
  induction n with
  |zero=>intro w i _ _ _ _ h;omega
  |succ n ih=>
   intro w i h0 h1 hw hs hn;unfold Zki;rw[wi (i+1) om om]
   refine Wx (λhc=>Ix h0 hc λx hx=>?_) λ_=>Wb ⟨by dsimp only;omega,hs⟩
   have hg:=hp.i.s x hx
   refine Wa (In_g hg.g sM (λb hb=>(hfb b hb).bin) (by rw[flt_vB hfb];exact KX_box ⟨u.lo,u.hi⟩ ⟨.inl rfl,.inl rfl⟩ ⟨.inl rfl,.inl rfl⟩ (.inl rfl) (.inl rfl))) λ⟨r,c⟩ hr=>Wi (λ_=>Wb rfl) λ_=>?_
   have hrl:r.length≤1584:=len_UF hT hy hr.1 (λq hq hm=>hg.r q hq (hr.2 q hq hm).1) e0 om λq hq hm=>by
    have k:=(hr.2 q hq hm).2;rw[flt_vB hfb]at k;obtain⟨a,c,d,e,f,rfl⟩:=fiveP hq;rw[mem1]at k
    grind
   exact Wa (L2 i r c h0 hc hr.1.v.ok hrl fuel w (1584*i) om 0 om om om hs om) λv hv=>ih _ _ om om (by have:=hv.1;omega) hv.2 om
 unfold Zod;rw[Z9u,Ztc hT e0 e1 e0 e1]
 refine Lf (Lf (Wa (L1 fuel [] 0 om om sM (λ_ h=>(by cases h)) om) λo ho=>?_))
 rcases o with⟨o,b⟩|⟨o,c⟩
 exact Wi gD λ_=>Wb ho
 dsimp only at ho
 subst ho;exact Wb ⟨sM,λ_ h=>(by cases h)⟩
structure MvG (v:Zaa):Prop where
 f:BOk v.From
 t:BOk v.To
 d:v.From.x1=⟨3405803781,3405803781⟩
 s:Zj0 v=some true
 v:Zhq v=some true
def rk {t a b:Int} (h0:0≤a) (h1:a≤b) (h2:b≤t):ROk t ⟨a,b⟩:=⟨h0,h1,h2⟩
def MvG.of {a b p q k:Int} (ha:a=6∨a=17) (b0:0≤b) (b1:b≤4294967295) (p0:0≤p) (p1:p+k≤65535) (q0:0≤q) (q1:q+k≤65535) (k0:0≤k):MvG ⟨⟨⟨0,4294967295⟩,⟨3405803781,3405803781⟩,⟨a,a⟩,⟨0,65535⟩,⟨p,p+k⟩⟩,⟨⟨0,4294967295⟩,⟨b,b⟩,⟨a,a⟩,⟨0,65535⟩,⟨q,q+k⟩⟩⟩:=by
 have f:BOk ⟨⟨0,4294967295⟩,⟨3405803781,3405803781⟩,⟨a,a⟩,⟨0,65535⟩,⟨p,p+k⟩⟩:=⟨rk om om om,rk om om om,rk om om om,rk om om om,rk om om om⟩;have t:BOk ⟨⟨0,4294967295⟩,⟨b,b⟩,⟨a,a⟩,⟨0,65535⟩,⟨q,q+k⟩⟩:=⟨rk om om om,rk om om om,rk om om om,rk om om om,rk om om om⟩
 refine⟨f,t,rfl,?_,?_⟩
 rcases ha with rfl|rfl<;>rfl
 rw[Z2a];unfold vM;rw[ok_vB f,ok_vB t];unfold allF difM;simp[Arr5.get,show p+k-p=k by omega,show q+k-q=k by omega]
def Mv1 (l:List Zaa):Prop:=l=[]∨∃ v,l=[v]∧MvG v
def Zagy {T:Zb} (hT:XOk T) {m:Int} {x:Zs} (h:IntOk T m x) (e:Int):Ok (Zra T x e) Mv1:=by
 have hf:=Z8;have hlim:=lim_eq;have pl:=h.pl
 have L:∀ n w (i:Int),0≤i→i≤x.Published.length→w.length≤i→Mv1 w→(x.Published.length-i).toNat<n→Ok (Zjb T x e n w i) Mv1:=by
  intro n
  induction n with
  |zero=>grind
  |succ n ih=>
   intro w i h0 h1 hw hm hn;unfold Zjb;rw[wi (i+1) om om]
   refine Wx (λhc=>Wa (p:=λv=>v.length≤i+1∧Mv1 v) ?_ λv hv=>ih _ _ om om hv.1 hv.2 om) λ_=>Wb hm
   refine Ix h0 hc λu hu=>Wa (Zjo T _ hT.sk (h.p u hu).sk.2.2.2.1) λr _=>Wi (λ_=>?_) λ_=>Wb ⟨om,hm⟩
   have g:=h.p u hu;have gp:=g.proto;have g0:=g.p0;have g1:=g.p1;have gr0:=g.r0;have gr1:=g.r1;have gs:=g.sk.2.2.2.2.1
   have hw0:w=[]:=by
    rcases w with _|⟨a,w⟩
    rfl
    grind
   subst hw0;unfold Zoc;rw[Z9u];simp only[Wc];rw[wu32 (x:=u.Proto) om om,wu32 (x:=u.Port) om om,wu32 (x:=u.RealPort) om om,g.addr]
   refine Ap gD (Wb ⟨gD,.inr ⟨_,rfl,?_⟩⟩)
   have:=MvG.of (a:=u.Proto) (b:=u.Real) (p:=u.Port) (q:=u.RealPort) (k:=0) gp gs.1 om g0 om gr0 om om;rw[Int.add_zero,Int.add_zero]at this;exact this
 exact Wa (L fuel [] 0 om om sM (.inl rfl) om) λv hv=>Wb hv
structure PtOk (n:Nat) (p:Zw):Prop where
 i:RlOk p.Ingress
 il:p.Ingress.length+2*n≤4096
 e:RlOk p.Egress
 el:p.Egress.length+2*n≤4096
 m:Mv1 p.Moves
 h:∀ y,y∈p.Hides→HIn y
 hl:p.Hides.length≤256
 s:∀ s,s∈p.Steers→StrOk s
 sl:p.Steers.length+n≤4096
def PtOk.less {n:Nat} {p:Zw} (h:PtOk (n+1) p):PtOk n p:=⟨h.i,by have:=h.il;omega,h.e,by have:=h.el;omega,h.m,h.h,h.hl,h.s,by have:=h.sl;omega⟩
def el (T:Zb) (d:Int) (k:Nat):List Int:=List.map (λe:Nat=>Int.ofNat e) ((List.range k).filter λe:Nat=>decide ((T.Edges[e]?.map (·.Device))=some d))
def Z99 (T:Zb) (d:Int) {k:Nat} (hk:k<T.Edges.length):el T d (k+1)=if(T.Edges[k]).Device=d then el T d k++[(k:Int)]else el T d k:=by
 unfold el;rw[List.range_succ]
 grind
def el_len (T:Zb) (d:Int) (k:Nat):(el T d k).length≤k:=by
 unfold el
 grind
structure CfOk (n:Nat) (T:Zb) (k:Nat) (l:List Zo):Prop where
 len:l.length=T.Devices.length
 p:∀(d:Nat) c,l[d]? = some c→(∀ p,p∈c.Ports→PtOk n p)∧c.Ports.map (·.Edge)=el T (d:Int) k
def Wh4:=@List.getElem?_replicate
def CfOk.nil (n:Nat) (T:Zb):CfOk n T 0 (List.replicate T.Devices.length Zee):=by
 refine⟨sM,λd c h=>?_⟩
 rw[Wh4]at h
 split at h
 cases h;exact⟨λp hp=>((by cases hp)),rfl⟩;cases h
def Wem:=@List.getElem?_set
def CfOk.put {n:Nat} {T:Zb} {k:Nat} {l:List Zo} (h:CfOk n T k l) (hk:k<T.Edges.length) {p:Zw} (hp:PtOk n p) (he:p.Edge=k) {d:Nat} (hd:(T.Edges[k]).Device=d) {c:Zo} (hc:l[d]? = some c):CfOk n T (k+1) (l.set d {c with Ports:=c.Ports++[p]}):=by
 refine⟨by rw[Wa6];exact h.len,λj b hb=>?_⟩
 rw[Wem]at hb
 split at hb
 rename_i hj;subst hj
 split at hb
 cases hb;have g:=h.p d c hc
 refine⟨λq hq=>?_,?_⟩
 rcases Wl.1 hq with hq|hq
 exact g.1 q hq;rw[Wj.1 hq];exact hp;rw[Z99 T _ hk,if_pos hd,←g.2,Wa0,List.map_singleton,he];cases hb;rename_i hj;have g:=h.p j b hb
 refine⟨g.1,?_⟩
 rw[Z99 T _ hk,if_neg gD]
 grind
def Zajf {T:Zb} (hT:XOk T) {m:Int} {x:Zs} (h:IntOk T m x) (hm:m≤1000) (a:Int):Ok (Zs1 T x a) λr=>r.2=0→CfOk 3 T T.Edges.length r.1:=by
 have hf:=Z8;have hlim:=lim_eq;have d1:=hT.d1;have e1:=hT.e1
 refine Wa (At_ok hT h hm a) λ⟨p,c⟩ hp=>Wi (λhc=>Wb λe=>gD) λ_=>Wa (Zagm hT h hm) λc19 h19=>Wi (λhc=>Wb λe=>gD) λhc19=>?_
 dsimp only at hp
 have h19:=h19 (by simpa using hc19)
 refine Wa (Zahy hT hp.po) λr _=>Wi (λhc=>Wb λe=>gD) λ_=>Wa (Zaje hT hp) λ⟨w,c7⟩ hw=>Wi (λhc=>Wb λe=>gD) λ_=>Waf om ?_
 dsimp only at hw
 have L:∀(n:Nat) (l:List Zo) (i:Nat),i≤T.Edges.length→CfOk 3 T i l→T.Edges.length-i<n→Ok (Zmf T x (p,c) (w,c7) n l (i:Int)) λo=>match o with|.inl v=>CfOk 3 T T.Edges.length v|.inr v=>v.2≠0:=by
  intro n
  induction n with
  |zero=>intro l i _ _ h;omega
  |succ n ih=>
   intro l i h1 hl hn;unfold Zmf;rw[wi ((i:Int)+1) om om]
   refine Wx (λhc=>?_) λhc=>?_
   have hi:i<T.Edges.length:=om
   refine Wa (Zadt hT h.i hw om hc false) λt1 ht1=>Wa (Zadt hT h.i hw om hc true) λt2 ht2=>Wa (Zagy hT h _) λmv hmv=>?_
   obtain⟨hd,ehd,hhd⟩:=Z8u hT h hm (i:Int);rw[ehd]
   refine Lf (Wa (Zaia hT h.i hp om hc) λ⟨s,cs⟩ hs=>Wi (λhz=>Wb (by simpa using hz)) λ_=>?_)
   rw[Zat hi]
   refine Lf ?_
   have ed:=hT.edev (Wu hi)
   have hdn:((T.Edges[i]).Device.toNat:Int)=(T.Edges[i]).Device:=om
   have hdl:(T.Edges[i]).Device.toNat<l.length:=by rw[hl.len];omega
   have hx:idx l (T.Edges[i]).Device=some l[(T.Edges[i]).Device.toNat]:=by simp[AM.idx,ed.1,hdl]
   rw[hx];have hc2:=Wo hdl;have pl:=(hl.p _ _ hc2).2;have pl2:=el_len T (((T.Edges[i]).Device.toNat:Nat):Int) i;rw[←pl,Wt]at pl2
   refine Lf (Ap sO (ih _ (i+1) om (hl.put hi ⟨ht1.2,gD,ht2.2,gD,hmv,hhd.2,h19 (i:Int) om hc hd ehd,hs.2,gD⟩ rfl hdn.symm hc2) om))
   have:i=T.Edges.length:=om
   subst this;exact Wb hl
 have h0:=CfOk.nil 3 T
 refine Wa (L fuel _ 0 om h0 om) λo ho=>?_
 rcases o with o|o
 exact Wb λ_=>ho
 exact Wb λe=>absurd e ho
def Zrz {t:Zc} (ht:TOk t) {T:Zb} (hT:XOk T):Ok (Zcl t T) λr=>BOk r.1∧TOk r.2:=by
 have e1:=hT.e1
 refine Wa (Box_ok ht) λ⟨b,u⟩ ⟨hb,hu⟩=>?_
 refine Wa (p:=λo=>TOk o.1∧BOk o.2) ?_ λ⟨u2,b2⟩ ⟨h1,h2⟩=>?_
 refine Lf (Wa (p:=λo=>TOk o.2∧(o.1=true→0<T.Edges.length)) (Wx (λh=>Nxt hu om om λr a0 a1 a2=>Wb ⟨a2,λ_=>om⟩) λ_=>Wb ⟨hu,λe=>(by cases e)⟩) λ⟨c,u3⟩ ⟨g1,g2⟩=>Wi (λh=>?_) λ_=>Wb ⟨g1,hb⟩)
 have hl:=g2 h
 refine Nxt g1 om om λr a0 a1 a2=>?_
 obtain⟨x,x1,_,x3⟩:=Of_sr hT a0 a1;rw[x1]
 refine Lf ?_
 rw[x3]
 refine Lf (Nxt a2 om om λs b0 b1 b2=>?_)
 obtain⟨y,y1,_,y3⟩:=Of_sr hT b0 b1;rw[y1]
 refine Lf ?_
 rw[y3];exact Lf (Wb ⟨b2,sr_ok _,sr_ok _,hb.h2,hb.h3,hb.h4⟩)
 refine Wa (p:=λo=>TOk o.1∧BOk o.2) ?_ λ⟨u3,b3⟩ ⟨k1,k2⟩=>Wb ⟨k2,k1⟩
 refine Nxt h1 om om λr a0 a1 a2=>Wi (λ_=>Nxt a2 om om λs b0 b1 b2=>Ix b0 gD λv hv=>Wb ⟨b2,h2.h0,h2.h1,?_,h2.h3,h2.h4⟩) λ_=>Wb ⟨a2,h2⟩
 simp at hv
 exact rk om om om
def RlOk.snoc {l:List Zai} (h:RlOk l) {r:Zai} (hr:BOk r.Match):RlOk (l++[r]):=λy hy=>by
 rcases Wl.1 hy with hy|hy
 exact h y hy
 grind
def RlOk.app {l m:List Zai} (h:RlOk l) (k:RlOk m):RlOk (l++m):=λy hy=>(Wl.1 hy).elim (h y) (k y)
def Zaa7 {t:Zc} (ht:TOk t) {T:Zb} (hT:XOk T) {m:Int} (m0:0≤m) (m1:m≤4):Ok (Zeh t T m) λr=>(r.1.length≤m∧RlOk r.1)∧TOk r.2:=by
 have hf:=Z8;have hlim:=lim_eq
 have L:∀ n t w i,TOk t→0≤i→w.length+i≤m→RlOk w→i.toNat<n→Ok (Ze0 T n t w i) λo=>TOk o.1∧o.2.length≤m∧RlOk o.2:=by
  intro n
  induction n with
  |zero=>omega
  |succ n ih=>
   intro t w i ht h0 h1 hw hn;unfold Ze0;rw[wi (i-1) om om]
   exact Wx (λhc=>Wa (Zrz ht hT) λb hb=>Nxt hb.2 om om λr a0 a1 a2=>Ap gD (ih _ _ _ a2 om gD (hw.snoc hb.1) om)) λ_=>Wb ⟨ht,gD,hw⟩
 unfold Zeh;rw[wi (m+1) om om]
 exact Nxt ht om om λr a0 a1 a2=>Wa (L fuel _ [] _ a2 a0 gD (λ_ h=>(by cases h)) om) λ⟨u,v⟩ hv=>Wb ⟨hv.2,hv.1⟩
def Zy4 {t:Zc} (ht:TOk t) {T:Zb} (hT:XOk T) {m:Int} (m0:0≤m) (m1:m≤4):Ok (Zc5 t T m) λr=>(r.1.length≤m∧RlOk r.1)∧TOk r.2:=by
 have hf:=Z8;have hlim:=lim_eq
 have L:∀ n t w i,TOk t→0≤i→w.length+i≤m→RlOk w→i.toNat<n→Ok (Zgm T n t w i) λo=>TOk o.1∧o.2.length≤m∧RlOk o.2:=by
  intro n
  induction n with
  |zero=>grind
  |succ n ih=>
   intro t w i ht h0 h1 hw hn;unfold Zgm;rw[wi (i-1) om om]
   exact Wx (λhc=>Wa (Zrz ht hT) λb hb=>Nxt hb.2 om om λr a0 a1 a2=>Ap gD (ih _ _ _ a2 om gD (hw.snoc hb.1) om)) λ_=>Wb ⟨ht,gD,hw⟩
 unfold Zc5;rw[wi (m+1) om om]
 exact Nxt ht om om λr a0 a1 a2=>Wa (L fuel _ [] _ a2 a0 gD (λ_ h=>(by cases h)) om) λ⟨u,v⟩ hv=>Wb ⟨hv.2,hv.1⟩
def Zaaa {l:List Zo} (hl:l.length≤1000000) (hp:∀ c,c∈l→c.Ports.length≤1000000):Zcr l=some l:=by
 have hf:=Z8;have hlim:=lim_eq
 have L:∀ n k,k≤l.length→l.length-k<n→Zec l n (l.take k) k=some l:=by
  intro n
  induction n with
  |zero=>omega
  |succ n ih=>
   intro k hk hn;unfold Zec
   by_cases h:k<l.length
   have:=hp l[k] (Wu h);rw[if_pos gD,Zat h,wi (k+1) om om];simp only[Wc];rw[if_pos gD,if_pos gD]
   have e:l.take k++[Zo.mk ([]++(l[k]).Ports)]=l.take (k+1):=by
    rw[Wbg,Wo h];rfl
   rw[e];exact ih (k+1) om om
   grind
 unfold Zcr;have:=L fuel 0 om om
 grind
def StrOk.cls3 {c:ByteArray} (h:c∈[⟨#[105,112,115]⟩,⟨#[100,108,112]⟩,⟨#[110,111,110,101]⟩]):c=ips∨c=dlp∨c=nonec:=by
 simp at h
 exact h
def Zaib {t:Zc} (ht:TOk t) {T:Zb} (hT:XOk T) {n:Nat} (hn:n≤10) {p:Zw} (hp:PtOk (n+1) p):Ok (Zpt t T p) λr=>(PtOk n r.1∧r.1.Edge=p.Edge)∧TOk r.2:=by
 have hlim:=lim_eq;have il:=hp.il;have el:=hp.el;have sl:=hp.sl;have hq:=hp.less
 refine Wa (p:=λo=>TOk o.1∧PtOk n o.2∧o.2.Edge=p.Edge) ?_ λ⟨u,q⟩ h=>Wb ⟨h.2,h.1⟩
 refine Nxt ht om om λr a0 a1 a2=>Wi (λ_=>?_) λ_=>Wi (λ_=>?_) λ_=>Wi (λ_=>?_) λ_=>Wi (λ_=>?_) λ_=>Wi (λ_=>?_) λ_=>Wi (λ_=>?_) λ_=>Wi (λ_=>?_) λ_=>?_
 exact Wa (Zaa7 a2 hT om om) λs hs=>Ap om (Wb ⟨hs.2,⟨hs.1.2.app hq.i,gD,hq.e,hq.el,hq.m,hq.h,hq.hl,hq.s,hq.sl⟩,rfl⟩)
 exact Wa (Zaa7 a2 hT om om) λs hs=>Ap om (Wb ⟨hs.2,⟨hq.i,hq.il,hs.1.2.app hq.e,gD,hq.m,hq.h,hq.hl,hq.s,hq.sl⟩,rfl⟩)
 refine Wx (λh=>Waf om (Wb ⟨a2,⟨λy hy=>hq.i y gD,gD,hq.e,hq.el,hq.m,hq.h,hq.hl,hq.s,hq.sl⟩,rfl⟩)) λ_=>Wb ⟨a2,hq,rfl⟩
 refine Wx (λh=>Waf om (Wb ⟨a2,⟨hq.i,hq.il,λy hy=>hq.e y gD,gD,hq.m,hq.h,hq.hl,hq.s,hq.sl⟩,rfl⟩)) λ_=>Wb ⟨a2,hq,rfl⟩
 exact Wa (Zrz a2 hT) λb hb=>Wb ⟨hb.2,⟨λy hy=>gD,gD,hq.e,hq.el,hq.m,hq.h,hq.hl,hq.s,hq.sl⟩,rfl⟩
 refine Wa (Zrz a2 hT) λb hb=>Nxt hb.2 om om λs b0 b1 b2=>Ix b0 gD λc hc=>Ap gD (Wb ⟨b2,⟨hq.i,hq.il,hq.e,hq.el,hq.m,hq.h,hq.hl,λy hy=>?_,gD⟩,rfl⟩)
 rcases Wy.1 hy with hy|hy
 rw[hy];exact⟨hb.1,StrOk.cls3 hc⟩;exact hq.s y hy;exact Wb ⟨a2,⟨hq.i,hq.il,hq.e,hq.el,.inl rfl,hq.h,hq.hl,λy hy=>((by cases hy)),gD⟩,rfl⟩
 exact Wa (Zy4 a2 hT om om) λs hs=>Wa (Zy4 hs.2 hT om om) λv hv=>Wb ⟨hv.2,⟨hs.1.2,gD,hv.1.2,gD,hq.m,hq.h,hq.hl,hq.s,hq.sl⟩,rfl⟩
def CfOk.less {n:Nat} {T:Zb} {k:Nat} {l:List Zo} (h:CfOk (n+1) T k l):CfOk n T k l:=⟨h.len,λd c hc=>⟨λp hp=>((h.p d c hc).1 p hp).less,(h.p d c hc).2⟩⟩
def CfOk.zero:∀ {n:Nat} {T:Zb} {k:Nat} {l:List Zo},CfOk n T k l→CfOk 0 T k l
 |0,_,_,_,h=>h
 |_+1,_,_,_,h=>h.less.zero
def CfOk.pl {n:Nat} {T:Zb} {k:Nat} {l:List Zo} (h:CfOk n T k l) {d:Nat} {c:Zo} (hc:l[d]? = some c):c.Ports.length≤k:=by
 have:=el_len T d k;rw[←(h.p d c hc).2,Wt]at this;omega
def CfOk.mp {n:Nat} {T:Zb} {k:Nat} {l:List Zo} (h:CfOk n T k l) {c:Zo} (hc:c∈l):c.Ports.length≤k:=by
 obtain⟨d,hd,rfl⟩:=Wav hc;exact h.pl (Wo hd)
def CfOk.upd {n:Nat} {T:Zb} {k:Nat} {l:List Zo} (h:CfOk n T k l) {d:Nat} {c:Zo} (hc:l[d]? = some c) {i:Nat} {p q:Zw} (hp:c.Ports[i]? = some p) (hq:PtOk n q) (he:q.Edge=p.Edge):CfOk n T k (l.set d {c with Ports:=c.Ports.set i q}):=by
 refine⟨by rw[Wa6];exact h.len,λj b hb=>?_⟩
 rw[Wem]at hb
 split at hb
 rename_i hj;subst hj
 split at hb
 cases hb;have g:=h.p d c hc
 refine⟨λy hy=>?_,?_⟩
 rcases Wad hy with hy|hy
 exact g.1 y hy;rw[hy];exact hq;rw[←g.2];rw[Wef];apply Wch;intro j;rw[Wem];split;rename_i hji;subst hji;rw[Wbf,hp];have:=(We.1 hp).1;simp[this,he];rfl;cases hb;exact h.p j b hb
def Zaic {t:Zc} (ht:TOk t) {T:Zb} (hT:XOk T) {l:List Zo} (hl:CfOk 3 T T.Edges.length l):Ok (Zkj t T l) λr=>CfOk 0 T T.Edges.length r.1∧TOk r.2:=by
 have hf:=Z8;have d0:=hT.d0;have d1:=hT.d1;have e1:=hT.e1
 have L:∀ n t l i,TOk t→CfOk i T T.Edges.length l→i≤3→i<n→Ok (Zmt T n t l i) λo=>TOk o.1∧CfOk 0 T T.Edges.length o.2:=by
  intro n
  induction n with
  |zero=>omega
  |succ n ih=>
   intro t l i ht hl h1 hn
   refine Wx (λhc=>?_) λhc=>?_
   obtain⟨j,rfl⟩:∃ j,i=j+1:=⟨i-1,om⟩;rw[wi _ om om,show(((j+1:Nat):Int)-1)=j by omega];have hlen:=hl.len
   refine Wa (p:=λo=>TOk o.1∧CfOk j T T.Edges.length o.2) ?_ λ⟨u,v⟩ h=>ih u v j h.1 h.2 om om
   refine Nxt ht om om λr a0 a1 a2=>Lf ?_
   have hd:r.1.toNat<l.length:=om
   have hc:=Wo hd;rw[idx_of a0 a1]
   refine Wa (p:=λv=>v=true→0<(l[r.1.toNat]).Ports.length) (Wi (λ_=>Lf (Wb λh=>gD)) λ_=>Wb λe=>(by cases e)) λv hv=>Wi (λh=>?_) λ_=>Wb ⟨a2,hl.less⟩
   have hpos:=hv h;have hpl:=hl.pl hc
   refine Lf (Nxt a2 om om λs b0 b1 b2=>Lf ?_)
   rw[idx_of b0 b1]
   have hs:s.1.toNat<(l[r.1.toNat]).Ports.length:=om
   refine Lf (Wa (Zaib b2 hT om ((hl.p _ _ hc).1 _ (Wu hs))) λq hq=>Lf (Wb ⟨hq.2,hl.less.upd hc gD hq.1.1 hq.1.2⟩))
   have:i=0:=om
   subst this;exact Wb ⟨ht,hl⟩
 unfold Zkj;rw[Zaaa (by have:=hl.len;omega) (λc hc=>by have:=hl.mp hc;omega)]
 refine Lf (Nxt ht om om λr a0 a1 a2=>?_)
 rw[wi (1+r.1) om om,show 1+r.1=(1+r.1).toNat by omega]
 have hk:CfOk (1+r.1).toNat T T.Edges.length l:=by
  rcases(by omega:(1+r.1).toNat=1∨(1+r.1).toNat=2∨(1+r.1).toNat=3)with e|e|e<;>rw[e]
  exact hl.less.less;exact hl.less
  grind
 exact Wa (L fuel _ l _ a2 hk om om) λ⟨u,v⟩ h=>Wb ⟨h.2,h.1⟩
def Zadu {T:Zb} (hT:XOk T) (d:Int):Zcz T d=some (el T d T.Edges.length):=by
 have hf:=Z8;have hlim:=lim_eq;have e1:=hT.e1
 have L:∀ n k,k≤T.Edges.length→T.Edges.length-k<n→Zc2 T d n (el T d k) k=some (el T d T.Edges.length):=by
  intro n
  induction n with
  |zero=>grind
  |succ n ih=>
   intro k hk hn;unfold Zc2
   by_cases h:k<T.Edges.length
   have:=el_len T d k;rw[if_pos gD,Zat h,wi (k+1) om om];simp  [Wc];have e:=Z99 T d h
   by_cases hd:(T.Edges[k]).Device=d
   rw[if_pos hd]at e;rw[if_pos gD,if_pos gD,←e];exact ih (k+1) om om;rw[if_neg hd]at e;rw[if_neg gD,←e];exact ih (k+1) om om
   grind
 unfold Zcz;have:=L fuel 0 om om;rw[show el T d 0=[]from rfl]at this
 grind
theorem Zajg:Zm0=some full:=rfl
def Zadv {t:Zc} (ht:TOk t) {T:Zb} (hT:XOk T):Ok (Zhj t T) λr=>MvG r.1∧TOk r.2:=by
 have e1:=hT.e1;unfold Zhj
 refine Lf (Lf (Nxt ht om om λr a0 a1 a2=>Ix a0 om λx hx=>?_))
 simp at hx
 refine Wa (p:=λo=>TOk o.1∧0≤o.2∧o.2≤4294967295) (Wx (λh=>Nxt a2 om om λs b0 b1 b2=>Ix b0 b1 λe he=>Wb ⟨b2,?_⟩) λ_=>Wb ⟨a2,gD,om⟩) λ⟨u,a⟩ ⟨g1,g2,g3⟩=>?_
 have:=(hT.sk_edge he).2.2.1.a;exact⟨this.1,om⟩
 refine Nxt g1 om om λs b0 b1 b2=>?_
 rw[wu32 (x:=s.1) om om,wu32 (x:=s.1*80) om om,wu32 (x:=s.1*80+1) om om];have:=MvG.of (a:=x) (b:=a) (p:=80) (q:=s.1*80) (k:=1) hx g2 g3 om om om om om;exact Wb ⟨this,b2⟩
structure OpOk (T:Zb) (d k:Nat) (l:List Zo):Prop where
 len:l.length=T.Devices.length
 p:∀(j:Nat) c,l[j]? = some c→(∀ p,p∈c.Ports→PtOk 3 p)∧c.Ports.map (·.Edge)=if j<d then el T (j:Int) T.Edges.length else if j=d then(el T (d:Int) T.Edges.length).take k else[]
def OpOk.next {T:Zb} {d:Nat} {l:List Zo} (h:OpOk T d (el T d T.Edges.length).length l):OpOk T (d+1) 0 l:=by
 refine⟨h.len,λj c hc=>?_⟩
 have g:=h.p j c hc
 grind
def OpOk.put {T:Zb} {d k:Nat} {l:List Zo} (h:OpOk T d k l) {c:Zo} (hc:l[d]? = some c) {p:Zw} (hp:PtOk 3 p) (he:(el T d T.Edges.length)[k]? = some p.Edge):OpOk T d (k+1) (l.set d {c with Ports:=c.Ports++[p]}):=by
 refine⟨by rw[Wa6];exact h.len,λj b hb=>?_⟩
 rw[Wem]at hb
 split at hb
 rename_i hj;subst hj
 split at hb
 cases hb;have g:=h.p d c hc
 refine⟨λq hq=>?_,?_⟩
 rcases Wl.1 hq with hq|hq
 exact g.1 q hq;rw[Wj.1 hq];exact hp;have g2:=g.2;rw[if_neg om,if_pos rfl]at g2;rw[if_neg om,if_pos rfl,Wa0,g2,Wbg,he];rfl;cases hb;have g:=h.p j b hb
 grind
def PtOk.new {e:Int} {a b:List Zai} (ha:a.length≤4) (hb:b.length≤4) (ka:RlOk a) (kb:RlOk b):PtOk 3 (Zw.mk e a b [] [] []):=⟨ka,gD,kb,gD,.inl rfl,λy hy=>((by cases hy)),sM,λy hy=>((by cases hy)),sM⟩
def Zak4 {t:Zc} (ht:TOk t) {T:Zb} (hT:XOk T):Ok (Znn t T) λr=>CfOk 3 T T.Edges.length r.1∧TOk r.2:=by
 have hf:=Z8;have hlim:=lim_eq;have d1:=hT.d1;have e1:=hT.e1
 have L2:∀(d:Nat),d<T.Devices.length→∀(n:Nat) (t:Zc) (l:List Zo) (k:Nat),TOk t→OpOk T d k l→k≤(el T (d:Int) T.Edges.length).length→(el T (d:Int) T.Edges.length).length-k<n→Ok (Zjc T (d:Int) (el T (d:Int) T.Edges.length) n t l (k:Int)) λo=>TOk o.1∧OpOk T (d+1) 0 o.2:=by
  intro d hd n
  induction n with
  |zero=>intro t l k _ _ _ h;omega
  |succ n ih=>
   intro t l k ht hl hk hn;have hel:=el_len T (d:Int) T.Edges.length;unfold Zjc;rw[wi ((k:Int)+1) om om,Zajg]
   refine Wx (λhc=>?_) λhc=>?_
   have hk2:k<(el T (d:Int) T.Edges.length).length:=om
   rw[Zat hk2]
   refine Wa (p:=λo:Zc×List Zo=>TOk o.1∧OpOk T d (k+1) o.2) ?_ λ⟨u,v⟩ h=>ih u v (k+1) h.1 h.2 om om
   refine Lf (Wa (Zy4 ht hT om om) λr1 h1=>Wa (Zy4 h1.2 hT om om) λr2 h2=>?_)
   have p0:=PtOk.new (e:=(el T (d:Int) T.Edges.length)[k]) (by have:=h1.1.1;omega) (by have:=h2.1.1;omega) h1.1.2 h2.1.2
   refine Wa (p:=λo:Zc×Zw=>TOk o.1∧PtOk 3 o.2∧o.2.Edge=(el T (d:Int) T.Edges.length)[k]) ?_ λ⟨u1,q1⟩ ⟨g1,g2,g3⟩=>?_
   refine Nxt h2.2 om om λr a0 a1 a2=>Wi (λ_=>Lf (Wb ⟨a2,⟨p0.i,p0.il,λy hy=>by rw[Wj.1 hy];exact Zm2,sM,p0.m,p0.h,p0.hl,p0.s,p0.sl⟩,rfl⟩)) λ_=>Wb ⟨a2,p0,rfl⟩
   dsimp only at g1 g2 g3⊢
   refine Wa (p:=λo:Zc×Zw=>TOk o.1∧PtOk 3 o.2∧o.2.Edge=(el T (d:Int) T.Edges.length)[k]) ?_ λ⟨u2,q2⟩ ⟨k1,k2,k3⟩=>?_
   refine Nxt g1 om om λr a0 a1 a2=>Wi (λ_=>Wa (Zrz a2 hT) λb hb=>Nxt hb.2 om om λs b0 b1 b2=>Ix b0 (by simpa using b1) λc hc=>Wb ⟨b2,⟨g2.i,g2.il,g2.e,g2.el,g2.m,g2.h,g2.hl,λy hy=>?_,sM⟩,g3⟩) λ_=>Wb ⟨a2,g2,g3⟩
   rw[Wj.1 hy];simp only[Wy,Wag,or_false]at hc;exact⟨hb.1,hc.elim .inl λh=>.inr (.inl h)⟩
   dsimp only at k1 k2 k3⊢
   refine Wa (p:=λo:Zc×Zw=>TOk o.1∧PtOk 3 o.2∧o.2.Edge=(el T (d:Int) T.Edges.length)[k]) ?_ λ⟨u3,q3⟩ ⟨m1,m2,m3⟩=>?_
   refine Nxt k1 om om λr a0 a1 a2=>Wi (λ_=>Wa (Zrz a2 hT) λb hb=>Nxt hb.2 om om λs b0 b1 b2=>Wb ⟨b2,⟨k2.i,k2.il,k2.e,k2.el,k2.m,λy hy=>?_,sM,k2.s,k2.sl⟩,k3⟩) λ_=>Wb ⟨a2,k2,k3⟩
   rw[Wj.1 hy,wu32 (x:=s.1) om om,wu32 (x:=1024+s.1) om om];exact⟨hb.1,rfl,rk om om om⟩
   dsimp only at m1 m2 m3⊢
   refine Wa (p:=λo:Zc×Zw=>TOk o.1∧PtOk 3 o.2∧o.2.Edge=(el T (d:Int) T.Edges.length)[k]) ?_ λ⟨u4,q4⟩ ⟨n1,n2,n3⟩=>?_
   exact Nxt m1 om om λr a0 a1 a2=>Wi (λ_=>Wa (Zadv a2 hT) λv hv=>Wb ⟨hv.2,⟨m2.i,m2.il,m2.e,m2.el,.inr ⟨_,rfl,hv.1⟩,m2.h,m2.hl,m2.s,m2.sl⟩,m3⟩) λ_=>Wb ⟨a2,m2,m3⟩
   dsimp only at n1 n2 n3⊢
   have hdl:d<l.length:=by rw[hl.len];exact hd
   have hc2:=Wo hdl;rw[Zat hdl]
   have pl:(l[d]).Ports.length≤k:=by
    have g:=(hl.p d _ hc2).2;rw[if_neg om,if_pos rfl]at g;have:=congrArg List.length g;rw[Wt,Wac]at this;omega
   rw[show Int.toNat (d:Int)=d by omega];exact Lf (Ap sO (Wb ⟨n1,hl.put hc2 n2 (by rw[n3];exact Wo hk2)⟩))
   have:k=(el T (d:Int) T.Edges.length).length:=om
   subst this;exact Wb ⟨ht,hl.next⟩
 have L1:∀(n:Nat) (t:Zc) (l:List Zo) (d:Nat),TOk t→OpOk T d 0 l→d≤T.Devices.length→T.Devices.length-d<n→Ok (Zjd T n t l (d:Int)) λo=>TOk o.1∧OpOk T T.Devices.length 0 o.2:=by
  intro n
  induction n with
  |zero=>intro t l k _ _ _ h;omega
  |succ n ih=>
   intro t l d ht hl hd hn;unfold Zjd;rw[wi ((d:Int)+1) om om,Zadu hT]
   refine Wx (λhc=>Lf (Wa (L2 d om fuel t l 0 ht hl om (by have:=el_len T (d:Int) T.Edges.length;omega)) λ⟨u,v⟩ h=>ih u v (d+1) h.1 h.2 om om)) λhc=>?_
   have:d=T.Devices.length:=om
   subst this;exact Wb ⟨ht,hl⟩
 unfold Znn;rw[show Int.toNat (T.Devices.length:Int)=T.Devices.length by omega]
 have h0:OpOk T 0 0 (List.replicate T.Devices.length Zee):=by
  refine⟨sM,λj c hc=>?_⟩
  rw[Wh4]at hc
  split at hc
  cases hc
  refine⟨λy hy=>((by cases hy)),?_⟩
  rw[if_neg om];split<;>simp[Zee];cases hc
 refine Waf om (Wa (L1 fuel t _ 0 ht h0 om om) λ⟨u,v⟩ h=>Wb ⟨⟨h.2.len,λj c hc=>?_⟩,h.1⟩)
 have g:=h.2.p j c hc
 refine⟨g.1,?_⟩
 have hj:=(We.1 hc).1;have hlen:=h.2.len
 dsimp only at hj hlen
 rw[g.2,if_pos om]
def Zagz {t:Zc} (ht:TOk t) {T:Zb} (hT:XOk T) {m:Int} {x:Zs} (h:IntOk T m x) (hm:m≤1000) (a:Int):Ok (Zo0 t T x a) λr=>CfOk 0 T T.Edges.length r.1∧TOk r.2:=by
 refine Wa (p:=λo=>match o with|.inl u=>TOk u|.inr r=>CfOk 0 T T.Edges.length r.1∧TOk r.2) ?_ λo ho=>?_
 refine Nxt ht om om λr a0 a1 a2=>Wi (λ_=>Wa (Zajf hT h hm a) λb hb=>Wi (λhz=>Nxt a2 om om λs b0 b1 b2=>Wi (λ_=>Wa (Zaic b2 hT (hb gD)) λc hc=>Wb hc) λ_=>Wb ⟨(hb gD).zero,b2⟩) λ_=>Wb a2) λ_=>Wb a2
 rcases o with o|o
 exact Wa (Zak4 ho hT) λr hr=>Wb ⟨hr.1.zero,hr.2⟩
 exact Wb ho
def Zaab {b:Bx} (h:BOk b):Zbp b=some true:=by rw[Zg3,ok_vB h]
def Zafz {l:List Zai} (h:RlOk l) (hl:l.length≤4096):Zgn l=some true:=by
 refine Wh1 (Wa (p:=λo=>o=.inl ()) (LC (m:=l.length) om om (λn i i0 i1 ih=>?_) λn=>?_) λo ho=>by subst ho;exact Wb gD)
 unfold Zfu;rw[if_pos (Wf i1),wi (i+1) om om]
 refine Ix i0 i1 λr hr=>?_
 rw[Zaab (h r hr)];exact ih;unfold Zfu;rw[if_neg sM];exact Wb rfl
def Zak5 {l:List Zaa} (h:Mv1 l):Zgo l=some true:=by
 have hl:l.length≤1:=by rcases h with h|⟨v,h,_⟩<;>rw[h]<;>simp
 have hv:∀ v,v∈l→MvG v:=by
  rcases h with h|⟨v,h,g⟩
  rw[h];exact λv hv=>(by cases hv)
  grind
 unfold Zgo;rw[if_neg gD]
 refine Wh1 (Wa (p:=λo=>o=.inl ()) (LC (m:=l.length) om om (λn i i0 i1 ih=>?_) λn=>?_) λo ho=>by subst ho;exact Wb rfl)
 unfold Zei;rw[if_pos (Wf i1)]
 refine Ix i0 i1 λv hvl=>?_
 rw[(hv v hvl).v]
 have e:i=0:=om
 subst e;exact ih;unfold Zei;rw[if_neg sM];exact Wb rfl
def Zajh {l:List Zab} (h:∀ y,y∈l→HIn y) (hl:l.length≤256):Zgp l=some true:=by
 refine Wh1 (Wa (p:=λo=>o=.inl ()) (LC (m:=l.length) om om (λn i i0 i1 ih=>?_) λn=>?_) λo ho=>by subst ho;exact Wb gD)
 unfold Zdc;rw[if_pos (Wf i1),wi (i+1) om om]
 refine Ix i0 i1 λy hy=>?_
 have g:=h y hy;unfold Zmg;rw[Zaab g.m];simp  [Wf g.p.h1,Wf g.p.h2];exact ih;unfold Zdc;rw[if_neg sM];exact Wb rfl
def Zadw {T:Zb} (hT:XOk T):Zij T ⟨3405803781,3405803781⟩=some true:=by
 have e1:=hT.e1
 refine Wh1 (Wa (p:=λo=>o=.inl ()) (LC (m:=T.Edges.length) om om (λn i i0 i1 ih=>?_) λn=>?_) λo ho=>by subst ho;exact Wb rfl)
 unfold Zc6;rw[if_pos (Wf i1),wi (i+1) om om,Ztc hT i0 i1 i0 i1]
 have key:∀ k:Fin 5,(decide ((sr k.1).Lo≤3405803781)&&decide (3405803781≤(sr k.1).Hi))=false:=dC
 have g:=key ⟨i.toNat,om⟩;rw[show i.toNat=i by omega]at g;show Ok (if(decide ((sr i).Lo≤3405803781)&&decide (3405803781≤(sr i).Hi))=true then _ else _) _;rw[g];exact ih;unfold Zc6;rw[if_neg sM];exact Wb rfl
def vn3 {c:ByteArray} (h:c=ips∨c=dlp∨c=nonec):Zad c=some true:=by
 rcases h with rfl|rfl|rfl<;>kernel_rfl
def Zaid {T:Zb} (hT:XOk T) {p:Zw} (h:PtOk 0 p):Zgq T p=some true:=by
 have il:=h.il;have el:=h.el;have sl:=h.sl;have hl:=h.hl
 have ml:p.Moves.length≤1:=by rcases h.m with g|⟨v,g,_⟩<;>rw[g]<;>simp
 have mv:∀ v,v∈p.Moves→MvG v:=by
  rcases h.m with g|⟨v,g,k⟩
  rw[g];exact λv hv=>(by cases hv)
  grind
 unfold Zgq;rw[Zafz h.i om,Zafz h.e om,Zak5 h.m,Zajh h.h h.hl];simp;rw[if_neg om]
 refine Wh1 (Wa (p:=λo=>o=.inl ()) (LC (m:=p.Moves.length) om om (λn i i0 i1 ih=>?_) λn=>?_) λo ho=>?_)
 unfold Zcn;rw[if_pos (Wf i1),wi (i+1) om om]
 have hi:i.toNat<p.Moves.length:=om
 have g:=mv _ (Wu hi);rw[idx_of i0 i1]
 refine Lf ?_
 rw[g.s]
 refine Lf (Lf (Wa (p:=λv=>v=false) ?_ λv hv=>?_))
 simp;rw[g.d,Zadw hT];exact Lf (Wb rfl);subst hv
 have e:i=0:=om
 subst e;exact ih;unfold Zcn;rw[if_neg sM];exact Wb rfl;subst ho
 refine Wa (p:=λo=>o=.inl ()) (LC (m:=p.Hides.length) om om (λn i i0 i1 ih=>?_) λn=>?_) λo ho=>?_
 unfold Zco;rw[if_pos (Wf i1),wi (i+1) om om]
 refine Ix i0 i1 λy hy=>?_
 rw[At_out hT (.inl (h.h y hy).a)];exact ih;unfold Zco;rw[if_neg sM];exact Wb rfl;subst ho
 refine Wa (p:=λo=>o=.inl ()) (LC (m:=p.Steers.length) om om (λn i i0 i1 ih=>?_) λn=>?_) λo ho=>by subst ho;exact Wb rfl
 unfold Zcp;rw[if_pos (Wf i1),wi (i+1) om om]
 have hi:i.toNat<p.Steers.length:=om
 have g:=h.s _ (Wu hi);rw[idx_of i0 i1]
 refine Lf ?_
 rw[Zaab g.m]
 refine Lf (Lf (Wa (p:=λv=>v=false) ?_ λv hv=>gD))
 simp;rw[vn3 g.c];exact Lf (Wb rfl);unfold Zcp;rw[if_neg sM];exact Wb rfl
def Zadx {T:Zb} (hT:XOk T) {l:List Zo} (h:CfOk 0 T T.Edges.length l):Zfm T l=some true:=by
 have d1:=hT.d1;have e1:=hT.e1;have hlen:=h.len;unfold Zfm;rw[Z2f hT]
 refine Wh1 (Lf (Lf ?_))
 rw[if_neg gD]
 refine Wa (p:=λo=>o=.inl ()) (LC (m:=l.length) om om (λn i i0 i1 ih=>?_) λn=>?_) λo ho=>by subst ho;exact Wb rfl
 unfold Ze6;rw[if_pos (Wf i1),wi (i+1) om om,Zadu hT]
 have hi:i.toNat<l.length:=om
 have g:=h.p i.toNat _ (Wo hi);rw[show i.toNat=i by omega]at g;have gl:=congrArg List.length g.2;rw[Wt]at gl;have gl2:=el_len T i T.Edges.length;rw[idx_of i0 i1]
 refine Lf (Lf ?_)
 rw[if_neg gD]
 refine Wa (p:=λo=>o=.inl ()) (LC (m:=(el T i T.Edges.length).length) om om (λn k k0 k1 ih2=>?_) λn=>?_) λo ho=>gD
 unfold Zd2;rw[if_pos (Wf k1),wi (k+1) om om,idx_of i0 i1]
 have hk:k.toNat<(l[i.toNat]).Ports.length:=om
 refine Lf ?_
 rw[idx_of k0 om,idx_of k0 k1]
 have hk2:k.toNat<(el T i T.Edges.length).length:=om
 have ee:=by
  have:=congrArg (λl=>l[k.toNat]?) g.2
  simpa [hk,hk2]using this
 refine Lf (Lf (Lf ?_))
 rw[ee]
 refine Wa (p:=λv=>v=false) ?_ λv hv=>?_
 simp
 refine Lf ?_
 rw[idx_of k0 om]
 refine Lf ?_
 rw[Zaid hT gD];exact Lf (Wb rfl);subst hv;exact ih2;unfold Zd2;rw[if_neg sM];exact Wb rfl;unfold Ze6;rw[if_neg sM];exact Wb rfl
def Zady {l:List Int} {m:Int} (h:∀ i,i∈l→0≤i∧i<m) (hs:l.Pairwise (·<·)) (hl:l.length≤1000000):Zdi l m=some true:=by
 refine Wh1 (Wa (p:=λo=>o=.inl ()) (LC (m:=l.length) om om (λn i i0 i1 ih=>?_) λn=>?_) λo ho=>by subst ho;exact Wb rfl)
 unfold Zb7;rw[if_pos (Wf i1),wi (i+1) om om,wi (i-1) om om,idx_of i0 i1]
 have hi:i.toNat<l.length:=om
 have g:=h _ (Wu hi)
 refine Lf (Lf ?_)
 rw[Wr om]
 refine Wa (p:=λv=>v=false) (Lf (Wb gD)) λv hv=>?_
 subst hv
 refine Lf (Wa (p:=λv=>v=false) ?_ λv hv=>?_)
 simp only[Waa,if_false]
 refine Lf (Wa (p:=λv=>v=false) (Wx (λh=>?_) λ_=>Wb rfl) λv hv=>Wb hv)
 rw[idx_of om om]
 refine Lf (Lf (Wb (Wr ?_)))
 have:=Was.1 hs (i-1).toNat i.toNat om hi om;omega;subst hv;exact ih;unfold Zb7;rw[if_neg sM];exact Wb rfl
def Z4q {T:Zb} (hT:XOk T) {f:Zp} (h:FOk T f):Zbh T f=some true:=by
 have d1:=hT.d1;have k1:=hT.k1;have l1:=h.l1;have f1:=h.d1;unfold Zbh;rw[Z4p hT,Zady h.l h.ls om,Zady h.d h.ds om];rfl
def FOk.sk {T:Zb} (hT:XOk T) {f:Zp} (h:FOk T f):Zbn f:=by
 have d1:=hT.d1;have k1:=hT.k1;have l1:=h.l1;have f1:=h.d1;exact⟨⟨om,λy hy=>by have:=h.l y hy;omega⟩,⟨om,λy hy=>by have:=h.d y hy;omega⟩,trivial⟩
def Zaji {T:Zb} (hT:XOk T) {f:Zp} (hf:Zbn f) {i:Int} (hi:Zgz T f i=some true):Ok (Zdj T f i) λr=>r.length=T.Devices.length:=by
 have d1:=hT.d1;have hfu:=Z8;have g:=(Zu7 hT hf i).get hi rfl;unfold Zdj;rw[hi]
 refine Lf ?_
 exact Wa (Z8v hT fuel [] 0 om om rfl om) λw hw=>Wa (p:=λu=>u.length=T.Devices.length) (Wa (Ztg hT hf i) λv _=>Wi (λ_=>Ix g.1 om λx _=>Wb gD) λ_=>Wb hw) λu hu=>Wa (Z8w hT hf fuel u 0 om om hu om) λr hr=>Wb hr
def Zaa8 {T:Zb} (hT:XOk T) {f:Zp} (hf:Zbn f) (a b:Int):Ok (Znp T f a b) λr=>-1≤r∧r<T.Links.length:=by
 have k1:=hT.k1;unfold Znp;obtain⟨da,ea,ha⟩:=Zu7 hT hf a;obtain⟨db,eb,hb⟩:=Zu7 hT hf b;rw[ea,eb]
 refine Lf (Lf (Wa (p:=λv=>v=false→da=true∧db=true) (Wi (λ_=>Wb λe=>(by cases e)) λh=>Lf (Wb λe=>⟨gD,gD⟩)) λv hv=>Lf (Wi (λ_=>Wb om) λh=>?_)))
 simp at h
 obtain⟨g1,g2⟩:=hv h.1;have hae:=ha g1;subst g2
 refine Wa (Zaji hT hf eb) λr hr=>Wa (p:=λo=>∀ v:Int,o=.inr v→-1≤v∧v<T.Links.length) (LC (m:=T.Links.length) om om (λn i i0 i1 ih=>?_) λn=>?_) λo ho=>?_
 unfold Zno;rw[wi (i+1) om om]
 refine Wx (λ_=>Ix i0 i1 λl hl=>Wa (p:=λv:Int=>v<T.Devices.length) ?_ λv hv=>Wa (Z4m hT hf i) λu _=>Lf (Lf (Wa (p:=λw=>w=true→0≤v) (Wi (λh=>?_) λ_=>Wb λe=>(by cases e)) λw hw=>Lf (Wa (p:=λ_=>True) (Wi (λh=>Ix (hw h) om λx _=>Ix i0 i1 λy _=>Ix hae.1 om λz _=>Wb trivial) λ_=>Wb trivial) λw2 _=>Wi (λ_=>Wb λv e=>gD) λ_=>ih)))) λ_=>Wb λv e=>(by cases e)
 have g:=hT.link l hl;have g1:=g.h1;have g2:=g.h2
 exact Wi (λ_=>Wb om) λ_=>Wi (λ_=>Wb om) λ_=>Wb om
 simp at h
 exact Ix h.2 om λx _=>Wb λ_=>h.2
 unfold Zno;rw[if_neg sM]
 exact Wb λv e=>(by cases e)
 rcases o with o|o
 exact Wb om;exact Wb (ho o rfl)
structure RtOk (T:Zb) (r:Zi):Prop where
 a:sk_u32 r.Prefix.Addr
 b0:0≤r.Prefix.Bits
 b1:r.Prefix.Bits≤100
 p0:-1≤r.Port
 p1:r.Port≤1000
def Zak6 (p q:Zl):Ok (Zje p q) λ_=>True:=Lf (Wa (p:=λ_=>True) (Wi (λ_=>Wb trivial) λ_=>Lf (Wb trivial)) λv _=>Wb trivial)
def Zadz {l:List Zi} {P:Zi→Prop} (hl:l.length≤1000) (h:∀ r,r∈l→P r) {r:Zi} (hr:P r):Ok (Zrr l r) λv=>v.length=l.length+1∧∀ r,r∈v→P r:=by
 have hf:=Z8;have hlim:=lim_eq
 have L:∀ n (i:Int),0≤i→i≤l.length→(l.length-i).toNat<n→Ok (Zof l r n i) λv=>0≤v∧v≤l.length:=by
  intro n
  induction n with
  |zero=>omega
  |succ n ih=>
   intro i h0 h1 hn;unfold Zof;rw[wi (i+1) om om]
   refine Lf (Wa (p:=λv=>v=true→i<l.length) (Wx (λh=>Ix h0 h λx _=>Wa (Zak6 _ _) λv _=>Wb λ_=>h) λ_=>Wb λe=>(by cases e)) λv hv=>Wi gD λ_=>Wb ⟨h0,h1⟩)
 refine Wa (L fuel 0 om om om) λv hv=>Waf om (Waf gD (Waf gD (Waf om (Waf gD (Wb ⟨gD,λy hy=>?_⟩)))))
 grind
structure RwOk (T:Zb) (m:Nat) (R:List Yd) (L:List Ya):Prop where
 rl:R.length=T.Devices.length
 r:∀ l,l∈R→l.length≤m∧∀ r,r∈l→RtOk T r
 ll:L.length=T.Devices.length
 l:∀ l,l∈L→l.length≤6∧∀ v,v∈l→-1≤v∧v≤1000
def Zaie {T:Zb} (hT:XOk T) {f:Zp} (hf:FOk T f):Ok (Zog T f) λR=>R.length=T.Devices.length∧∀ l,l∈R→l.length≤5∧∀ r,r∈l→RtOk T r:=by
 have hfu:=Z8;have hlim:=lim_eq;have d1:=hT.d1;have e1:=hT.e1;have k1:=hT.k1;have hs:=hf.sk hT
 have L2:∀(d:Int) (n:Nat) w (i:Int),0≤i→i≤T.Edges.length→w.length≤i→(∀ r,r∈w→RtOk T r)→(T.Edges.length-i).toNat<n→Ok (Zkk T f d n w i) λr=>r.length≤5∧∀ y,y∈r→RtOk T y:=by
  intro d n
  induction n with
  |zero=>omega
  |succ n ih=>
   intro w i h0 h1 hw hr hn;unfold Zkk;rw[wi (i+1) om om]
   refine Wx (λhc=>Wa (p:=λv:List Zi=>v.length≤i+1∧∀ r,r∈v→RtOk T r) ?_ λv hv=>ih _ _ om om hv.1 hv.2 om) λ_=>Wb ⟨om,hr⟩
   refine Ix h0 hc λe he=>Wa (Z4n hT hs d _) λc _=>Wi (λ_=>Wb ⟨om,hr⟩) λ_=>?_
   have g:=(hT.sk_edge he).2.2.1;have b0:=g.b0;have b1:=g.b1
   exact Wi (λ_=>Wa (Zadz om hr ⟨g.a,b0,by dsimp only;omega,by dsimp only;omega,by dsimp only;omega⟩) λv hv=>Wb ⟨om,hv.2⟩) λ_=>Wa (Zaa8 hT hs _ _) λx hx=>Wa (Zadz om hr ⟨g.a,b0,by dsimp only;omega,hx.1,by dsimp only;omega⟩) λv hv=>Wb ⟨om,hv.2⟩
 have L1:∀(n:Nat) w (i:Int),0≤i→i≤T.Devices.length→w.length=i→(∀ l,l∈w→l.length≤5∧∀ r,r∈l→RtOk T r)→(T.Devices.length-i).toNat<n→Ok (Zkl T f n w i) λR=>R.length=T.Devices.length∧∀ l,l∈R→l.length≤5∧∀ r,r∈l→RtOk T r:=by
  intro n
  induction n with
  |zero=>omega
  |succ n ih=>
   intro w i h0 h1 hw hr hn;unfold Zkl;rw[wi (i+1) om om]
   refine Wx (λhc=>Wa (L2 i fuel [] 0 om om sM (λ_ h=>(by cases h)) om) λv hv=>Ap sO (ih _ _ om om sO (λl hl=>?_) om)) λ_=>Wb ⟨om,hr⟩
   grind
 unfold Zog;rw[Z2f hT,Z4q hT hf]
 grind
def Zaif {T:Zb} (hT:XOk T) {f:Zp} (hf:FOk T f):Ok (Zoh T f) λR=>R.length=T.Devices.length∧∀ l,l∈R→l.length≤6∧∀ v,v∈l→-1≤v∧v≤1000:=by
 have hfu:=Z8;have hlim:=lim_eq;have d1:=hT.d1;have k1:=hT.k1
 have L2:∀(d:Int) (n:Nat) (w:List Int) (i:Int),0≤i→i≤T.Devices.length→w.length≤i→(∀ v,v∈w→-1≤v∧v≤1000)→(T.Devices.length-i).toNat<n→Ok (Zkm T f d n w i) λr=>r.length≤6∧∀ v,v∈r→-1≤v∧v≤1000:=by
  intro d n
  induction n with
  |zero=>omega
  |succ n ih=>
   intro w i h0 h1 hw hr hn;unfold Zkm;rw[wi (i+1) om om]
   refine Wx (λhc=>Wa (Zaa8 hT (hf.sk hT) _ _) λx hx=>Ap sO (ih _ _ om om sO (λv hv=>?_) om)) λ_=>Wb ⟨om,hr⟩
   grind
 have L1:∀(n:Nat) w (i:Int),0≤i→i≤T.Devices.length→w.length=i→(∀ l,l∈w→l.length≤6∧∀ v,v∈l→-1≤v∧v≤1000)→(T.Devices.length-i).toNat<n→Ok (Zkn T f n w i) λR=>R.length=T.Devices.length∧∀ l,l∈R→l.length≤6∧∀ v,v∈l→-1≤v∧v≤1000:=by
  intro n
  induction n with
  |zero=>grind
  |succ n ih=>
   intro w i h0 h1 hw hr hn;unfold Zkn;rw[wi (i+1) om om]
   refine Wx (λhc=>Wa (L2 i fuel [] 0 om om sM (λ_ h=>(by cases h)) om) λv hv=>Ap sO (ih _ _ om om sO (λl hl=>?_) om)) λ_=>Wb ⟨om,hr⟩
   rcases Wl.1 hl with hl|hl
   exact hr l hl;rw[Wj.1 hl];exact hv
 unfold Zoh;rw[Z4q hT hf]
 grind
structure NwOk (m:Nat) (n:Z0):Prop where
 t:XOk n.Topology
 f:FOk n.Topology n.Failure
 c:CfOk 0 n.Topology n.Topology.Edges.length n.Configs
 r:RwOk n.Topology m n.Routes n.Labels
def Zaev {T:Zb} (hT:XOk T) {f:Zp} (hf:FOk T f) {l:List Zo} (hl:CfOk 0 T T.Edges.length l):Ok (Zmh T f l) λr=>r.2=0∧NwOk 5 r.1∧r.1.Topology=T∧r.1.Failure=f∧r.1.Configs=l:=by
 unfold Zmh;rw[Zadx hT hl,Z4q hT hf];simp
 exact Wa (Zaie hT hf) λR hR=>Wa (Zaif hT hf) λL hL=>Wb ⟨rfl,⟨hT,hf,hl,⟨hR.1,hR.2,hL.1,hL.2⟩⟩,rfl,rfl,rfl⟩
def Zajj {T:Zb} (hT:XOk T) (d:Int):Ok (Zmi T d) λr=>r.length≤8∧∀ v,v∈r→0≤v∧v<T.Links.length:=by
 have hfu:=Z8;have hlim:=lim_eq;have k1:=hT.k1
 have L:∀ n (w:List Int) (i:Int),0≤i→i≤T.Links.length→w.length≤i→(∀ v,v∈w→0≤v∧v<T.Links.length)→(T.Links.length-i).toNat<n→Ok (Zh8 T d n w i) λr=>r.length≤8∧∀ v,v∈r→0≤v∧v<T.Links.length:=by
  intro n
  induction n with
  |zero=>omega
  |succ n ih=>
   intro w i h0 h1 hw hr hn;unfold Zh8;rw[wi (i+1) om om]
   refine Wx (λhc=>Wa (p:=λv:List Int=>v.length≤i+1∧∀ x,x∈v→0≤x∧x<T.Links.length) ?_ λv hv=>ih _ _ om om hv.1 hv.2 om) λ_=>Wb ⟨om,hr⟩
   refine Ix h0 hc λx _=>Lf (Wa (p:=λ_=>True) (Wi (λ_=>Wb trivial) λ_=>Ix h0 hc λy _=>Wb trivial) λv _=>Wi (λ_=>Ap gD (Wb ⟨gD,λv hv=>?_⟩)) λ_=>Wb ⟨om,hr⟩)
   grind
 unfold Zmi
 grind
def Rl (T:Zb) (m:Nat) (l:List Zi):Prop:=l.length≤m∧∀ r,r∈l→RtOk T r
def Ll (l:List Int):Prop:=l.length≤6∧∀ v,v∈l→-1≤v∧v≤1000
def Zag0 {t:Zc} (ht:TOk t) {m:Nat} (hm:m≤1000) {n:Z0} (hn:NwOk m n) {d:Int} (d0:0≤d) (d1:d<n.Topology.Devices.length):Ok (Zjf t n d) λr=>(NwOk (m+1) r.1∧r.1.Topology=n.Topology∧r.1.Failure=n.Failure)∧TOk r.2:=by
 have hlim:=lim_eq;have hT:=hn.t;have k1:=hT.k1;have dd:=hT.d1;have rl:=hn.r.rl;have ll:=hn.r.ll;unfold Zjf
 refine Wa (Zajj hT d) λK hK=>Waf sO (Waf sO ?_)
 simp only[Wb7]
 refine Ix d0 om λR hR=>?_
 have hr:=hn.r.r R hR
 refine Waf sO (Ix d0 om λL hL=>?_)
 have hl:=hn.r.l L hL
 refine Waf sO (Nx0 ht om λa a0 a1 a2=>?_)
 refine Wa (p:=λo:Zc×List Int×List Zi×List Int×List Zi=>TOk o.1∧Ll o.2.2.2.1∧Rl n.Topology (m+1) o.2.2.2.2) ?_ λ⟨u1,u2,u3,u4,u5⟩ ⟨g1,g2,g3⟩=>?_
 have hLl:Ll L:=hl;have hRl:Rl n.Topology (m+1) R:=⟨om,hr.2⟩
 refine Nxt a2 om om λc c0 c1 c2=>Lf (Wi (λh=>?_) λ_=>Lf (Lf (Wi (λh=>?_) λ_=>Lf (Lf (Lf (Wa (p:=λv=>v=true→0<R.length∧0<K.length∧∃ x,idx R a.1=some x∧x.Prefix.Bits<31) (Wi (λh=>?_) λ_=>Wb λe=>(by cases e)) λv hv=>Wi (λh=>?_) λ_=>Lf (Wi (λh=>?_) λ_=>Wb ⟨c2,hLl,hRl⟩)))))))
 simp only[Wh,W2]at h;rw[wi (a.1+1) om om]
 refine Waf om (Waf sO (Waf om (Waf sO (Wb ⟨c2,hLl,sO,λr hrm=>?_⟩))))
 rcases Wl.1 hrm with q|q<;>exact hr.2 r (Wbh (Wb3 q))
 simp only[Wh,W2]at h
 refine Nxt c2 om om λs b0 b1 b2=>Ix b0 b1 λv hv=>Ix a0 om λx hx=>Ix a0 sO λy hy=>Wb ⟨b2,hLl,sO,λr hrm=>?_⟩
 have gx:=hr.2 x hx;have gx2:RtOk n.Topology {x with Edge:=false}:=⟨gx.a,gx.b0,gx.b1,gx.p0,gx.p1⟩;have gv:=hK.2 v hv
 have all1:∀ r,r∈R.set a.1.toNat {x with Edge:=false}→RtOk n.Topology r:=λr hr2=>by
  rcases Wad hr2 with q|q
  exact hr.2 r q;rw[q];exact gx2
 rcases Wad hrm with q|q
 exact all1 r q;have gy:=all1 y hy;rw[q];exact⟨gy.a,gy.b0,gy.b1,by dsimp only;omega,by dsimp only;omega⟩;simp only[Wh,W2]at h;rw[idx_of a0 om];exact Lf (Wb λe=>⟨om,om,_,rfl,by simpa using e⟩);obtain⟨p1,p2,x,hx,hb⟩:=hv h;rw[hx,wi (a.1+1) om om]
 have hxm:x∈R:=by
  have q:=idx_of a0 (show a.1<R.length by omega);rw[q]at hx;rw[←Wau hx];exact Wu _
 have gx:=hr.2 x hxm;have b0':=gx.b0
 refine Lf ?_
 rw[wi (x.Prefix.Bits+1) om om]
 refine Lf (Wa (p:=λ_=>True) (Wx (λh=>Ix om h λ_ _=>Wb trivial) λ_=>Wb trivial) λv _=>Wi (λ_=>Wb ⟨c2,hLl,hRl⟩) λ_=>Waf om (Waf sO (Nxt c2 om om λs b0 b1 b2=>Ix b0 b1 λv hv=>Waf sO (Waf om (Waf sO (Wb ⟨b2,hLl,sO,λr hrm=>?_⟩))))))
 have gv:=hK.2 v hv
 rcases Wl.1 hrm with q|q
 rcases Wl.1 q with q|q
 exact hr.2 r (Wbh (Wb3 q));rw[Wj.1 q];exact⟨gx.a,by dsimp only;omega,by dsimp only;omega,by dsimp only;omega,by dsimp only;omega⟩;exact hr.2 r (Wbh (Wb3 q));simp only[Wh,W2]at h
 refine Nxt c2 om om λs b0 b1 b2=>Wi (λ_=>Waf sO ?_) λ_=>Wb ⟨b2,hLl,hRl⟩
 rw[wi ((K.length:Int)+1) om om]
 refine Nxt b2 om om λe e0 e1 e2=>Ix e0 sO λv hv=>Ix b0 b1 λ_ _=>Wb ⟨e2,⟨sO,λy hy=>?_⟩,hRl⟩
 rcases Wad hy with q|q
 exact hl.2 y q;rw[q]
 rcases Wl.1 hv with q|q
 have:=hK.2 v q;omega;rw[Wj.1 q];omega
 dsimp only at g1 g2 g3⊢
 refine Ix d0 om λ_ _=>Ix d0 om λ_ _=>Wb ⟨⟨⟨hT,hn.f,hn.c,⟨by simp;exact rl,λl hl=>?_,by simp;exact ll,λl hl=>?_⟩⟩,rfl,rfl⟩,g1⟩
 rcases Wad hl with q|q
 exact⟨by have:=(hn.r.r l q).1;omega,(hn.r.r l q).2⟩;rw[q];exact g3
 rcases Wad hl with q|q
 exact hn.r.l l q;rw[q];exact g2
def NwOk.mono {a b:Nat} (h:a≤b) {n:Z0} (hn:NwOk a n):NwOk b n:=⟨hn.t,hn.f,hn.c,⟨hn.r.rl,λl hl=>⟨by have:=(hn.r.r l hl).1;omega,(hn.r.r l hl).2⟩,hn.r.ll,hn.r.l⟩⟩
def Zag1 {t:Zc} (ht:TOk t) (d s:Int) (w:Bool) (hd:1≤d) (s0:0≤s) (s1:s≤1000):Ok (Zo1 t d s w) λr=>NwOk 7 r.1∧TOk r.2:=by
 have hfu:=Z8
 refine Wa (Net_ok ht d s hd s0 s1) λ⟨T,x,a,t1⟩ ⟨hT,hx,ha,h1⟩=>?_
 dsimp  at hT hx ha h1⊢
 have dd:=hT.d1;have d0:=hT.d0
 refine Wa (Zagb h1 hT) λf hf=>Wa (Zagz hf.2 hT hx s1 a) λc hc=>Wa (Zaev hT hf.1 hc.1) λn hn=>Nxt hc.2 om om λk k0 k1 k2=>?_
 obtain⟨_,hn,hnt,hnf,_⟩:=hn
 have L:∀ g t n (i:Int) (m:Nat),TOk t→0≤i→i≤2→m+i=7→NwOk m n→n.Topology=T→n.Failure=f.1→i.toNat<g→Ok (Zgr w (T,x,a,t1) g t n i) λo=>TOk o.1∧NwOk 7 o.2:=by
  intro g
  induction g with
  |zero=>omega
  |succ g ih=>
   intro t n i m ht h0 h2 hm hn hnt hnf hg;unfold Zgr;rw[wi (i-1) om om]
   refine Lf (Wi (λh=>?_) λ_=>Wb ⟨ht,hn.mono om⟩)
   simp at h
   refine Wa (p:=λo=>TOk o.1∧NwOk (m+1) o.2∧o.2.Topology=T∧o.2.Failure=f.1) ?_ λ⟨u,v⟩ ⟨g1,g2,g3,g4⟩=>ih u v (i-1) (m+1) g1 om om om g2 g3 g4 om
   dsimp
   refine Nxt ht om om λr a0 a1 a2=>?_
   rw[hnf]
   refine Wa (Ztg hT (hf.1.sk hT) _) λv _=>Wi (λ_=>Wa (Zag0 a2 om hn a0 gD) λr hr=>Wb ⟨hr.2,hr.1.1,gD,gD⟩) λ_=>Wb ⟨a2,hn.mono om,hnt,hnf⟩
 refine Wa (L fuel _ n.1 k.1 (7-k.1).toNat k2 k0 om om (hn.mono om) hnt hnf om) λ⟨u,v⟩ h=>Wb ⟨h.2,h.1⟩
section
structure Ts (m:Nat) (t:Zb):Prop where
 d:t.Devices.length≤m
 k:t.Links.length≤m
 e:t.Edges.length≤m
 p:t.Pools.length≤m
 ea:∀ x∈t.Edges,Zbf x.Prefix.Addr
 pa:∀ x∈t.Pools,Zbf x.Addr
structure Ps (m:Nat) (p:Zw):Prop where
 i:p.Ingress.length≤m
 e:p.Egress.length≤m
 v:p.Moves.length≤m
 h:p.Hides.length≤m
 s:p.Steers.length≤m
 ha:∀ h∈p.Hides,Zbf h.Addr
structure Cs (m:Nat) (c:Zo):Prop where
 l:c.Ports.length≤m
 p:∀ p∈c.Ports,Ps m p
structure Ls (m:Nat) (l:List Zi):Prop where
 n:l.length≤m
 a:∀ r∈l,Zbf r.Prefix.Addr
structure Nz (m:Nat) (N:Z0):Prop where
 t:Ts m N.Topology
 fl:N.Failure.Links.length≤m
 fd:N.Failure.Devices.length≤m
 cl:N.Configs.length≤m
 c:∀ c∈N.Configs,Cs m c
 rl:N.Routes.length≤m
 r:∀ l∈N.Routes,Ls m l
 ll:N.Labels.length≤m
 l:∀ l∈N.Labels,l.length≤m
variable {m m':Nat}
def Ts.mono {t:Zb} (h:Ts m t) (k:m≤m'):Ts m' t:=⟨by have:=h.d;omega,by have:=h.k;omega,by have:=h.e;omega,by have:=h.p;omega,h.ea,h.pa⟩
def Ps.mono {p:Zw} (h:Ps m p) (k:m≤m'):Ps m' p:=⟨by have:=h.i;omega,by have:=h.e;omega,by have:=h.v;omega,by have:=h.h;omega,by have:=h.s;omega,h.ha⟩
def Cs.mono {c:Zo} (h:Cs m c) (k:m≤m'):Cs m' c:=⟨by have:=h.l;omega,λp hp=>(h.p p hp).mono k⟩
def Ls.mono {l:List Zi} (h:Ls m l) (k:m≤m'):Ls m' l:=⟨by have:=h.n;omega,h.a⟩
def Nz.mono {N:Z0} (h:Nz m N) (k:m≤m'):Nz m' N:=⟨h.t.mono k,by have:=h.fl;omega,by have:=h.fd;omega,by have:=h.cl;omega,λc hc=>(h.c c hc).mono k,by have:=h.rl;omega,λl hl=>(h.r l hl).mono k,by have:=h.ll;omega,λl hl=>by have:=h.l l hl;omega⟩
def Nz.in {N:Z0} (h:Nz m N) (k:m≤2000000000):NIn N:=
 ⟨⟨by have:=h.t.d;omega,by have:=h.t.k;omega,by have:=h.t.e;omega,by have:=h.t.p;omega,h.t.ea,h.t.pa⟩,λc hc=>⟨by have:=(h.c c hc).l;omega,λp hp=>by have g:=(h.c c hc).p p hp;exact⟨by have:=g.i;omega,by have:=g.e;omega,by have:=g.v;omega,by have:=g.h;omega,by have:=g.s;omega,g.ha⟩⟩,by have:=h.fl;omega,by have:=h.fd;omega,λl hl=>⟨by have:=(h.r l hl).n;omega,(h.r l hl).a⟩⟩
def ok32 {x:Int} (h:sk_u32 x):Zbf x:=⟨h.1,gD⟩
def Zak7 (T:Zb) (d:Int) (k:Nat):(el T d k).length≤k:=by
 unfold el
 grind
def NwOk.nz {n:Z0} (h:NwOk 7 n):Nz 5000 n:=by
 have d1:=h.t.d1;have k1:=h.t.k1;have e1:=h.t.e1
 refine⟨⟨om,om,om,by have:=h.t.p1;omega,λx hx=>?_,λx hx=>?_⟩,by have:=h.f.l1;omega,by have:=h.f.d1;omega,by have:=h.c.len;omega,λc hc=>?_,by have:=h.r.rl;omega,λl hl=>⟨by have:=(h.r.r l hl).1;omega,λr hr=>ok32 ((h.r.r l hl).2 r hr).a⟩,by have:=h.r.ll;omega,λl hl=>by have:=(h.r.l l hl).1;omega⟩
 obtain⟨i,hi⟩:=Wfe hx;exact ok32 (Z1e (Wq (h.t.edge i x hi).pre)).a;have:=h.t.pool x hx
 simp at this
 rcases this with rfl|rfl<;>exact⟨dC,dC⟩
 obtain⟨i,hi⟩:=Wfe hc;have g:=h.c.p i c hi;have gl:=congrArg List.length g.2;rw[Wt]at gl;have:=Zak7 n.Topology i n.Topology.Edges.length
 refine⟨om,λp hp=>?_⟩
 have q:=g.1 p hp
 refine⟨by have:=q.il;omega,by have:=q.el;omega,?_,by have:=q.hl;omega,by have:=q.sl;omega,λy hy=>by rw[(q.h y hy).a];exact⟨dC,dC⟩⟩
 rcases q.m with e|⟨v,e,_⟩<;>rw[e]<;>simp
def Zak8 (x y:Int):Zbf (bOr .u32 x y):=ok32 (Zcw _)
def Zajk (x y:Int):Zbf (bXor .u32 x y):=ok32 (Zcw _)
def Zaac {t:Zc} (ht:TOk t) {p:Zl} (hp:Zbf p.Addr):Ok (Zko t p) λr=>Zbf r.1.Addr∧TOk r.2:=by
 refine Wa (p:=λr=>Zbf r.2.Addr∧TOk r.1) (Nxt ht om om λr a0 a1 a2=>Wi (λ_=>Nxt a2 om om λr2 b0 b1 b2=>Ix b0 om λx _=>Wb ⟨hp,b2⟩) λ_=>Wi (λ_=>Wb ⟨Zak8 _ _,a2⟩) λ_=>Wi (λ_=>Wb ⟨hp,a2⟩) λ_=>Nxt a2 om om λr2 b0 b1 b2=>Waf (Zud _).1 (Wb ⟨Zajk _ _,b2⟩)) λ⟨a,b⟩ h=>Wb h
section
variable {t:Zb} (h:Ts m t)
include h
def Ts.dset (i:Nat) (x:Z5):Ts (m+1) ⟨t.Devices.set i x,t.Links,t.Edges,t.Pools,t.Tolerate⟩:=⟨by rw[Wa6];have:=h.d;omega,by have:=h.k;grind,by have:=h.e;grind,by have:=h.p;grind,h.ea,h.pa⟩
def Ts.kset (i:Nat) (x:Zah):Ts (m+1) ⟨t.Devices,t.Links.set i x,t.Edges,t.Pools,t.Tolerate⟩:=⟨by have:=h.d;grind,by rw[Wa6];have:=h.k;omega,by have:=h.e;grind,by have:=h.p;grind,h.ea,h.pa⟩
def Ts.eset (i:Nat) (x:Z1) (hx:Zbf x.Prefix.Addr):Ts (m+1) ⟨t.Devices,t.Links,t.Edges.set i x,t.Pools,t.Tolerate⟩:=⟨by have:=h.d;grind,by have:=h.k;grind,by rw[Wa6];have:=h.e;omega,by have:=h.p;grind,λy hy=>(Wad hy).elim (h.ea y) λq=>q▸hx,h.pa⟩
def Ts.dl (l:List Z5) (hl:l.length≤t.Devices.length+1):Ts (m+1) ⟨l,t.Links,t.Edges,t.Pools,t.Tolerate⟩:=⟨by have:=h.d;grind,by have:=h.k;grind,by have:=h.e;grind,by have:=h.p;grind,h.ea,h.pa⟩
def Ts.kl (l:List Zah) (hl:l.length≤t.Links.length+1):Ts (m+1) ⟨t.Devices,l,t.Edges,t.Pools,t.Tolerate⟩:=⟨by have:=h.d;grind,by have:=h.k;grind,by have:=h.e;grind,by have:=h.p;grind,h.ea,h.pa⟩
def Ts.el (l:List Z1) (hl:l.length≤t.Edges.length+1) (g:∀ x∈l,x∈t.Edges):Ts (m+1) ⟨t.Devices,t.Links,l,t.Pools,t.Tolerate⟩:=⟨by have:=h.d;grind,by have:=h.k;grind,by have:=h.e;grind,by have:=h.p;grind,λx hx=>h.ea x (g x hx),h.pa⟩
def Ts.pl (x:Zl) (hx:Zbf x.Addr):Ts (m+1) ⟨t.Devices,t.Links,t.Edges,t.Pools++[x],t.Tolerate⟩:=⟨by have:=h.d;grind,by have:=h.k;grind,by have:=h.e;grind,by have:=h.p;grind,h.ea,λy hy=>(Wl.1 hy).elim (h.pa y) λq=>gD⟩
def Ts.tl (x:Int):Ts (m+1) ⟨t.Devices,t.Links,t.Edges,t.Pools,x⟩:=⟨by have:=h.d;grind,by have:=h.k;grind,by have:=h.e;grind,by have:=h.p;grind,h.ea,h.pa⟩
end
def Z7a {t:Zc} (ht:TOk t) {T:Zb} (h:Ts m T) (hm:m≤1000000):Ok (Ze1 t T) λr=>Ts (m+1) r.1∧TOk r.2:=by
 have hlim:=lim_eq;have hd:=h.d;have hk:=h.k;have he:=h.e;have hp:=h.p;unfold Ze1 Zlf;simp only[Wb7];rw[if_pos gD,if_pos gD,if_pos gD,if_pos gD];simp only[Wc]
 have same:∀ u ,TOk u→Ok (some (Zb.mk T.Devices T.Links T.Edges T.Pools T.Tolerate,u)) λr=>Ts (m+1) r.1∧TOk r.2:=λu hu=>Wb ⟨h.tl T.Tolerate,hu⟩
 refine Nxt ht om om λr a0 a1 a2=>Wi (λ_=>?_) λ_=>Wi (λ_=>?_) λ_=>Wi (λ_=>?_) λ_=>Wi (λ_=>?_) λ_=>Wi (λ_=>?_) λ_=>Wi (λ_=>?_) λ_=>Wi (λ_=>?_) λ_=>Wi (λ_=>?_) λ_=>Wi (λ_=>?_) λ_=>Wi (λ_=>?_) λ_=>Wi (λ_=>?_) λ_=>Wi (λ_=>?_) λ_=>Wi (λ_=>?_) λ_=>?_
 exact Nxt a2 om om λr2 b0 b1 b2=>Ix b0 om λx _=>Nxt b2 om om λr3 c0 c1 c2=>Ap sO (Wb ⟨h.dl _ sM,c2⟩)
 exact Wx (λhc=>Nxt a2 om om λr2 b0 b1 b2=>Ix b0 om λx _=>Ix om om λy _=>Wb ⟨h.dset _ _,b2⟩) λ_=>same _ a2
 exact Nxt a2 om om λr2 b0 b1 b2=>Nxt b2 om om λr3 c0 c1 c2=>Nxt c2 om om λr4 d0 d1 d2=>Ap gD (Wb ⟨h.kl _ sM,d2⟩)
 exact Wx (λhc=>Nxt a2 om om λr2 b0 b1 b2=>Ix b0 gD λx _=>Ix om om λy _=>Wb ⟨h.kset _ _,b2⟩) λ_=>same _ a2
 exact Wx (λhc=>Nxt a2 om om λr2 b0 b1 b2=>Ix om om λy hy=>Wb ⟨h.eset _ _ (h.ea y hy),b2⟩) λ_=>same _ a2
 refine Wx (λhc=>?_) λ_=>same _ a2
 rw[wi (T.Edges.length-1) om om]
 exact Ix om om λy hy=>Wa (Zaac a2 (h.ea y hy)) λq hq=>Ix om om λz _=>Wb ⟨h.eset _ _ hq.1,hq.2⟩
 exact Wx (λhc=>Ix om om λy hy=>Ix om om λz hz=>Wb ⟨h.eset _ _ (h.ea z hz),a2⟩) λ_=>same _ a2
 exact Wx (λhc=>Ix om om λy hy=>Ap gD (Wb ⟨h.el _ sM λx hx=>(Wl.1 hx).elim id λq=>gD,a2⟩)) λ_=>same _ a2
 exact Wx (λhc=>Nxt a2 om om λr2 b0 b1 b2=>Ix b0 gD λx _=>Ix om om λy hy=>Wb ⟨h.eset _ _ (h.ea y hy),b2⟩) λ_=>same _ a2
 exact Wa (Z4k a2) λp hp=>Ap gD (Wb ⟨h.pl _ (ok32 hp.1.a),hp.2⟩)
 exact Nxt a2 om om λr2 b0 b1 b2=>Ix b0 om λx _=>Wb ⟨h.tl _,b2⟩
 exact Wx (λhc=>Waf ⟨om,om,om⟩ (Wb ⟨h.dl _ gD,a2⟩)) λ_=>same _ a2
 exact Wx (λhc=>Nxt a2 om om λr2 b0 b1 b2=>Ix b0 gD λx _=>Ix om om λy hy=>Wb ⟨h.dset _ _,b2⟩) λ_=>same _ a2
 exact Wx (λhc=>Waf ⟨om,om,om⟩ (Wb ⟨h.el _ gD λx hx=>Wbh (Wb3 hx),a2⟩)) λ_=>same _ a2
def Z80 {t:Zc} (ht:TOk t) {f:Zp} (h1:f.Links.length≤m) (h2:f.Devices.length≤m) (hm:m≤1000000):Ok (Zfg t f) λr=>(r.1.Links.length≤m+1∧r.1.Devices.length≤m+1)∧TOk r.2:=by
 have hlim:=lim_eq;unfold Zfg
 refine Ap gD (Ap gD (Nxt ht om om λr a0 a1 a2=>Wi (λ_=>Nxt a2 om om λr2 b0 b1 b2=>Ap gD (Wb ⟨⟨gD,gD⟩,b2⟩)) λ_=>Wi (λ_=>Nxt a2 om om λr2 b0 b1 b2=>Ap gD (Wb ⟨⟨gD,gD⟩,b2⟩)) λ_=>Wi (λ_=>Ap gD (Wb ⟨⟨gD,gD⟩,a2⟩)) λ_=>Ap gD (Wb ⟨⟨gD,gD⟩,a2⟩)))
end
section
variable {m:Nat}
def Zaew (d:Int) (d0:0≤d) (T:Zb) (f:Zp) (R:List Yd) (L:List Ya) (h1:1≤m) (hm:m≤1000000):∀ n t l i,TOk t→d<l.length→0≤i→(∀ c∈l,Cs m c)→(1000001-i).toNat<n→Ok (Zed d n t T f R L l i) λo=>TOk o.1∧o.2.1=T∧o.2.2.1=f∧o.2.2.2.1=R∧o.2.2.2.2.1=L∧o.2.2.2.2.2.length=l.length∧∀ c∈o.2.2.2.2.2,Cs m c:=by
 intro n
 induction n with
 |zero=>omega
 |succ n ih=>
  intro t l i ht hd hi hl hn;unfold Zed;rw[idx_of d0 hd];simp only[Wc];have hc:=hl _ (Wu (show d.toNat<l.length by omega))
  refine Wx (λhx=>?_) λ_=>Wb ⟨ht,rfl,rfl,rfl,rfl,rfl,hl⟩
  have hcl:=hc.l
  refine Lf (Wa (Zz9 ht) λa ha=>Nxt ha.2 om om λr a0 a1 a2=>Ix hi hx λp hp=>?_)
  rw[wi (i+1) om om]
  refine(ih _ _ _ a2 gD om (λc3 hc3=>?_) om).mono λo ho=>⟨ho.1,ho.2.1,ho.2.2.1,ho.2.2.2.1,ho.2.2.2.2.1,ho.2.2.2.2.2.1.trans Wa6,ho.2.2.2.2.2.2⟩
  rcases Wad hc3 with q|q
  exact hl c3 q;rw[q]
  refine⟨gD,λp3 hp3=>?_⟩
  rcases Wad hp3 with q3|q3
  exact hc.p p3 q3;have g:=hc.p p hp;rw[q3];exact⟨g.i,g.e,g.v,om,g.s,λy hy=>by rw[Wj.1 hy];exact⟨ha.1.1,gD⟩⟩
def Zaex (T:Zb) (f:Zp) (R:List Yd) (L:List Ya) (h1:1≤m) (hm:m≤1000000):∀ n t l i,TOk t→0≤i→l.length≤m→(∀ c∈l,Cs m c)→(1000001-i).toNat<n→Ok (Zg5 n t T f R L l i) λo=>TOk o.1∧o.2.1=T∧o.2.2.1=f∧o.2.2.2.1=R∧o.2.2.2.2.1=L∧o.2.2.2.2.2.length=l.length∧∀ c∈o.2.2.2.2.2,Cs m c:=by
 have hf:=Z8;intro n
 induction n with
 |zero=>omega
 |succ n ih=>
  intro t l i ht hi hlm hl hn
  refine Wx (λhx=>?_) λ_=>Wb ⟨ht,rfl,rfl,rfl,rfl,rfl,hl⟩
  refine Wa (Zaew i hi T f R L h1 hm fuel t l 0 ht hx om hl om) λo ho=>?_
  obtain⟨g1,rfl,rfl,rfl,rfl,g2,g3⟩:=ho;rw[wi (i+1) om om]
  grind
def Zaey (T:Zb) (f:Zp) (C:List Zo) (L:List Ya) (hm:m≤1000000):∀ n t R (i:Int),TOk t→0≤i→R.length≤m→(∀ c∈R,Ls (m+1) c)→(∀ k:Nat,i≤k→∀ c,R[k]? = some c→Ls m c)→(1000001-i).toNat<n→Ok (Zg6 n t T f C L R i) λo=>TOk o.1∧o.2.1=T∧o.2.2.1=f∧o.2.2.2.1=C∧o.2.2.2.2.1=L∧o.2.2.2.2.2.length=R.length∧∀ c∈o.2.2.2.2.2,Ls (m+1) c:=by
 have hlim:=lim_eq;intro n
 induction n with
 |zero=>grind
 |succ n ih=>
  intro t R i ht hi hlm hl hk hn
  refine Wx (λhx=>?_) λ_=>Wb ⟨ht,rfl,rfl,rfl,rfl,rfl,hl⟩
  rw[idx_of hi hx];have hc:=hk i.toNat om _ (Wo om);have hcn:=hc.n
  refine Ap gD (Wa (Z4k ht) λp hp=>Nxt hp.2 om om λr a0 a1 a2=>Nxt a2 om om λr2 b0 b1 b2=>Ap gD ?_)
  rw[wi (i+1) om om]
  refine(ih _ _ _ b2 om gD (λc3 hc3=>?_) (λk hk2 c3 hc3=>?_) om).mono λo ho=>⟨ho.1,ho.2.1,ho.2.2.1,ho.2.2.2.1,ho.2.2.2.2.1,ho.2.2.2.2.2.1.trans Wa6,ho.2.2.2.2.2.2⟩
  rcases Wad hc3 with q|q
  exact hl c3 q;rw[q];exact⟨gD,λy hy=>(Wl.1 hy).elim (hc.a y) λq=>by rw[Wj.1 q];exact ok32 hp.1.a⟩;rw[Wbi om]at hc3
  grind
def Zaez (T:Zb) (f:Zp) (C:List Zo) (R:List Yd) (hm:m≤1000000):∀ n L (i:Int),0≤i→L.length≤m→(∀ c∈L,c.length≤m+1)→(∀ k:Nat,i≤k→∀ c,L[k]? = some c→c.length≤m)→(1000001-i).toNat<n→Ok (Zg7 n T f C R L i) λo=>o.1=T∧o.2.1=f∧o.2.2.1=C∧o.2.2.2.1=R∧o.2.2.2.2.length=L.length∧∀ c∈o.2.2.2.2,c.length≤m+1:=by
 have hlim:=lim_eq;intro n
 induction n with
 |zero=>grind
 |succ n ih=>
  intro L i hi hlm hl hk hn
  refine Wx (λhx=>?_) λ_=>Wb ⟨rfl,rfl,rfl,rfl,rfl,hl⟩
  rw[idx_of hi hx];have hc:=hk i.toNat om _ (Wo gD);simp;rw[wi (i+1) om om]
  grind
def Zajl {t:Zc} (ht:TOk t) {N:Z0} (h:Nz m N) (h1:1≤m) (hm:m≤999999):Ok (Zjq t N) λr=>Nz (m+1) r.1∧TOk r.2:=by
 have hf:=Z8;have hlim:=lim_eq;have h':=h.mono (show m≤m+1 by omega);have rl:=h.rl;have ll:=h.ll;have cl:=h.cl
 refine Nxt ht om om λr a0 a1 a2=>Wi (λ_=>?_) λ_=>Wi (λ_=>?_) λ_=>Wi (λ_=>?_) λ_=>Wi (λ_=>?_) λ_=>Wi (λ_=>?_) λ_=>Wi (λ_=>?_) λ_=>?_
 exact Wa (Z7a a2 h.t om) λq hq=>Wb ⟨{h' with t:=hq.1},hq.2⟩
 exact Wa (Z80 a2 h.fl h.fd om) λq hq=>Wb ⟨{h' with fl:=hq.1.1,fd:=hq.1.2},hq.2⟩
 rw[Zaaa om λc hc=>by have:=(h.c c hc).l;omega];exact Waf om (Wb ⟨{h' with cl:=by grind,c:=λc hc=>(Wl.1 hc).elim (h'.c c) λq=>by rw[Wj.1 q];exact⟨sM,λp hp=>(by cases hp)⟩},a2⟩);rw[Zaaa om λc hc=>by have:=(h.c c hc).l;omega]
 refine Lf ?_
 refine Wa (Zaex N.Topology N.Failure N.Routes N.Labels h1 om fuel r.2 N.Configs 0 a2 om cl h.c om) λo ho=>?_
 obtain⟨t2,T2,f2,R2,L2,l2⟩:=o;obtain⟨g1,rfl,rfl,rfl,rfl,g2,g3⟩:=ho;exact Wb ⟨{h' with cl:=by grind,c:=λc hc=>(g3 c hc).mono om},g1⟩
 refine Ap gD ?_
 refine Wa (Zaey (m:=m) N.Topology N.Failure N.Configs N.Labels om fuel r.2 N.Routes 0 a2 om rl h'.r (λk _ c hc=>h.r c (Wq hc)) om) λo ho=>?_
 obtain⟨t2,T2,f2,C2,L2,R2⟩:=o;obtain⟨g1,rfl,rfl,rfl,rfl,g2,g3⟩:=ho;exact Wb ⟨{h' with rl:=by grind,r:=g3},g1⟩
 refine Ap gD ?_
 refine Wa (Zaez (m:=m) N.Topology N.Failure N.Configs N.Routes om fuel N.Labels 0 om ll h'.l (λk _ c hc=>h.l c (Wq hc)) om) λo ho=>?_
 obtain⟨T2,f2,C2,R2,L2⟩:=o;obtain⟨rfl,rfl,rfl,rfl,g2,g3⟩:=ho;exact Wb ⟨{h' with ll:=by grind,l:=g3},a2⟩
 exact Wx (λhc=>Waf ⟨om,om,om⟩ (Wb ⟨{h' with ll:=by grind,l:=λl hl=>h'.l l gD},a2⟩)) λ_=>Wb ⟨h',a2⟩
def Zae0 (c:Zo) (hc:Cs m c) (hm:m≤1000000):∀ n w i,0≤i→w.length≤i→(1000001-i).toNat<n→Ok (Zr7 c n w i) λ_=>True:=by
 have hlim:=lim_eq;have hcl:=hc.l;intro n
 induction n with
 |zero=>grind
 |succ n ih=>
  intro w i hi hw hn
  refine Wx (λhx=>Ix hi hx λp hp=>?_) λ_=>Wb trivial
  have g:=hc.p p hp;have g1:=g.i;have g2:=g.e;have g3:=g.v;have g4:=g.h;have g5:=g.s;unfold Zgu Zlj Zlk Zkt;rw[wi (i+1) om om]
  grind
def Zajm {N:Z0} (h:Nz m N) (hm:m≤1000000):Ok (Zo6 N) λ_=>True:=by
 have hlim:=lim_eq;have hf:=Z8;have:=h.t.d;have:=h.t.k;have:=h.t.e;have:=h.t.p;have:=h.fl;have:=h.fd;have cl:=h.cl;have rl:=h.rl;have ll:=h.ll
 have A:∀(n:Nat) (x:Zb) (y:Zp) (w:List Zo) (i:Int),0≤i→w.length≤i→(1000001-i).toNat<n→Ok (Zon N n x y w i) λ_=>True:=by
  intro n
  induction n with
  |zero=>intro x y w i _ _ h;omega
  |succ n ih=>
   intro x y w i hi hw hn;unfold Zon
   exact Wx (λhx=>Ix hi hx λc hc=>Wa (Zae0 c (h.c c hc) hm fuel [] 0 om sM om) λv _=>by
    rw[wi (i+1) om om]
    grind) λ_=>Wb trivial
 have B:∀(n:Nat) (x:Zb) (y:Zp) (w:List Yd) (i:Int),0≤i→w.length≤i→(1000001-i).toNat<n→Ok (Zoo N n x y w i) λ_=>True:=by
  intro n
  induction n with
  |zero=>intro x y w i _ _ h;omega
  |succ n ih=>
   intro x y w i hi hw hn;unfold Zoo
   exact Wx (λhx=>Ix hi hx λc hc=>by
    have:=(h.r c hc).n;unfold Zku;rw[wi (i+1) om om,if_pos om]
    grind) λ_=>Wb trivial
 have C:∀(n:Nat) (x:Zb) (y:Zp) (w:List Ya) (i:Int),0≤i→w.length≤i→(1000001-i).toNat<n→Ok (Zop N n x y w i) λ_=>True:=by
  intro n
  induction n with
  |zero=>intro x y w i _ _ h;omega
  |succ n ih=>
   intro x y w i hi hw hn;unfold Zop
   exact Wx (λhx=>Ix hi hx λc hc=>by
    have:=h.l c hc;unfold Ze7;rw[wi (i+1) om om,if_pos om]
    exact Ap sO (ih _ _ _ _ om sO om)) λ_=>Wb trivial
 unfold Zo6 Zjr Zlh Zli Zjs Ze7;rw[if_pos om,if_pos om,if_pos om,if_pos om,if_pos om,if_pos om];simp only[Wc]
 exact Wa (A fuel _ _ [] 0 om sM om) λ⟨a,b,c⟩ _=>Wa (B fuel _ _ [] 0 om sM om) λ⟨a,b,c⟩ _=>Wa (C fuel _ _ [] 0 om sM om) λ⟨a,b,c⟩ _=>Wb trivial
def inD (N:Z0) (d:Int):Bool:=!(decide (d<0)||decide (d≥(List.length N.Topology.Devices:Int)))
def Zaig {N:Z0} (h:Nz m N) (hm:m≤1000000) (d:Int) {v:Bool} (hv:Zdt N=some v):(Zji N d).isSome=(v&&inD N d)∧(v=false→Zim N d=some 1)∧(v=true→inD N d=false→Zim N d=some 2):=by
 obtain⟨c,hc,_⟩:=Zajm h hm;have n1:Zfz 64=some (64,[]):=rfl;unfold Zji Zim inD
 grind
def law {l:List Int} {N:Z0} {d:Int} (hs:Zix=some true) (hl:∃ t,Ztr l=some t∧TOk t) (hN:NIn N):Zf9 l N d=some true:=by
 obtain⟨t,e,ht⟩:=hl;unfold Zf9;rw[e];obtain⟨r3,e3,h3,ht3⟩:=Zag1 ht 3 2 true om om om;have z3:=h3.nz;simp;rw[e3];obtain⟨r5,e5,z5,_⟩:=Zajl ht3 z3 om om;simp;rw[e5];obtain⟨v,p1,p2,_⟩:=Z1k (z3.in om);obtain⟨w,q1,q2,_⟩:=Z1k (z5.in om);obtain⟨u,s1,s2,_⟩:=Z1k hN;obtain⟨g1,g2,g3⟩:=Zaig z5 om d q1;simp only[Wc,p1,p2,q1,q2,BEq.rfl,if_false];have hh:∃ b,Zjj N.Topology=some b:=⟨_,rfl⟩;obtain⟨b,hb⟩:=hh
 cases hn:Zji r5.1 d with
 |some k=>
  rw[hn]at g1;simp only[Option.isSome_some]at g1;have g1:=g1.symm;rw[Wh]at g1;obtain⟨rfl,gd⟩:=g1
  unfold inD at gd
  grind
 |none=>
  rw[hn]at g1;cases w;rw[g2 rfl];simp[hb,s1,s2,hs]
  have gd:=by simpa using g1.symm
  rw[g3 rfl gd]
  unfold inD at gd
  have gd2:¬(d≥0∧d<(List.length r5.1.Topology.Devices:Int)):=by
   grind
  simp[hb,s1,s2,hs,gd2]
end
def sm_NIn {N:Z0} (h:Zuu N):NIn N:=by
 obtain⟨⟨t1,t2,t3,t4,_,_⟩,⟨f1,f2,_⟩,⟨_,c⟩,⟨_,r⟩,_,_⟩:=h
 refine⟨⟨by have:=t1.1;omega,by have:=t2.1;omega,by have:=t3.1;omega,by have:=t4.1;omega,λx hx=>(t3.2 x hx).2.2.2.1.1,λx hx=>(t4.2 x hx).1⟩,λy hy=>?_,by have:=f1.1;omega,by have:=f2.1;omega,λl hl=>⟨by have:=(r l hl).1;omega,λx hx=>((r l hl).2 x hx).1.1⟩⟩
 have g:=(c y hy).1
 refine⟨by have:=g.1;omega,λp hp=>?_⟩
 obtain⟨_,a1,a2,a3,a4,a5,_⟩:=g.2 p hp;exact⟨by have:=a1.1;omega,by have:=a2.1;omega,by have:=a3.1;omega,by have:=a4.1;omega,by have:=a5.1;omega,λy hy=>(a4.2 y hy).2.1⟩
def Z3c {l:List Int} {N:Z0} {d:Int} (hl:Zxk l) (hN:Zuu N) (_:Zm4 d):Zf9 l N d=some true:=by
 have hl1:=hl.1;obtain⟨t,e,h⟩:=New_ok (l:=l) om;exact law rfl ⟨t,e,h⟩ (sm_NIn hN)
end
end Go.AM

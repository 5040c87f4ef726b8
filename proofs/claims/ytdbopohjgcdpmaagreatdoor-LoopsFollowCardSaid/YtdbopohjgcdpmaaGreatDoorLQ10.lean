/- Parts of a proof, printed short. No condition. -/
import Derived.Laws.Strings
import Derived.Test.YtdbopohjgcdpmaaGreatDoorLQ9
set_option maxRecDepth 100000
set_option linter.all false
namespace Go.AM
noncomputable section
open Go
open Go.IntKind(wrap)
def SB (x:Option Bool) (P:Prop):Prop:=∃ r,x=some r∧(r=true↔P)
def SB.same {x y:Option Bool} {P Q:Prop} (h1:SB x P) (h2:SB y Q) (h:P↔Q):x=y:=by
 obtain⟨r,e,hr⟩:=h1;obtain⟨s,f,hs⟩:=h2
 grind
def SB.iff {x:Option Bool} {P Q:Prop} (h:SB x P) (k:P↔Q):SB x Q:=by
 grind
def SB.of {x:Option Bool} {b:Bool} {P:Prop} (h:x=some b) (k:b=true↔P):SB x P:=⟨b,h,k⟩
def Ck (a:Option Yb) (P:Prop):Prop:=(a=some (.inl ())∧P)∨(a=some (.inr false)∧¬P)
def Ck.sb {a:Option Yb} {P:Prop} (h:Ck a P):SB (a.bind λo=>match o with|.inl ()=>some true|.inr r=>some r) P:=by
 rcases h with⟨e,h⟩|⟨e,h⟩
 rw[e];exact⟨true,rfl,gD⟩;rw[e];exact⟨false,rfl,gD⟩
def Wf0:=@Ck.sb
def Ck.seq {a:Option Yb} {P Q:Prop} {x:Option Bool} (h:Ck a P) (k:P→SB x Q):SB (a.bind λo=>match o with|.inl ()=>x|.inr r=>some r) (P∧Q):=by
 rcases h with⟨e,h⟩|⟨e,h⟩
 obtain⟨r,e2,hr⟩:=k h;rw[e];exact⟨r,e2,gD⟩;rw[e];exact⟨false,rfl,gD⟩
def Stp (a b:Option Yb) (g:Prop):Prop:=(g→a=b)∧(¬g→a=some (.inr false))
def LKp {L:Nat→Int→Option Yb} {m:Int} {good:Int→Prop} (h0:0≤m) (hm:m≤1000000000000) (step:∀ n i,0≤i→i<m→Stp (L (n+1) i) (L n (i+1)) (good i)) (stop:∀ n,L (n+1) m=some (.inl ())):Ck (L fuel 0) (∀ i,0≤i→i<m→good i):=by
 have hf:=Z6
 have key:∀ n i,0≤i→i≤m→(m-i).toNat<n→Ck (L n i) (∀ j,i≤j→j<m→good j):=by
  intro n
  induction n with
  |zero=>omega
  |succ n ih=>
   intro i a b c
   by_cases h:i<m
   have s:=step n i a h
   by_cases g:good i
   rw[s.1 g]
   rcases ih (i+1) om om om with⟨e,k⟩|⟨e,k⟩
   exact .inl ⟨e,λj hj hjm=>if hji:j=i then hji▸g else k j om hjm⟩;exact .inr ⟨e,λq=>k λj hj hjm=>q j om hjm⟩;exact .inr ⟨s.2 g,λq=>g (q i om h)⟩
   have:i=m:=om
   subst this;exact .inl ⟨stop n,λj hj hjm=>om⟩
 grind
def Stp.ite {b:Option Yb} {c:Bool} {g:Prop} (h:c=true↔¬g):Stp (if c=true then some (.inr false)else b) b g:=by
 constructor;intro hg;rw[if_neg λhc=>h.1 hc hg]
 grind
def Wa3:=@Stp.ite
def Stp.two {a b:Option Yb} {c:Bool} {g P:Prop} (h:c=true↔¬g) (k:g→Ck a P):Stp (if c=true then some (.inr false)else a.bind λo=>match o with|.inl ()=>b|.inr r=>some (.inr r)) b (g∧P):=by
 constructor;rintro⟨hg,hp⟩;rw[if_neg λhc=>h.1 hc hg]
 rcases k hg with⟨e,_⟩|⟨_,q⟩
 rw[e];rfl;exact absurd hp q;intro hn
 by_cases hg:g
 rw[if_neg λhc=>h.1 hc hg]
 rcases k hg with⟨_,q⟩|⟨e,_⟩
 exact absurd ⟨hg,q⟩ hn;rw[e];rfl
 grind
def Stp.one {a b:Option Yb} {P:Prop} (k:Ck a P):Stp (a.bind λo=>match o with|.inl ()=>b|.inr r=>some (.inr r)) b P:=by
 rcases k with⟨e,q⟩|⟨e,q⟩
 exact⟨λ_=>gD,λh=>absurd q h⟩;exact⟨λh=>absurd h q,λ_=>gD⟩
def Wg5:=@Stp.one
def Zajy {s:ByteArray} {i:Int} (h0:0≤i) (h1:i<s.size):∃ x,sidx s i=some x:=by
 have hi:i.toNat<s.size:=om
 exact⟨(s[i.toNat]'hi).toNat,by simp[sidx,h0,h1]⟩
def ch (s:ByteArray) (i:Int):Int:=(sidx s i).getD 0
def ch_eq {s:ByteArray} {i:Int} (h0:0≤i) (h1:i<s.size):sidx s i=some (ch s i):=by
 obtain⟨x,h⟩:=Zajy h0 h1;unfold ch;grind
def lowc (c:Int):Prop:=97≤c∧c≤122
def othc (c:Int):Prop:=(48≤c∧c≤57)∨c=45∨c=95
structure Vn (s:ByteArray):Prop where
 n0:1≤s.size
 n1:s.size≤24
 any:(s.toList==(⟨#[97,110,121]⟩:ByteArray).toList)=false
 c:∀ i:Int,0≤i→i<s.size→lowc (ch s i)∨(othc (ch s i)∧i≠0)
def Zv4 {s:ByteArray}:(s.toList==ByteArray.empty.toList)=true↔s.size=0:=by
 rw[Wct,ByteArray.toList_eq,ByteArray.toList_eq]
 have e:∀ s:ByteArray,s.data.toList.length=s.size:=λs=>by rfl
 constructor;intro h;have:=congrArg List.length h;exact this;simp_all
def ifand {b:Bool} {x:Option Bool} {c:Bool} (h:x=some c):(if b=true then x else some false)=some (b&&c):=gD
def ifor {b:Bool} {x:Option Bool} {c:Bool} (h:x=some c):(if b=true then some true else x)=some (b||c):=gD
def pVn {s:ByteArray}:SB (Zb5 s) (Vn s):=by
 unfold Zb5;simp only[Wc]
 by_cases h0:(s.toList==ByteArray.empty.toList)=true
 have:=Zv4.1 h0;rw[h0];exact⟨false,rfl,by simp;intro h;have:=h.n0;omega⟩
 have hs:s.size≠0:=λh=>h0 (Zv4.2 h)
 rw[Wde]at h0;rw[h0];simp only[Wc7]
 by_cases h1:(s.size:Int)>24
 rw[Wf h1];exact⟨false,rfl,by simp;intro h;have:=h.n1;omega⟩;rw[Wo h1];simp only[Wc7]
 cases ha:(s.toList==(⟨#[97,110,121]⟩:ByteArray).toList)with
 |true=>
  simp only[if_true,Wc];exact⟨false,rfl,by simp;intro h;have:=h.any;rw[ha]at this;cases this⟩
 |false=>
  rw[ch_eq (i:=0) om om];simp only[Wc,Wy,if_false]
  by_cases hl:lowc (ch s 0)
  have hl':=hl
  unfold lowc at hl'
  rw[Wo (show ¬ch s 0<97 by omega),Wo (show ¬ch s 0>122 by omega)]
  refine(Wf0 (P:=∀ i:Int,0≤i→i<s.size→lowc (ch s i)∨othc (ch s i)) (LKp om om (λn i i0 i1=>?_) λn=>?_)).iff ?_
  rw[Zjj,if_pos (Wf i1),wi (i+1) om om,ch_eq i0 i1];simp only[Wc,ifand rfl]
  refine Wa3 ?_
  unfold lowc othc
  by_cases a1:ch s i≥97<;>by_cases a2:ch s i≤122<;>by_cases a3:ch s i≥48<;>by_cases a4:ch s i≤57<;>by_cases a5:ch s i=45<;>by_cases a6:ch s i=95<;>simp[a1,a2,a3,a4,a5,a6]<;>omega
  rw[Zjj,if_neg sM];constructor;intro h
  refine⟨om,om,ha,λi i0 i1=>?_⟩
  rcases h i i0 i1 with q|q
  exact .inl q
  by_cases e:i=0
  subst e;exact .inl hl;exact .inr ⟨q,e⟩;intro h i i0 i1
  exact(h.c i i0 i1).imp id λq=>q.1
  have hn:¬Vn s:=λh=>(h.c 0 om (by have:=h.n0;omega)).elim hl λq=>q.2 rfl
  unfold lowc at hl
  by_cases hlt:ch s 0<97
  rw[Wf hlt];simp only[if_true,Wc];exact⟨false,rfl,by simp[hn]⟩;rw[Wo hlt];rw[Wf (show ch s 0>122 by omega)];exact⟨false,rfl,by simp[hn]⟩
def rVn {s:ByteArray}:SB (Zac s) (Vn s):=by
 unfold Zac;simp only[Wc]
 by_cases h0:(s.toList==ByteArray.empty.toList)=true
 have:=Zv4.1 h0;rw[h0];exact⟨false,rfl,by simp;intro h;have:=h.n0;omega⟩
 have hs:s.size≠0:=λh=>h0 (Zv4.2 h)
 rw[Wde]at h0;rw[h0]
 by_cases h1:(s.size:Int)>24
 rw[Wf h1];exact⟨false,rfl,by simp;intro h;have:=h.n1;omega⟩;rw[Wo h1];simp only[Wc7]
 cases ha:(s.toList==(⟨#[97,110,121]⟩:ByteArray).toList)with
 |true=>
  exact⟨false,rfl,by simp;intro h;have:=h.any;rw[ha]at this;cases this⟩
 |false=>
  refine(Wf0 (P:=∀ i:Int,0≤i→i<s.size→lowc (ch s i)∨(othc (ch s i)∧i≠0)) (LKp om om (λn i i0 i1=>?_) λn=>?_)).iff ⟨λh=>⟨om,om,ha,h⟩,λh=>h.c⟩
  rw[Zdh,if_pos (Wf i1),wi (i+1) om om,ch_eq i0 i1];simp only[Wc,ifand rfl,ifor rfl]
  refine Wa3 ?_
  unfold lowc othc
  by_cases a1:ch s i≥97<;>by_cases a2:ch s i≤122<;>by_cases a3:ch s i≥48<;>by_cases a4:ch s i≤57<;>by_cases a5:ch s i=45<;>by_cases a6:ch s i=95<;>by_cases a7:i=0<;>simp <;>omega
  rw[Zdh,if_neg sM]
def Zajz (s:ByteArray):Zb5 s=Zac s:=SB.same pVn rVn Wcl
def vnB (s:ByteArray):Bool:=(Zac s).getD false
def rvn_eq (s:ByteArray):Zac s=some (vnB s):=by
 obtain⟨r,e,_⟩:=@rVn s;unfold vnB;grind
def pvn_eq (s:ByteArray):Zb5 s=some (vnB s):=(Zajz s).trans (rvn_eq s)
def nI {α:Type} (p:α→Bool) (l:List α):Int:=orN (findI (λi x=>if p x=true then some (i:Int)else none) 0 l)
def idxF {α:Type} {L:Nat→Int→Option Yf} (l:List α) (p:α→Bool) (hl:l.length≤1000000000000) (step:∀ n (i:Nat) h,L (n+1) i=if p l[i]=true then some (.inr i)else L n (i+1:Nat)) (stop:∀ n,L (n+1) l.length=some (.inl ())):((L fuel 0).bind λo=>match o with|.inl ()=>some (-1)|.inr r=>some r)=some (nI p l):=by
 rw[Zns (L:=L) l (λi x=>if p x=true then some i else none) hl gD stop];unfold nI;cases findI (λi x=>if p x=true then some (i:Int)else none) 0 l<;>rfl
def Z73 {α:Type} (p:α→Bool):∀ l i,orN (findI (λi x=>if p x=true then some i else none) i l)≥0↔l.any p=true
 |[],i=>by simp[findI,orN]
 |x::l,i=>by
  simp  [findI,Wgb]
  by_cases h:p x=true
  rw[h];simp[orN];rw[Bool.eq_false_iff.2 h];simpa using Z73 p l (i+1)
def nI_any {α:Type} (p:α→Bool) (l:List α):decide (nI p l≥0)=l.any p:=by
 rw[Wa8,W4];exact Z73 p l 0
def anyF {α:Type} {L:Nat→Int→Option Yb} (l:List α) (p:α→Bool) (hl:l.length≤1000000000000) (step:∀ n (i:Nat) h,L (n+1) i=if p l[i]=true then some (.inr true)else L n (i+1:Nat)) (stop:∀ n,L (n+1) l.length=some (.inl ())):((L fuel 0).bind λo=>match o with|.inl ()=>some false|.inr r=>some r)=some (l.any p):=by
 rw[Zns (L:=L) l (λ_ x=>if p x=true then some true else none) hl gD stop]
 have key:∀ l i,findI (λ_ x=>if p x=true then some true else none) i l=if l.any p=true then some true else none:=by
  intro l
  induction l with
  |nil=>intro i;rfl
  |cons x l ih=>
   intro i
   by_cases hx:p x=true
   simp[findI,hx];simp[findI,hx,ih (i+1)]
 rw[key];cases l.any p<;>rfl
def nm (f:ByteArray) (s:ByteArray):Bool:=f.toList==s.toList
def dI (l:List Z5) (s:ByteArray):Int:=nI (λd=>nm d.Name s) l
def eI (l:List Z2) (s:ByteArray):Int:=nI (λd=>nm d.Name s) l
def Zaj0 {t:Zb} (hl:t.Devices.length≤1000000000000) (s:ByteArray):Ze0 t s=some (dI t.Devices s):=idxF t.Devices _ hl (λn i hi=>by rw[Zcz,if_pos gD,Zaq hi,wsucc om];rfl) λn=>by rw[Zcz,if_neg sM]
def Zaj1 {t:Zb} (hl:t.Devices.length≤1000000000000) (s:ByteArray):Zsa t s=some (dI t.Devices s):=congrArg (λx=>x.bind λr1=>some r1) (idxF (L:=Za5 t.Devices s) t.Devices (λd=>nm d.Name s) hl (λn i hi=>by rw[Za5,if_pos gD,Zaq hi,wsucc om];rfl) λn=>by rw[Za5,if_neg sM])
def Zaie {t:Zb} (hl:t.Edges.length≤1000000000000) (s:ByteArray):Zcg t s=some (eI t.Edges s):=idxF t.Edges _ hl (λn i hi=>by rw[Zde,if_pos gD,Zaq hi,wsucc om];rfl) λn=>by rw[Zde,if_neg sM]
def Zaif {t:Zb} (hl:t.Edges.length≤1000000000000) (s:ByteArray):Ztv t s=some (eI t.Edges s):=congrArg (λx=>x.bind λr1=>some r1) (idxF (L:=Zbh t.Edges s) t.Edges (λd=>nm d.Name s) hl (λn i hi=>by rw[Zbh,if_pos gD,Zaq hi,wsucc om];rfl) λn=>by rw[Zbh,if_neg sM])
structure TIn (t:Zb):Prop where
 d:t.Devices.length≤1000000000000
 k:t.Links.length≤1000000000000
 e:t.Edges.length≤1000000000000
 p:t.Pools.length≤1000000000000
 ea:∀ x∈t.Edges,Zbd x.Prefix.Addr
 pa:∀ x∈t.Pools,Zbd x.Addr
def dvB (d:Z5):Bool:=vnB d.Name&&decide (d.Capacity≥0)&&decide (d.Capacity≤4096)&&(d.Class.toList==ByteArray.empty.toList||vnB d.Class)
def pdv_eq (d:Z5):Zif d=some (dvB d):=by
 unfold Zif dvB;rw[pvn_eq,pvn_eq]
 grind
def lkB (n:Nat) (l:Zag):Bool:=decide (l.A<0)||decide (l.B≤l.A)||decide (l.B≥(n:Int))||decide (l.Cost<1)||decide (l.Cost>1000)
def egB (n:Nat) (e:Z2):Bool:=vnB e.Name&&vnB e.Zone&&decide (0≤e.Device)&&decide (e.Device<n)&&decide (1≤e.Prefix.Bits)&&pvB e.Prefix&&(!e.Planned||e.Prefix.Addr==0)
def peg_eq {t:Zb} {e:Z2} (h:Zbd e.Prefix.Addr):Zkm t e=some (egB t.Devices.length e):=by
 unfold Zkm egB;rw[pvn_eq,pvn_eq,Zv8 h];rw[show decide (e.Prefix.Bits>0)=decide (1≤e.Prefix.Bits)from by grind];cases vnB e.Name<;>cases vnB e.Zone<;>cases decide (0≤e.Device)<;>cases decide (e.Device<t.Devices.length)<;>cases decide (1≤e.Prefix.Bits)<;>cases pvB e.Prefix<;>simp
def reg_eq {n:Nat} {e:Z2} (h:Zbd e.Prefix.Addr):Zdk e n=some (egB n e):=by
 unfold Zdk egB;rw[rvn_eq,rvn_eq,Z0q h];simp
 grind
structure Tv (t:Zb):Prop where
 d0:1≤t.Devices.length
 d1:t.Devices.length≤12
 k1:t.Links.length≤24
 e1:t.Edges.length≤12
 p1:t.Pools.length≤8
 t0:0≤t.Tolerate
 t1:t.Tolerate≤2
 dv:∀ i:Int,0≤i→i<t.Devices.length→∀ d,idx t.Devices i=some d→dvB d=true∧dI t.Devices d.Name=i
 lk:∀ i:Int,0≤i→i<t.Links.length→∀ l,idx t.Links i=some l→lkB t.Devices.length l=false
 eg:∀ i:Int,0≤i→i<t.Edges.length→∀ e,idx t.Edges i=some e→egB t.Devices.length e=true∧eI t.Edges e.Name=i
 ov:t.Edges.Pairwise λa b=>a.Planned=false→b.Planned=false→meB b.Prefix a.Prefix=false
 pl:∀ i:Int,0≤i→i<t.Pools.length→∀ p,idx t.Pools i=some p→pvB p=true∧((t.Pools.take i.toNat).any λq=>meB p q)=false
def Zr2 {α:Type} {l:List α} {i:Int} {x:α} (h:idx l i=some x):x∈l:=by
 unfold idx at h
 grind
def Zaig (t:Zb) (hl:t.Links.length≤1000000000000):Ck (Zcm t fuel 0) (∀ i:Int,0≤i→i<t.Links.length→∀ l,idx t.Links i=some l→lkB t.Devices.length l=false):=by
 refine LKp om om (λn i i0 i1=>?_) λn=>?_
 rw[Zcm,if_pos (Wf i1),wi (i+1) om om,idx_of i0 i1]
 refine Wa3 (g:=∀ l,some (t.Links[i.toNat]'om)=some l→lkB t.Devices.length l=false) ?_
 simp[lkB];omega;rw[Zcm,if_neg sM]
def Zaha (t:Zb) (hl:t.Links.length≤1000000000000):Ck (Zhy t fuel 0) (∀ i:Int,0≤i→i<t.Links.length→∀ l,idx t.Links i=some l→lkB t.Devices.length l=false):=by
 refine LKp om om (λn i i0 i1=>?_) λn=>?_
 rw[Zhy,if_pos (Wf i1),wi (i+1) om om,idx_of i0 i1]
 refine Wa3 (g:=∀ l,some (t.Links[i.toNat]'om)=some l→lkB t.Devices.length l=false) ?_
 simp[lkB];omega;rw[Zhy,if_neg sM]
def Zaj2 (l:List Z5) (hl:l.length≤1000000000000):Ck (Zbt l fuel 0) (∀ i:Int,0≤i→i<l.length→∀ d,idx l i=some d→dvB d=true∧dI l d.Name=i):=by
 refine LKp om om (λn i i0 i1=>?_) λn=>?_
 rw[Zbt,if_pos (Wf i1),wi (i+1) om om,idx_of i0 i1];simp only[Wc];rw[rvn_eq,rvn_eq,Zaj0 hl];simp only[Wc,ifor rfl,ifand rfl]
 refine Wa3 (g:=∀ d,some (l[i.toNat]'om)=some d→dvB d=true∧dI l d.Name=i) ?_
 generalize l[i.toNat]'om=d;simp only[Wn,forall_eq',dvB]
 by_cases hi:dI l d.Name=i
 rw[show decide (d.Capacity<0)=!decide (d.Capacity≥0)from by grind,show decide (d.Capacity>4096)=!decide (d.Capacity≤4096)from by grind];cases vnB d.Name<;>cases decide (d.Capacity≥0)<;>cases decide (d.Capacity≤4096)<;>cases(d.Class.toList==ByteArray.empty.toList)<;>cases vnB d.Class<;>simp;simp[hi];rw[Zbt,if_neg sM]
def Zaj3 (t:Zb) (hl:t.Devices.length≤1000000000000):Ck (Zhx t fuel 0) (∀ i:Int,0≤i→i<t.Devices.length→∀ d,idx t.Devices i=some d→dvB d=true∧dI t.Devices d.Name=i):=by
 refine LKp om om (λn i i0 i1=>?_) λn=>?_
 rw[Zhx,if_pos (Wf i1),wi (i+1) om om,idx_of i0 i1];simp only[Wc];rw[pdv_eq,Zaj1 hl];simp only[Wc,ifor rfl]
 refine Wa3 (g:=∀ d,some (t.Devices[i.toNat]'om)=some d→dvB d=true∧dI t.Devices d.Name=i) ?_
 generalize t.Devices[i.toNat]'om=d;simp;cases dvB d<;>simp;rw[Zhx,if_neg sM]
def Zaih (t:Zb) (ht:TIn t):Ck (Zcn t fuel 0) (∀ i:Int,0≤i→i<t.Edges.length→∀ e,idx t.Edges i=some e→egB t.Devices.length e=true∧eI t.Edges e.Name=i):=by
 have hl:=ht.e
 refine LKp om om (λn i i0 i1=>?_) λn=>?_
 rw[Zcn,if_pos (Wf i1),wi (i+1) om om,idx_of i0 i1];simp only[Wc];rw[reg_eq (ht.ea _ (Wv (show i.toNat<t.Edges.length by omega))),Zaie hl];simp only[Wc,ifor rfl]
 refine Wa3 (g:=∀ e,some (t.Edges[i.toNat]'om)=some e→egB t.Devices.length e=true∧eI t.Edges e.Name=i) ?_
 generalize t.Edges[i.toNat]'om=e;simp;cases egB t.Devices.length e<;>simp;rw[Zcn,if_neg sM]
def Zacq (p:Zn) (l:List Zn) (hp:Zbd p.Addr) (h:∀ x∈l,Zbd x.Addr) (hl:l.length≤1000000000000):Zh8 p l=some (l.any λq=>meB p q):=anyF l _ hl (λn i hi=>by rw[Zfb,if_pos gD,Zaq hi,wsucc om];simp  [Wc,Zahx hp (h _ (Wv hi))]) λn=>by rw[Zfb,if_neg sM]
def Zahb (p:Zn) (l:List Zn) (hp:Zbd p.Addr) (h:∀ x∈l,Zbd x.Addr) (hl:l.length≤1000000000000):Zb6 l p=some (l.any λq=>meB p q):=(congrArg (λx=>x.bind λr1=>some (decide (r1≥0))) (idxF (L:=Za8 l p) l (λq=>meB p q) hl (λn i hi=>by rw[Za8,if_pos gD,Zaq hi,wsucc om];unfold Zrd;simp  [Wc,Zabz hp (h _ (Wv hi))]) λn=>by rw[Za8,if_neg sM])).trans (congrArg some (nI_any _ _))
def Zaii (t:Zb) (ht:TIn t):Ck (Zc6 t fuel 0) (∀ i:Int,0≤i→i<t.Pools.length→∀ p,idx t.Pools i=some p→pvB p=true∧((t.Pools.take i.toNat).any λq=>meB p q)=false):=by
 have hl:=ht.p
 refine LKp om om (λn i i0 i1=>?_) λn=>?_
 rw[Zc6,if_pos (Wf i1),wi (i+1) om om,idx_of i0 i1];have ha:=ht.pa _ (Wv (show i.toNat<t.Pools.length by omega));simp only[Wc];rw[Z0q ha,if_pos gD,Zacq _ _ ha (λx hx=>ht.pa x gD) gD];simp only[Wc,ifor rfl]
 refine Wa3 (g:=∀ p,some (t.Pools[i.toNat]'om)=some p→pvB p=true∧((t.Pools.take i.toNat).any λq=>meB p q)=false) ?_
 generalize t.Pools[i.toNat]'om=p;simp;cases pvB p<;>simp;rw[Zc6,if_neg sM]
def Zaij (t:Zb) (ht:TIn t):Ck (Zh0 t fuel 0) (∀ i:Int,0≤i→i<t.Pools.length→∀ p,idx t.Pools i=some p→pvB p=true∧((t.Pools.take i.toNat).any λq=>meB p q)=false):=by
 have hl:=ht.p
 refine LKp om om (λn i i0 i1=>?_) λn=>?_
 rw[Zh0,if_pos (Wf i1),wi (i+1) om om,idx_of i0 i1];have ha:=ht.pa _ (Wv (show i.toNat<t.Pools.length by omega));simp only[Wc];rw[Zv8 ha,if_pos gD,Zahb _ _ ha (λx hx=>ht.pa x gD) gD];simp only[Wc,ifor rfl]
 refine Wa3 (g:=∀ p,some (t.Pools[i.toNat]'om)=some p→pvB p=true∧((t.Pools.take i.toNat).any λq=>meB p q)=false) ?_
 generalize t.Pools[i.toNat]'om=p;simp;cases pvB p<;>simp;rw[Zh0,if_neg sM]
def Fix_eq {t:Zb} (hl:t.Edges.length≤2000000000):Zdl t=some ((t.Edges.filter λe=>!e.Planned).map (·.Prefix)):=by
 have hlim:=lim_eq;unfold Zdl
 have:=Ztn (L:=Zcl t) t.Edges (λs _ e=>if(!e.Planned)=true then s++[e.Prefix]else s) id (λi s=>s.length≤i) om (λn s i hi hs=>by
  rw[Zcl,Zaq hi,wsucc om];simp
  grind) (λn s hs=>by rw[Zcl,if_neg sM];rfl) [] sM
 rw[this.1]
 have key:∀(l:List Z2) acc i,foldI (λs _ e=>if(!e.Planned)=true then s++[e.Prefix]else s) acc i l=acc++(l.filter λe=>!e.Planned).map (·.Prefix):=by
  intro l
  induction l with
  |nil=>simp[foldI]
  |cons x l ih=>
   simp  [foldI]
   grind
 grind
def Wc8:=@List.any_eq_false
def Whj:=@List.mem_take_iff_getElem
def Zahc (l:List Zn) (h:∀ x∈l,Zbd x.Addr) (hl:l.length≤1000000000000):Ck (Zco l fuel 0) (l.Pairwise λa b=>meB b a=false):=by
 have key:(∀ i:Int,0≤i→i<l.length→∀ p,idx l i=some p→((l.take i.toNat).any λq=>meB p q)=false)↔l.Pairwise λa b=>meB b a=false:=by
  rw[Wau];constructor;intro h i j hi hj hij;have g:=h j om om l[j] (Zaq hj);rw[Wc8]at g;have:=g l[i] (Whj.2 ⟨i,gD,rfl⟩)
  simpa using this
  intro h i i0 i1 p hp;rw[idx_of i0 i1]at hp;rw[Wc8];intro q hq;obtain⟨k,hk,rfl⟩:=Whj.1 hq
  grind
 have c:Ck (Zco l fuel 0) (∀ i:Int,0≤i→i<l.length→∀ p,idx l i=some p→((l.take i.toNat).any λq=>meB p q)=false):=by
  refine LKp om om (λn i i0 i1=>?_) λn=>?_
  rw[Zco,if_pos (Wf i1),wi (i+1) om om,idx_of i0 i1];simp only[Wc];rw[if_pos om,Zacq _ _ gD gD gD]
  refine Wa3 (g:=∀ p,some (l[i.toNat]'om)=some p→((l.take i.toNat).any λq=>meB p q)=false) ?_
  generalize l[i.toNat]'om=p;simp only[Wn,forall_eq'];show((l.take i.toNat).any λq=>meB p q)=true↔_;cases((l.take i.toNat).any λq=>meB p q)<;>simp;rw[Zco,if_neg sM]
 grind
def rTv {t:Zb} (ht:TIn t):SB (Zc3 t) (Tv t):=by
 unfold Zc3
 have hd:SB (Zcr t.Devices) (1≤t.Devices.length∧t.Devices.length≤12∧∀ i:Int,0≤i→i<t.Devices.length→∀ d,idx t.Devices i=some d→dvB d=true∧dI t.Devices d.Name=i):=by
  unfold Zcr
  by_cases h1:(t.Devices.length:Int)<1
  rw[Wf h1];exact⟨false,rfl,gD⟩
  by_cases h2:(t.Devices.length:Int)>12
  rw[Wf h2];exact⟨false,sM,gD⟩;rw[Wo h1,Wo h2];exact(Zaj2 t.Devices ht.d).sb.iff ⟨λh=>⟨om,om,h⟩,λh=>h.2.2⟩
 obtain⟨r,e,hr⟩:=hd;rw[e]
 by_cases hb:r=true∧t.Links.length≤24∧t.Edges.length≤12∧t.Pools.length≤8∧0≤t.Tolerate∧t.Tolerate≤2
 obtain⟨b1,b2,b3,b4,b5,b6⟩:=hb;obtain⟨g1,g2,g3⟩:=hr.1 b1;rw[b1,Wo om,Wo om,Wo gD,Wo gD,Wo om]
 refine((Zaig t ht.k).seq λ_=>(Zaih t ht).seq (Q:=(t.Edges.Pairwise λa b=>a.Planned=false→b.Planned=false→meB b.Prefix a.Prefix=false)∧∀ i:Int,0≤i→i<t.Pools.length→∀ p,idx t.Pools i=some p→pvB p=true∧((t.Pools.take i.toNat).any λq=>meB p q)=false) λ_=>?_).iff ?_
 rw[Fix_eq (t:=t) om]
 have h3:=Zahc ((t.Edges.filter λe=>!e.Planned).map (·.Prefix)) (λx hx=>by
  obtain⟨y,hy,rfl⟩:=W9.1 hx
  exact ht.ea y (Wab.1 hy).1) gD
 refine(h3.seq λ_=>(Zaii t ht).sb).iff ?_
 rw[Wdu,List.pairwise_filter]
 refine and_congr ?_ Wcl
 constructor<;>intro h<;>refine h.imp λh a b=>?_
 exact h gD (by simp[b]);exact h gD gD;exact⟨λ⟨h1,h2,h3,h4⟩=>⟨g1,g2,b2,b3,b4,b5,b6,g3,h1,h2,h3,h4⟩,λh=>⟨h.lk,h.eg,h.ov,h.pl⟩⟩
 have hn:¬Tv t:=λh=>hb ⟨hr.2 ⟨h.d0,h.d1,h.dv⟩,h.k1,h.e1,h.p1,h.t0,h.t1⟩
 refine⟨false,?_,gD⟩
 grind
theorem Zv5 {α:Type} (l:List α) (i:Int):List.drop (Int.toNat 0) (List.take i.toNat l)=l.take i.toNat:=rfl
def Zaik (t:Zb) (ht:TIn t):Ck (Zhz t fuel 0) (∀ i:Int,0≤i→i<t.Edges.length→(∀ e,idx t.Edges i=some e→egB t.Devices.length e=true∧eI t.Edges e.Name=i)∧∀ e,idx t.Edges i=some e→∀ k:Int,0≤k→k<(t.Edges.take i.toNat).length→∀ d,idx (t.Edges.take i.toNat) k=some d→(e.Planned=false→d.Planned=false→meB e.Prefix d.Prefix=false)):=by
 have hl:=ht.e
 refine LKp om om (λn i i0 i1=>?_) λn=>?_
 rw[Zhz,if_pos (Wf i1),wi (i+1) om om,idx_of i0 i1];have ha:=ht.ea _ (Wv (show i.toNat<t.Edges.length by omega));simp only[Wc];rw[peg_eq ha,Zaif hl];simp only[Wc,ifor rfl];rw[if_pos (show 0≤(0:Int)∧0≤i∧i≤t.Edges.length by omega)]
 generalize t.Edges[i.toNat]'om=e at ha
 simp only[Wn,forall_eq']
 refine Stp.two (P:=∀ k:Int,0≤k→k<(t.Edges.take i.toNat).length→∀ d,idx (t.Edges.take i.toNat) k=some d→(e.Planned=false→d.Planned=false→meB e.Prefix d.Prefix=false)) ?_ λ_=>?_
 cases egB t.Devices.length e<;>simp
 refine LKp om gD (λn k k0 k1=>?_) λn=>?_
 rw[Zmb,Zv5,if_pos (Wf k1),wi (k+1) om gD,idx_of k0 k1];simp only[Wc];rw[Zabz ha (ht.ea _ (Wbc (Wv (show k.toNat<(t.Edges.take i.toNat).length by omega))))];simp only[Wc,ifand rfl]
 refine Wa3 (g:=∀ d,some ((t.Edges.take i.toNat)[k.toNat]'om)=some d→(e.Planned=false→d.Planned=false→meB e.Prefix d.Prefix=false)) ?_
 generalize (t.Edges.take i.toNat)[k.toNat]'om=d;simp  [Wn,forall_eq'];cases e.Planned<;>cases d.Planned<;>simp;rw[Zmb,Zv5,if_neg sM];rw[Zhz,if_neg sM]
def Zacr {l:List Z2}:(∀ i:Int,0≤i→i<l.length→∀ e,idx l i=some e→∀ k:Int,0≤k→k<(l.take i.toNat).length→∀ d,idx (l.take i.toNat) k=some d→(e.Planned=false→d.Planned=false→meB e.Prefix d.Prefix=false))↔l.Pairwise λa b=>a.Planned=false→b.Planned=false→meB b.Prefix a.Prefix=false:=by
 rw[Wau];constructor;intro h i j hi hj hij a b
 have hk:i<(l.take ((j:Int)).toNat).length:=gD
 have g:=h (j:Int) om om l[j] (Zaq hj) i om om _ (Zaq hk);rw[Wgl]at g;exact g b a;intro h i i0 i1 e he k k0 k1 d hd a b;rw[idx_of i0 i1]at he;rw[idx_of k0 k1]at hd
 grind
def pTv {t:Zb} (ht:TIn t):SB (Zlc t) (Tv t):=by
 unfold Zlc
 by_cases hb:1≤t.Devices.length∧t.Devices.length≤12∧t.Links.length≤24∧t.Edges.length≤12∧t.Pools.length≤8∧0≤t.Tolerate∧t.Tolerate≤2
 obtain⟨g1,g2,b2,b3,b4,b5,b6⟩:=hb;rw[show((t.Devices.length:Int)==0)=false from by grind,Wo gD,Wo om,Wo om,Wo gD,Wo gD,Wo gD]
 refine((Zaj3 t ht.d).seq λ_=>(Zaha t ht.k).seq λ_=>(Zaik t ht).seq λ_=>(Zaij t ht).sb).iff ?_
 constructor;rintro⟨h1,h2,h3,h4⟩;exact⟨g1,g2,b2,b3,b4,b5,b6,h1,h2,λi a b=>(h3 i a b).1,Zacr.1 λi a b=>(h3 i a b).2,h4⟩;intro h;exact⟨h.dv,h.lk,λi a b=>⟨h.eg i a b,Zacr.2 h.ov i a b⟩,h.pl⟩
 have hn:¬Tv t:=λh=>hb ⟨h.d0,h.d1,h.k1,h.e1,h.p1,h.t0,h.t1⟩
 refine⟨false,?_,gD⟩
 grind
structure Tc (t:Zb):Prop where
 v:Tv t
 c:∀ e∈t.Edges,e.Planned=false
def rTc {t:Zb} (ht:TIn t):SB (Zaz t) (Tc t):=by
 unfold Zaz;obtain⟨r,e,hr⟩:=rTv ht;rw[e];cases r;exact⟨false,sM,by simp;intro h;have:=hr.2 h.v;grind⟩;have v:=hr.1 rfl;have:=v.e1;rw[Fix_eq om]
 refine⟨_,rfl,?_⟩
 rw[Wct,Wt];constructor;intro h
 have h:(t.Edges.filter λe=>!e.Planned).length=t.Edges.length:=om
 rw[Wce]at h;exact⟨v,λe he=>gD⟩;intro h
 have:(t.Edges.filter λe=>!e.Planned).length=t.Edges.length:=Wce.2 λe he=>by simp[h.c e he]
 omega
def pTc {t:Zb} (ht:TIn t):SB (Zmc t) (Tc t):=by
 unfold Zmc;obtain⟨r,e,hr⟩:=pTv ht;rw[e];simp only[Wc];cases r;exact⟨false,sM,by simp;intro h;have:=hr.2 h.v;grind⟩
 have h:=idxF (L:=Zba t.Edges) t.Edges (λe=>e.Planned) ht.e (λn i hi=>by rw[Zba,if_pos gD,Zaq hi,wsucc (by have:=ht.e;omega)];rfl) λn=>by rw[Zba,if_neg sM]
 refine⟨_,congrArg (λx=>((x.bind λr1=>some (decide (r1≥0))).bind λr5=>some (!r5)).bind λv7=>some v7) h,?_⟩
 rw[nI_any];constructor;intro h
 have h:t.Edges.any (λe=>e.Planned)=false:=gD
 rw[Wc8]at h;exact⟨hr.1 rfl,λe he=>gD⟩;intro h;rw[Wes,Wc8];intro e he;simp[h.c e he]
def As (l:List Int) (m:Int):Prop:=∀ i:Int,0≤i→i<l.length→∀ x,idx l i=some x→0≤x∧x<m∧(0<i→∀ y,idx l (i-1)=some y→y<x)
def rAs (l:List Int) (m:Int) (hl:l.length≤1000000000000):SB (Zdo l m) (As l m):=by
 refine Wf0 (LKp om om (λn i i0 i1=>?_) λn=>?_)
 rw[Zcc,if_pos (Wf i1),wi (i+1) om om,wi (i-1) om om,idx_of i0 i1]
 by_cases hp:0<i
 rw[idx_of om om,Wf (show i>0 from hp)];simp only[if_true,Wc,ifor rfl]
 refine Wa3 ?_
 simp;omega;rw[Wo (show ¬i>0 from hp)];simp only[Wy,if_false,Wc,ifor rfl]
 refine Wa3 ?_
 simp;omega;rw[Zcc,if_neg sM]
def pAs (l:List Int) (m:Int) (hl:l.length≤1000000000000):SB (Zpr l m) (As l m):=by
 refine Wf0 (LKp om om (λn i i0 i1=>?_) λn=>?_)
 rw[Zmf,if_pos (Wf i1),wi (i+1) om om,wi (i-1) om om,idx_of i0 i1]
 by_cases hp:0<i
 rw[idx_of om om,Wf (show i>0 from hp)];simp only[if_true,Wc,ifor rfl]
 refine Wa3 ?_
 simp;omega;rw[Wo (show ¬i>0 from hp)];simp only[Wy,if_false,Wc,ifor rfl]
 refine Wa3 ?_
 simp;omega;rw[Zmf,if_neg sM]
structure Fv (t:Zb) (f:Zp):Prop where
 v:Tv t
 l:As f.Links t.Links.length
 d:As f.Devices t.Devices.length
def and3 {A B C:Option Bool} {P Q R:Prop} (ha:SB A P) (hb:SB B Q) (hc:SB C R):SB (A.bind λr1=>(some r1).bind λb3=>(if b3=true then B.bind λr5=>some r5 else some false).bind λv7=>(some v7).bind λb9=>(if b9=true then C.bind λr11=>some r11 else some false).bind λv13=>some v13) (P∧Q∧R):=by
 obtain⟨a,e1,h1⟩:=ha;obtain⟨b,e2,h2⟩:=hb;obtain⟨c,e3,h3⟩:=hc
 refine⟨a&&(b&&c),gD,?_⟩
 grind
def rFv {t:Zb} (ht:TIn t) {f:Zp} (hl:f.Links.length≤1000000000000) (hd:f.Devices.length≤1000000000000):SB (Zbj t f) (Fv t f):=(and3 (rTv ht) (rAs _ _ hl) (rAs _ _ hd)).iff ⟨λh=>⟨h.1,h.2.1,h.2.2⟩,λh=>⟨h.v,h.l,h.d⟩⟩
def pFv {t:Zb} (ht:TIn t) {f:Zp} (hl:f.Links.length≤1000000000000) (hd:f.Devices.length≤1000000000000):SB (Znm t f) (Fv t f):=(and3 (pTv ht) (pAs _ _ hl) (pAs _ _ hd)).iff ⟨λh=>⟨h.1,h.2.1,h.2.2⟩,λh=>⟨h.v,h.l,h.d⟩⟩
structure PIn (p:Zw):Prop where
 i:p.Ingress.length≤1000000000000
 e:p.Egress.length≤1000000000000
 m:p.Moves.length≤1000000000000
 h:p.Hides.length≤1000000000000
 s:p.Steers.length≤1000000000000
 ha:∀ h∈p.Hides,Zbd h.Addr
def Ck.sq2 {a:Option Yb} {P:Prop} {b:Bool} (h:Ck a P):SB (a.bind λo=>match o with|.inl ()=>some b|.inr r=>some r) (P∧b=true):=h.seq λ_=>⟨b,rfl,Wcl⟩
def Rv (l:List Zal):Prop:=(∀ i:Int,0≤i→i<l.length→∀ r,idx l i=some r→vB r.Match=true)∧decide ((l.length:Int)≤4096)=true
def rRv {l:List Zal} (hl:l.length≤1000000000000):SB (Zgt l) (Rv l):=by
 refine Ck.sq2 (LKp om om (λn i i0 i1=>?_) λn=>?_)
 rw[Zfz,if_pos (Wf i1),wi (i+1) om om,idx_of i0 i1];simp only[Zg9]
 refine Wa3 ?_
 simp;rw[Zfz,if_neg sM]
def pRv {l:List Zal} (hl:l.length≤1000000000000):SB (Zk2 l) (Rv l):=by
 refine Ck.sq2 (LKp om om (λn i i0 i1=>?_) λn=>?_)
 rw[Zoe,if_pos (Wf i1),wi (i+1) om om,idx_of i0 i1];simp only[Zp2]
 refine Wa3 ?_
 simp;rw[Zoe,if_neg sM]
def hdB (h:Zad):Bool:=vB h.Match&&(decide (h.Ports.Lo≤h.Ports.Hi)&&decide (h.Ports.Hi≤65535))
def Hv (l:List Zad):Prop:=(∀ i:Int,0≤i→i<l.length→∀ r,idx l i=some r→hdB r=true)∧decide ((l.length:Int)≤256)=true
def rHv {l:List Zad} (hl:l.length≤1000000000000):SB (Zgv l) (Hv l):=by
 refine Ck.sq2 (LKp om om (λn i i0 i1=>?_) λn=>?_)
 rw[Zdi,if_pos (Wf i1),wi (i+1) om om,idx_of i0 i1];unfold Zl8;simp only[Zg9]
 refine Wa3 ?_
 simp  [Wn,forall_eq',hdB];cases vB (l[i.toNat]'om).Match<;>simp;omega;rw[Zdi,if_neg sM]
def pHv {l:List Zad} (hl:l.length≤1000000000000):SB (Zkn l) (Hv l):=by
 have ht:Z2u 3=some 65535:=kR
 refine Ck.sq2 (LKp om om (λn i i0 i1=>?_) λn=>?_)
 rw[Zhs,if_pos (Wf i1),wi (i+1) om om,idx_of i0 i1];unfold Zqc;simp only[Wc,Zp2,ht,ifand rfl]
 refine Wa3 ?_
 simp only[Wn,forall_eq',hdB];cases vB (l[i.toNat]'om).Match<;>simp;omega;rw[Zhs,if_neg sM]
def sgB (m:Z9):Bool:=!(m.From.x2.Lo !=m.From.x2.Hi||(m.From.x2.Lo !=6&&m.From.x2.Lo !=17))&&(Zbe m.From.x0 m.To.x0&&(Zbe m.From.x2 m.To.x2&&Zbe m.From.x3 m.To.x3))
def otB (t:Zb) (r:Za):Bool:=t.Edges.any λe=>decide ((ofR e.Prefix).1.Lo≤r.Hi)&&decide (r.Lo≤(ofR e.Prefix).1.Hi)
def rsg_eq (m:Z9):Zjz m=some (sgB m):=by
 unfold Zjz sgB;simp
 grind
def Zahd {t:Zb} (ht:TIn t) {i:Int} (i0:0≤i) (i1:i<t.Edges.length):Zbi t i i=some {{full with x0:=(ofR (t.Edges[i.toNat]'om).Prefix).1}with x1:=(ofR (t.Edges[i.toNat]'om).Prefix).1}:=by
 unfold Zbi;rw[idx_of i0 i1];simp;rw[Z81 (ht.ea _ (Wv _))];rfl
def Zaj4 {t:Zb} (ht:TIn t) (r:Za):Ziq t r=some (!otB t r):=by
 have hl:=ht.e
 have c:Ck (Zdc t r fuel 0) (∀ i:Int,0≤i→i<t.Edges.length→∀ e,idx t.Edges i=some e→(decide ((ofR e.Prefix).1.Lo≤r.Hi)&&decide (r.Lo≤(ofR e.Prefix).1.Hi))=false):=by
  refine LKp om om (λn i i0 i1=>?_) λn=>?_
  rw[Zdc,if_pos (Wf i1),wi (i+1) om om,Zahd ht i0 i1,idx_of i0 i1]
  refine Wa3 ?_
  simp only[Wn,forall_eq'];rw[Bool.not_eq_false];rw[Zdc,if_neg sM]
 have s:SB (Ziq t r) (otB t r=false):=by
  refine c.sb.iff ?_
  unfold otB;rw[Wc8];constructor;intro h e he;obtain⟨k,hk,rfl⟩:=Wax he;have:=h k om om _ (Zaq hk)
  simpa using this
  intro h i i0 i1 e he;have:=h e (Zr2 he)
  grind
 obtain⟨b,e,hb⟩:=s
 grind
def pmv_eq {t:Zb} (ht:TIn t) (m:Z9):Zmd t m=some (sgB m&&!otB t m.From.x1):=by
 have hl:=ht.e;unfold Zmd sgB;simp
 have c:Zb7 t.Edges m.From=some (otB t m.From.x1):=(congrArg (λx=>x.bind λr1=>some (decide (r1≥0))) (idxF (L:=Za9 t.Edges m.From) t.Edges (λe=>decide ((ofR e.Prefix).1.Lo≤m.From.x1.Hi)&&decide (m.From.x1.Lo≤(ofR e.Prefix).1.Hi)) hl (λn i hi=>by
   rw[Za9,if_pos gD,Zaq hi,wsucc om];unfold Zoz
   simp  [Wc,pOf_eq (ht.ea _ (Wv hi))]) λn=>by rw[Za9,if_neg sM])).trans (congrArg some (nI_any _ _))
 grind
def Mo (t:Zb) (l:List Z9):Prop:=∀ i:Int,0≤i→i<l.length→(∀ m,idx l i=some m→(sgB m&&!otB t m.From.x1)=true)∧∀ m,idx l i=some m→∀ k:Int,0≤k→k<i→∀ o,idx l k=some o→(xB m.To o.To).2=false
def pMo {t:Zb} (ht:TIn t) {l:List Z9} (hl:l.length≤1000000000000):Ck (Zez t l fuel 0) (Mo t l):=by
 refine LKp om om (λn i i0 i1=>?_) λn=>?_
 rw[Zez,if_pos (Wf i1),wi (i+1) om om,idx_of i0 i1];simp only[Wc];rw[pmv_eq ht];simp only[Wc];rw[if_pos (show 0≤(0:Int)∧0≤i∧i≤l.length by omega)];generalize l[i.toNat]'om=m;simp only[Wn,forall_eq']
 refine Stp.two (P:=∀ k ,0≤k→k<i→∀ o,idx l k=some o→(xB m.To o.To).2=false) ?_ λ_=>?_
 cases(sgB m&&!otB t m.From.x1)<;>simp
 have e:(l.take i.toNat).length=i:=gD
 refine LKp i0 om (λn k k0 k1=>?_) λn=>?_
 rw[Zhr,Zv5,e,if_pos (Wf k1),wi (k+1) om om,idx_of k0 om,idx_of k0 om];simp only[Z3m]
 refine Wa3 ?_
 simp;rw[Zhr,Zv5,e,if_neg sM];rw[Zez,if_neg sM]
def rMo {t:Zb} (ht:TIn t) {p:Zw} (hl:p.Moves.length≤1000000000000):Ck (Zcs t p fuel 0) (Mo t p.Moves):=by
 refine LKp om om (λn i i0 i1=>?_) λn=>?_
 rw[Zcs,if_pos (Wf i1),wi (i+1) om om,idx_of i0 i1];simp only[Wc];rw[rsg_eq,Zaj4 ht];simp only[Wc,ifor rfl];generalize hm:p.Moves[i.toNat]'om=m;simp only[Wn,forall_eq']
 refine Stp.two (P:=∀ k ,0≤k→k<i→∀ o,idx p.Moves k=some o→(xB m.To o.To).2=false) ?_ λ_=>?_
 cases sgB m<;>cases otB t m.From.x1<;>simp
 refine LKp i0 om (λn k k0 k1=>?_) λn=>?_
 rw[Zhq,if_pos (Wf k1),wi (k+1) om om,idx_of i0 i1,idx_of k0 om];simp only[Z1k,hm]
 refine Wa3 ?_
 simp;rw[Zhq,if_neg sM];rw[Zcs,if_neg sM]
def atB (a:Int) (e:Z2):Bool:=!e.Planned&&pcB e.Prefix a
def rAt_eq {t:Zb} (ht:TIn t) (a:Int):Zfk t a=some (nI (atB a) t.Edges):=by
 have hl:=ht.e
 exact idxF t.Edges _ hl (λn i hi=>by
  rw[Zek,if_pos gD,Zaq hi,wsucc om];simp only[Wc,Z30 (ht.ea _ (Wv hi)),ifand rfl]
  rfl) λn=>by rw[Zek,if_neg sM]
def pAt_eq {t:Zb} (ht:TIn t) {a:Int} (ha:Zbd a):Zvj t a=some (nI (atB a) t.Edges):=by
 have hl:=ht.e
 exact congrArg (λx=>x.bind λr1=>some r1) (idxF (L:=Zbk t.Edges a) t.Edges (atB a) hl (λn i hi=>by
  rw[Zbk,if_pos gD,Zaq hi,wsucc om];unfold Ztw;simp only[Wc,Z31 (ht.ea _ (Wv hi)) ha,ifand rfl]
  rfl) λn=>by rw[Zbk,if_neg sM])
def Ha (t:Zb) (l:List Zad):Prop:=∀ i:Int,0≤i→i<l.length→∀ h,idx l i=some h→nI (atB h.Addr) t.Edges<0
def pHa {t:Zb} (ht:TIn t) {p:Zw} (hp:PIn p):Ck (Zfi t p fuel 0) (Ha t p.Hides):=by
 have hl:=hp.h
 refine LKp om om (λn i i0 i1=>?_) λn=>?_
 rw[Zfi,if_pos (Wf i1),wi (i+1) om om,idx_of i0 i1];simp only[Wc];rw[pAt_eq ht (hp.ha _ (Wv _))]
 refine Wa3 ?_
 simp;rw[Zfi,if_neg sM]
def rHa {t:Zb} (ht:TIn t) {p:Zw} (hp:PIn p):Ck (Zct t p fuel 0) (Ha t p.Hides):=by
 have hl:=hp.h
 refine LKp om om (λn i i0 i1=>?_) λn=>?_
 rw[Zct,if_pos (Wf i1),wi (i+1) om om,idx_of i0 i1];simp only[Wc];rw[rAt_eq ht];simp only[Wc]
 refine Wa3 ?_
 simp;rw[Zct,if_neg sM]
def Str6 (l:List Zak):Prop:=∀ i:Int,0≤i→i<l.length→∀ s,idx l i=some s→(vB s.Match&&vnB s.Class)=true
def rSt4 {p:Zw} (hp:PIn p):Ck (Zcu p fuel 0) (Str6 p.Steers):=by
 have hl:=hp.s
 refine LKp om om (λn i i0 i1=>?_) λn=>?_
 rw[Zcu,if_pos (Wf i1),wi (i+1) om om,idx_of i0 i1];simp only[Wc,Zg9,rvn_eq,ifor rfl]
 refine Wa3 ?_
 simp;cases vB (p.Steers[i.toNat]'om).Match<;>simp;rw[Zcu,if_neg sM]
def rSt2 {p:Zw} (hp:PIn p):Ck (Zh1 p fuel 0) (Str6 p.Steers):=by
 have hl:=hp.s
 refine LKp om om (λn i i0 i1=>?_) λn=>?_
 rw[Zh1,if_pos (Wf i1),wi (i+1) om om,idx_of i0 i1];simp only[Wc,Zg9,rvn_eq,ifor rfl]
 refine Wa3 ?_
 simp;cases vB (p.Steers[i.toNat]'om).Match<;>simp;rw[Zh1,if_neg sM]
def pSt1 {p:Zw} (hp:PIn p):Ck (Zf3 p fuel 0) (Str6 p.Steers):=by
 have hl:=hp.s
 refine LKp om om (λn i i0 i1=>?_) λn=>?_
 rw[Zf3,if_pos (Wf i1),wi (i+1) om om,idx_of i0 i1];simp only[Wc,Zp2,pvn_eq,ifor rfl]
 refine Wa3 ?_
 simp;cases vB (p.Steers[i.toNat]'om).Match<;>simp;rw[Zf3,if_neg sM]
def pStF {p:Zw} (hp:PIn p):SB ((Zb4 p.Steers).bind λr44=>some (!r44)) (Str6 p.Steers):=by
 have hl:=hp.s
 have h:=idxF (L:=Za3 p.Steers) p.Steers (λs=>!(vB s.Match&&vnB s.Class)) hl (λn i hi=>by
  rw[Za3,Zaq hi,wsucc om];unfold Zo0;simp  [Zp2,pvn_eq]
  grind) λn=>by rw[Za3,if_neg sM]
 refine⟨_,congrArg (λx=>(x.bind λr1=>some (decide (r1≥0))).bind λr44=>some (!r44)) h,?_⟩
 rw[nI_any,Wes,Wc8];constructor;intro h i i0 i1 s hs
 simpa using h s (Zr2 hs)
 intro h s hs;obtain⟨k,hk,rfl⟩:=Wax hs;have:=h k om om _ (Zaq hk)
 grind
structure Qv (p:Zw):Prop where
 i:Rv p.Ingress
 e:Rv p.Egress
 m:vL p.Moves=true
 h:Hv p.Hides
 sl:p.Steers.length≤4096
 s:Str6 p.Steers
structure Pv (t:Zb) (p:Zw):Prop where
 q:Qv p
 mo:Mo t p.Moves
 ha:Ha t p.Hides
def pre4 {A B C D:Option Bool} {P Q R S T:Prop} {n:Nat} {x:Option Bool} (ha:SB A P) (hb:SB B Q) (hc:SB C R) (hd:SB D S) (hx:n≤4096→P→Q→R→S→SB x T):SB (A.bind λr1=>(Option.some (!r1)).bind λb3=>(if b3=true then Option.some true else B.bind λr5=>Option.some (!r5)).bind λv7=>(Option.some v7).bind λb9=>(if b9=true then Option.some true else C.bind λr11=>Option.some (!r11)).bind λv13=>(Option.some v13).bind λb15=>(if b15=true then Option.some true else D.bind λr17=>Option.some (!r17)).bind λv19=>(Option.some v19).bind λb21=>if(b21||(decide ((n:Int)>4096)))=true then Option.some false else x) (P∧Q∧R∧S∧n≤4096∧T):=by
 obtain⟨a,e1,h1⟩:=ha;obtain⟨b,e2,h2⟩:=hb;obtain⟨c,e3,h3⟩:=hc;obtain⟨d,e4,h4⟩:=hd;rw[e1,e2,e3,e4]
 by_cases hn:n≤4096
 rw[Wo om];cases a;exact⟨false,rfl,gD⟩;cases b;exact⟨false,rfl,gD⟩;cases c;exact⟨false,rfl,gD⟩;cases d;exact⟨false,rfl,gD⟩;simp_all
 refine⟨false,?_,gD⟩
 rw[Wf om];cases a<;>cases b<;>cases c<;>cases d<;>rfl
def rPv {t:Zb} (ht:TIn t) {p:Zw} (hp:PIn p):SB (Zgw t p) (Pv t p):=by
 refine(pre4 (T:=Mo t p.Moves∧Ha t p.Hides∧Str6 p.Steers) (rRv hp.i) (rRv hp.e) (SB.of Z42 Wcl) (rHv hp.h) λ_ _ _ _ _=>(rMo ht hp.m).seq λ_=>(rHa ht hp).seq λ_=>(rSt4 hp).sb).iff ?_
 exact⟨λh=>⟨⟨h.1,h.2.1,h.2.2.1,h.2.2.2.1,h.2.2.2.2.1,h.2.2.2.2.2.2.2⟩,h.2.2.2.2.2.1,h.2.2.2.2.2.2.1⟩,λh=>⟨h.q.i,h.q.e,h.q.m,h.q.h,h.q.sl,h.mo,h.ha,h.q.s⟩⟩
def pPv {t:Zb} (ht:TIn t) {p:Zw} (hp:PIn p):SB (Zqd t p) (Pv t p):=by
 have hm:SB (Zpp t p.Moves) (Mo t p.Moves∧vL p.Moves=true):=(pMo ht hp.m).seq λ_=>SB.of (b:=vL p.Moves) (by rw[Z7i];rfl) Wcl
 refine(pre4 (T:=Ha t p.Hides∧Str6 p.Steers) (pRv hp.i) (pRv hp.e) hm (pHv hp.h) λ_ _ _ _ _=>(pHa ht hp).seq λ_=>pStF hp).iff ?_
 exact⟨λh=>⟨⟨h.1,h.2.1,h.2.2.1.2,h.2.2.2.1,h.2.2.2.2.1,h.2.2.2.2.2.2⟩,h.2.2.1.1,h.2.2.2.2.2.1⟩,λh=>⟨h.q.i,h.q.e,⟨h.mo,h.q.m⟩,h.q.h,h.q.sl,h.ha,h.q.s⟩⟩
def pQv {p:Zw} (hp:PIn p):SB (Znp p) (Qv p):=by
 refine(pre4 (T:=Str6 p.Steers) (pRv hp.i) (pRv hp.e) (SB.of Z7i Wcl) (pHv hp.h) λ_ _ _ _ _=>(pSt1 hp).sb).iff ?_
 exact⟨λh=>⟨h.1,h.2.1,h.2.2.1,h.2.2.2.1,h.2.2.2.2.1,h.2.2.2.2.2⟩,λh=>⟨h.i,h.e,h.m,h.h,h.sl,h.s⟩⟩
def edl (t:Zb) (d:Int):∀ n w i,Zdr t d n w i=Zc8 t d n w i
 |0,_,_=>rfl
 |n+1,w,i=>by
  rw[Zdr,Zc8];unfold Zre;simp  [Wc,edl t d n]
def elL (t:Zb) (d:Int):List Int:=(Zc5 t d).getD []
def Z98 {t:Zb} (h:t.Edges.length≤1000000) (d:Int):Zc5 t d=some (elL t d):=by
 have hlim:=lim_eq;have hf:=Z6
 have L:∀ n w (i:Int),0≤i→i≤t.Edges.length→w.length≤i→(t.Edges.length-i).toNat<n→Ok (Zc8 t d n w i) λ_=>True:=by
  intro n
  induction n with
  |zero=>omega
  |succ n ih=>
   intro w i h0 h1 hw hn;unfold Zc8;rw[wi (i+1) om om]
   refine Wx (λhc=>Wa (p:=λv=>v.length≤i+1) ?_ λv hv=>ih _ _ om om hv om) λ_=>Wb trivial
   exact Ix h0 hc λx _=>Wi (λ_=>Ap gD (Wb gD)) λ_=>Wb om
 obtain⟨r,e,_⟩:=L fuel [] 0 om om sM om
 have:Zc5 t d=some r:=by unfold Zc5;grind
 unfold elL
 grind
def Zahe {t:Zb} (h:t.Edges.length≤1000000) (d:Int):Zpq t d=some (elL t d):=by
 have e:=Z98 h d
 unfold Zc5 at e
 unfold Zpq Zhb;rw[edl,e];rfl
def Zahf (a b:List Int) (ha:a.length≤1000000000000):SB (Zig a b) (a=b):=by
 unfold Zig
 by_cases h:a.length=b.length
 rw[if_neg gD]
 refine(Wf0 (P:=∀ i:Int,0≤i→i<a.length→∀ x,idx a i=some x→∀ y,idx b i=some y→x=y) (LKp om om (λn i i0 i1=>?_) λn=>?_)).iff ?_
 rw[Zge,if_pos (Wf i1),wi (i+1) om om,idx_of i0 i1,idx_of i0 om]
 refine Wa3 ?_
 simp;rw[Zge,if_neg sM];constructor;intro g
 refine Wgr h λi h1 h2=>?_
 exact g i om om _ (Zaq h1) _ (Zaq h2);rintro rfl i _ _ x hx y hy;rw[hx]at hy;exact Waw hy;rw[if_pos gD];exact⟨false,rfl,gD⟩
structure CIn (c:Zo):Prop where
 l:c.Ports.length≤2000000000
 p:∀ p∈c.Ports,PIn p
def Cd (t:Zb) (d:Int) (c:Zo):Prop:=(∀ p∈c.Ports,Pv t p)∧c.Ports.map (·.Edge)=elL t d
def pCd2 {t:Zb} (ht:TIn t) {c:Zo} (hc:CIn c):(Zeo t c fuel [] 0=some (.inl (c.Ports.map (·.Edge)))∧∀ p∈c.Ports,Pv t p)∨(Zeo t c fuel [] 0=some (.inr false)∧¬∀ p∈c.Ports,Pv t p):=by
 have hlim:=lim_eq;have hf:=Z6;have hl:=hc.l
 have key:∀ n k,k≤c.Ports.length→c.Ports.length-k<n→(∀ p∈c.Ports.take k,Pv t p)→(Zeo t c n ((c.Ports.take k).map (·.Edge)) k=some (.inl (c.Ports.map (·.Edge)))∧∀ p∈c.Ports,Pv t p)∨(Zeo t c n ((c.Ports.take k).map (·.Edge)) k=some (.inr false)∧¬∀ p∈c.Ports,Pv t p):=by
  intro n
  induction n with
  |zero=>grind
  |succ n ih=>
   intro k hk hn hp;rw[Zeo]
   by_cases h:k<c.Ports.length
   rw[if_pos gD,Zaq h,wi (k+1) om om];simp only[Wc];rw[if_pos gD];obtain⟨r,e,hr⟩:=pPv ht (hc.p _ (Wv h));rw[e];simp only[Wc];cases r
   grind
   have e2:(c.Ports.take k).map (·.Edge)++[(c.Ports[k]).Edge]=(c.Ports.take (k+1)).map (·.Edge):=by
    rw[Wbm,Wr h,Wat];rfl
   rw[e2]
   exact ih (k+1) om om λp hq=>by
    rw[Wbm]at hq
    grind
   grind
 exact key fuel 0 om om (λp h=>(by cases h))
structure Cv (t:Zb) (l:List Zo):Prop where
 tc:Tc t
 len:l.length=t.Devices.length
 c:∀ i:Int,0≤i→i<l.length→∀ c,idx l i=some c→Cd t i c
def pCv {t:Zb} (ht:TIn t) {l:List Zo} (hl:∀ c∈l,CIn c):SB (Zqr t l) (Cv t l):=by
 unfold Zqr;obtain⟨r,e,hr⟩:=pTc ht;rw[e];simp  [Wc];cases r;exact⟨false,sM,by simp;intro h;have:=hr.2 h.tc;grind⟩;have tc:=hr.1 rfl;have e1:=tc.v.e1;have d1:=tc.v.d1
 by_cases hn:l.length=t.Devices.length
 rw[if_neg gD]
 refine(Wf0 (P:=∀ i:Int,0≤i→i<l.length→∀ c,idx l i=some c→Cd t i c) (LKp om om (λn i i0 i1=>?_) λn=>?_)).iff ⟨λh=>⟨tc,hn,h⟩,λh=>h.c⟩
 rw[Znl,if_pos (Wf i1),wi (i+1) om om,idx_of i0 i1];have hc:=hl _ (Wv (show i.toNat<l.length by omega))
 generalize l[i.toNat]'om=c at hc
 simp only[Wc,Wn,forall_eq'];rw[Zahe om]
 rcases pCd2 ht hc with⟨e,q⟩|⟨e,q⟩
 rw[e];simp only[Wc];obtain⟨r,e,hr⟩:=Zahf (c.Ports.map (·.Edge)) (elL t i) (by rw[Wt];have:=hc.l;omega);rw[e];simp only[Wc]
 refine Wa3 ?_
 unfold Cd;rw[←hr];cases r;simp
 simpa using q
 rw[e];exact⟨λh=>absurd h.1 q,λ_=>rfl⟩;rw[Znl,if_neg sM];rw[if_pos gD];exact⟨false,rfl,by simp;intro h;exact hn h.len⟩
def rCv {t:Zb} (ht:TIn t) {l:List Zo} (hl:∀ c∈l,CIn c):SB (Zfr t l) (Cv t l):=by
 unfold Zfr;obtain⟨r,e,hr⟩:=rTc ht;rw[e];simp only[Wc];cases r;exact⟨false,sM,by simp;intro h;have:=hr.2 h.tc;cases this⟩;have tc:=hr.1 rfl;have e1:=tc.v.e1;have d1:=tc.v.d1
 by_cases hn:l.length=t.Devices.length
 rw[if_neg (by simp[hn])]
 refine(Wf0 (P:=∀ i:Int,0≤i→i<l.length→∀ c,idx l i=some c→Cd t i c) (LKp om om (λn i i0 i1=>?_) λn=>?_)).iff ⟨λh=>⟨tc,hn,h⟩,λh=>h.c⟩
 rw[Zfc,if_pos (Wf i1),wi (i+1) om om,Z98 om,idx_of i0 i1];have hc:=hl _ (Wv (show i.toNat<l.length by omega));have hci:idx l i=some (l[i.toNat]'om):=idx_of i0 i1
 generalize l[i.toNat]'om=c at hc hci
 simp only[Wc,Wn,forall_eq'];have hcl:=hc.l
 by_cases hne:c.Ports.length=(elL t i).length
 rw[if_neg (by simp[hne])]
 have k:Ck (Zd6 t l i (elL t i) fuel 0) (∀ k:Int,0≤k→k<(elL t i).length→∀ p,idx c.Ports k=some p→(idx (elL t i) k=some p.Edge∧Pv t p)):=by
  refine LKp om om (λn k k0 k1=>?_) λn=>?_
  rw[Zd6,if_pos (Wf k1),wi (k+1) om om,hci,idx_of k0 k1];simp only[Wc];rw[idx_of k0 om];have hp:=hc.p _ (Wv (show k.toNat<c.Ports.length by omega))
  generalize c.Ports[k.toNat]'om=p at hp
  simp only[Wc,Wn,forall_eq'];obtain⟨r,e,hr⟩:=rPv ht hp;rw[e];simp only[Wc,ifor rfl]
  refine Wa3 ?_
  rw[←hr];cases r<;>simp;exact⟨λh g=>h g.symm,λh g=>h g.symm⟩;rw[Zd6,if_neg sM]
 have kk:(∀ k:Int,0≤k→k<(elL t i).length→∀ p,idx c.Ports k=some p→(idx (elL t i) k=some p.Edge∧Pv t p))↔Cd t i c:=by
  unfold Cd;constructor;intro h
  refine⟨λp hp=>?_,Wgr (by rw[Wt];exact hne) λk h1 h2=>?_⟩
  obtain⟨k,hk,rfl⟩:=Wax hp;exact(h (k:Int) om om _ (Zaq hk)).2
  have h3:k<c.Ports.length:=by rw[Wt]at h1;exact h1
  have:=(h (k:Int) om om _ (Zaq h3)).1;rw[Zaq h2]at this;rw[List.getElem_map];exact(Waw this).symm;rintro⟨h1,h2⟩ k k0 k1 p hp
  refine⟨?_,h1 p (Zr2 hp)⟩
  rw[idx_of k0 om]at hp;rw[idx_of k0 k1]
  grind
 rcases k with⟨e,q⟩|⟨e,q⟩
 rw[e];exact⟨λ_=>rfl,λh=>absurd (kk.1 q) h⟩;rw[e];exact⟨λh=>absurd (kk.2 h) q,λ_=>rfl⟩;rw[if_pos sO]
 refine⟨λh=>?_,λ_=>rfl⟩
 have:=congrArg List.length h.2;rw[Wt]at this;exact absurd this hne;rw[Zfc,if_neg sM];rw[if_pos sO];exact⟨false,rfl,by simp;intro h;exact hn h.len⟩
def Stp.seq {a x b:Option Yb} {P Q:Prop} (h:Ck a P) (k:P→Stp x b Q):Stp (a.bind λo=>match o with|.inl ()=>x|.inr r=>some (.inr r)) b (P∧Q):=by
 rcases h with⟨e,q⟩|⟨e,q⟩
 rw[e];exact⟨λg=>(k q).1 g.2,λg=>(k q).2 λw=>g ⟨q,w⟩⟩;rw[e];exact⟨λg=>absurd g.1 q,λ_=>rfl⟩
def Stp.iteN {x b:Option Yb} {c:Bool} {g Q:Prop} (h:c=true↔¬g) (k:g→Stp x b Q):Stp (if c=true then some (.inr false)else x) b (g∧Q):=by
 by_cases hg:g
 rw[if_neg λhc=>h.1 hc hg];exact⟨λw=>(k hg).1 w.2,λw=>(k hg).2 λq=>w ⟨hg,q⟩⟩;rw[if_pos (h.2 hg)];exact⟨λw=>absurd w.1 hg,λ_=>rfl⟩
def Wgt:=@Stp.iteN
def Stp.iff {a b:Option Yb} {P Q:Prop} (h:Stp a b P) (k:P↔Q):Stp a b Q:=⟨λg=>h.1 (k.2 g),λg=>h.2 λw=>g (k.1 w)⟩
structure Cg (c:Zo):Prop where
 e:∀ i:Int,0≤i→i<c.Ports.length→∀ p,idx c.Ports i=some p→0≤p.Edge∧p.Edge<12∧(0<i→∀ q,idx c.Ports (i-1)=some q→q.Edge<p.Edge)
 q:∀ i:Int,0≤i→i<c.Ports.length→∀ p,idx c.Ports i=some p→Qv p
def lst (c:Zo) (i:Int):Int:=match idx c.Ports (i-1)with|some p=>p.Edge|none=>-1
def pCg {c:Zo} (hc:CIn c):SB (Zrs c) (Cg c):=by
 unfold Zrs;have hl:=hc.l;have hf:=Z6
 have step:∀ n (i:Int),0≤i→i<c.Ports.length→∀ p,idx c.Ports i=some p→Ze2 c (n+1) (lst c i) i=if(decide (p.Edge≤lst c i)||decide (p.Edge≥12)||!(((Znp p).getD false)))=true then some (.inr false)else Ze2 c n (lst c (i+1)) (i+1):=by
  intro n i i0 i1 p hp;rw[Ze2,if_pos (Wf i1),wi (i+1) om om,hp];obtain⟨r,e,_⟩:=pQv (hc.p _ (Zr2 hp))
  have:lst c (i+1)=p.Edge:=by unfold lst;rw[show i+1-1=i by omega,hp]
  grind
 have h:=LKp (L:=λn i=>Ze2 c n (lst c i) i) (m:=c.Ports.length) (good:=λi=>∀ p,idx c.Ports i=some p→lst c i<p.Edge∧p.Edge<12∧Qv p) om om (λn i i0 i1=>by
  have hp:=idx_of i0 i1;have hq:=hc.p _ (Wv (show i.toNat<c.Ports.length by omega))
  generalize c.Ports[i.toNat]'om=p at hp hq
  simp only[step n i i0 i1 p hp]
  refine Wa3 ?_
  obtain⟨r,e,hr⟩:=pQv hq
  grind) λn=>by rw[Ze2,if_neg sM]
 have h0:lst c 0=-1:=by unfold lst;rfl
 rw[←h0]
 refine(Wf0 h).iff ⟨λg=>?_,λg i i0 i1 p hp=>?_⟩
 have lo:∀(k:Nat) (i:Int),i=k→i<c.Ports.length→∀ p,idx c.Ports i=some p→0≤p.Edge:=by
  intro k
  induction k with
  |zero=>
   intro i hi i1 p hp;have:=(g i om i1 p hp).1
   grind
  |succ k ih=>
   intro i hi i1 p hp;have h1:=(g i om i1 p hp).1;have h2:=idx_of (l:=c.Ports) (i:=i-1) om om;have h3:=ih (i-1) om om _ h2
   unfold lst at h1
   rw[h2]at h1;simp only[]at h1;omega
 refine⟨λi i0 i1 p hp=>⟨lo i.toNat i om i1 p hp,(g i i0 i1 p hp).2.1,λ_ q hq=>?_⟩,λi i0 i1 p hp=>(g i i0 i1 p hp).2.2⟩
 have h1:=(g i i0 i1 p hp).1
 unfold lst at h1
 rw[hq]at h1;exact h1;have h1:=g.e i i0 i1 p hp
 refine⟨?_,h1.2.1,g.q i i0 i1 p hp⟩
 unfold lst
 cases hq:idx c.Ports (i-1)with
 |none=>simp only[];omega
 |some q=>
  simp only[]
  have:0<i:=by
   apply Wah;intro hn;rw[show i=0 by omega]at hq;have:idx c.Ports (-1)=none:=rfl
   grind
  exact h1.2.2 this q hq
def pre4s {A B C D:Option Bool} {P Q R S T:Prop} {n:Nat} {x b:Option Yb} (ha:SB A P) (hb:SB B Q) (hc:SB C R) (hd:SB D S) (hx:n≤4096→Stp x b T):Stp (A.bind λr1=>(Option.some (!r1)).bind λb3=>(if b3=true then Option.some true else B.bind λr5=>Option.some (!r5)).bind λv7=>(Option.some v7).bind λb9=>(if b9=true then Option.some true else C.bind λr11=>Option.some (!r11)).bind λv13=>(Option.some v13).bind λb15=>(if b15=true then Option.some true else D.bind λr17=>Option.some (!r17)).bind λv19=>(Option.some v19).bind λb21=>if(b21||(decide ((n:Int)>4096)))=true then Option.some (.inr false)else x) b (P∧Q∧R∧S∧n≤4096∧T):=by
 obtain⟨a,e1,h1⟩:=ha;obtain⟨c,e2,h2⟩:=hb;obtain⟨d,e3,h3⟩:=hc;obtain⟨e,e4,h4⟩:=hd;rw[e1,e2,e3,e4];simp only[Wc,ifor rfl]
 refine(Wgt (g:=P∧Q∧R∧S∧n≤4096) ?_ λg=>hx g.2.2.2.2).iff ⟨λh=>⟨h.1.1,h.1.2.1,h.1.2.2.1,h.1.2.2.2.1,h.1.2.2.2.2,h.2⟩,λh=>⟨⟨h.1,h.2.1,h.2.2.1,h.2.2.2.1,h.2.2.2.2.1⟩,h.2.2.2.2.2⟩⟩
 grind
def rCg {c:Zo} (hc:CIn c):SB (Zs4 c) (Cg c):=by
 have hl:=hc.l
 refine(Wf0 (P:=∀ i:Int,0≤i→i<c.Ports.length→(∀ p,idx c.Ports i=some p→0≤p.Edge∧p.Edge<12∧(0<i→∀ q,idx c.Ports (i-1)=some q→q.Edge<p.Edge))∧∀ p,idx c.Ports i=some p→Qv p) (LKp om om (λn i i0 i1=>?_) λn=>?_)).iff ⟨λh=>⟨λi a b=>(h i a b).1,λi a b=>(h i a b).2⟩,λh i a b=>⟨h.e i a b,h.q i a b⟩⟩
 rw[Zh2,if_pos (Wf i1),wi (i+1) om om,wi (i-1) om om,idx_of i0 i1];have hq:=hc.p _ (Wv (show i.toNat<c.Ports.length by omega))
 generalize c.Ports[i.toNat]'om=p at hq
 simp only[Wn,forall_eq']
 have tail:=pre4s (b:=Zh2 c n (i+1)) (T:=Str6 p.Steers) (n:=p.Steers.length) (rRv hq.i) (rRv hq.e) (SB.of (Z42 (l:=p.Moves)) Wcl) (rHv hq.h) λ_=>Wg5 (rSt2 hq)
 have fin:=tail.iff (Q:=Qv p) ⟨λh=>⟨h.1,h.2.1,h.2.2.1,h.2.2.2.1,h.2.2.2.2.1,h.2.2.2.2.2⟩,λh=>⟨h.i,h.e,h.m,h.h,h.sl,h.s⟩⟩
 by_cases hp:0<i
 rw[idx_of om om,Wf (show i>0 from hp)];simp only[if_true,Wc,ifor rfl]
 refine Wgt ?_ λ_=>fin
 simp;omega;rw[Wo (show ¬i>0 from hp)];simp only[Wy,if_false,Wc,ifor rfl]
 refine Wgt ?_ λ_=>fin
 simp;omega;rw[Zh2,if_neg sM]
def ltP (a b:Zn):Bool:=decide (a.Addr<b.Addr)||(a.Addr==b.Addr&&decide (a.Bits<b.Bits))
def Zaj5 (a b:Zn):Zjh a b=some (ltP a b):=by
 unfold Zjh ltP
 grind
def Or_eq (a b:Int):Ztx [a,b]=some (if a=0 then b else a):=by
 unfold Ztx;obtain⟨k,hk⟩:∃ k,fuel=k+3:=⟨fuel-3,by have:=Z6;omega⟩
 have s0:∀ k,Ze7 [a,b] (k+1) 0=if(a !=0)=true then some (.inr a)else Ze7 [a,b] k 1:=λk=>by
  rfl
 have s1:∀ k,Ze7 [a,b] (k+1) 1=if(b !=0)=true then some (.inr b)else Ze7 [a,b] k 2:=λk=>by
  rfl
 have s2:∀ k,Ze7 [a,b] (k+1) 2=some (.inl ()):=λk=>by
  rw[Ze7,if_neg sM]
 grind
def Zaj6 (a b:Int):Zko a b=some (if a<b then -1 else if a>b then 1 else 0):=by
 unfold Zko Znn
 grind
def Zaj7 (a b:Int):Zof a b=some (if a<b then -1 else if a>b then 1 else 0):=by
 unfold Zof Zqs
 grind
def Zaj8 (a b:Zn):∃ c,Zog a b=some c∧decide (c≥0)=!ltP a b:=by
 unfold Zog;rw[Zaj6,Zaj7];simp;rw[Or_eq]
 refine⟨_,rfl,?_⟩
 unfold ltP
 grind
def Rt (l:List Zg):Prop:=∀ i:Int,0≤i→i<l.length→∀ r,idx l i=some r→pvB r.Prefix=true∧(0<i→∀ q,idx l (i-1)=some q→ltP q.Prefix r.Prefix=true)
structure RtIn (l:List Zg):Prop where
 n:l.length≤1000000000000
 a:∀ r∈l,Zbd r.Prefix.Addr
def rRt {l:List Zg} (hl:RtIn l):SB (Zs3 l) (Rt l):=by
 have hn:=hl.n
 refine Wf0 (LKp om om (λn i i0 i1=>?_) λn=>?_)
 rw[Zmh,if_pos (Wf i1),wi (i+1) om om,wi (i-1) om om,idx_of i0 i1];have ha:=hl.a _ (Wv (show i.toNat<l.length by omega))
 generalize l[i.toNat]'om=x at ha
 simp only[Wc,Z0q ha]
 by_cases hp:0<i
 rw[idx_of gD om,Wf (show i>0 from hp)];simp only[if_true,Wc,Zaj5,ifor rfl]
 refine Wa3 ?_
 simp[hp];cases pvB x.Prefix<;>simp;rw[Wo (show ¬i>0 from hp)];simp only[Wy,if_false,Wc,ifor rfl]
 refine Wa3 ?_
 simp[hp];rw[Zmh,if_neg sM]
def pRt {l:List Zg} (hl:RtIn l):SB (Zty l) (Rt l):=by
 have hn:=hl.n
 refine Wf0 (LKp om om (λn i i0 i1=>?_) λn=>?_)
 rw[Zno,if_pos (Wf i1),wi (i+1) om om,wi (i-1) om om,idx_of i0 i1];have ha:=hl.a _ (Wv (show i.toNat<l.length by omega))
 generalize l[i.toNat]'om=x at ha
 simp only[Wc,Zv8 ha]
 by_cases hp:0<i
 rw[idx_of gD om,Wf (show i>0 from hp)];obtain⟨c,e,hc⟩:=Zaj8 (l[(i-1).toNat]'om).Prefix x.Prefix;simp only[if_true,Wc,e,hc,ifor rfl]
 refine Wa3 ?_
 simp[hp];cases pvB x.Prefix<;>simp;rw[Wo (show ¬i>0 from hp)];simp only[Wy,if_false,Wc,ifor rfl]
 refine Wa3 ?_
 simp[hp];rw[Zno,if_neg sM]
def ownB2 (t:Zb) (d i:Int):Bool:=match idx t.Links i with|some l=>l.A==d||l.B==d|none=>false
def Zn0 {α:Type} {l:List α} {i:Int} (h:¬(0≤i∧i<l.length)):idx l i=none:=by
 unfold idx
 grind
def pow_eq (t:Zb) (d i:Int):Zo1 t d i=some (ownB2 t d i):=by
 unfold Zo1 ownB2
 by_cases h0:0≤i
 by_cases h1:i<t.Links.length
 rw[Wf (show i≥0 from h0),Wf h1,idx_of h0 h1];simp  [Wc,Wdo,if_true,ifor rfl];rw[Wf (show i≥0 from h0),Wo h1,Zn0 (λh=>h1 h.2)];rfl;rw[Wo (show ¬i≥0 from h0),Zn0 (λh=>h0 h.1)];rfl
def Zahg {t:Zb} (ht:Tv t) (d i:Int):Zo2 t d i=some (ownB2 t d i):=by
 unfold Zo2 ownB2
 by_cases h0:0≤i
 by_cases h1:i<t.Links.length
 have hk:=ht.lk i h0 h1 _ (idx_of h0 h1);rw[Wf (show i≥0 from h0),Wf h1,idx_of h0 h1]
 generalize t.Links[i.toNat]'om=l at hk
 unfold Zpo
 unfold lkB at hk
 simp at hk
 simp
 by_cases a:d=l.A
 subst a;simp only[BEq.rfl,if_true,Wc,Bool.true_or];rw[Wf om]
 by_cases b:d=l.B
 subst b;simp only[a,if_false,BEq.rfl,if_true,Wc,Bool.or_true];rw[Wf om]
 have e1:¬l.A=d:=λh=>a h.symm
 have e2:¬l.B=d:=λh=>b h.symm
 simp[a,b,e1,e2];rw[Wf (show i≥0 from h0),Wo h1,Zn0 (λh=>h1 h.2)];rfl;rw[Wo (show ¬i≥0 from h0),Zn0 (λh=>h0 h.1)];rfl
def egO (t:Zb) (d i:Int):Bool:=match idx t.Edges i with|some e=>e.Device==d|none=>false
def eg_eq (t:Zb) (d i:Int):(if(decide (i≥0)&&decide (i<List.length t.Edges))=true then(idx t.Edges i).bind λx65=>some (x65.Device==d)else some false)=some (egO t d i):=by
 unfold egO
 by_cases h0:0≤i
 by_cases h1:i<t.Edges.length
 rw[Wf (show i≥0 from h0),Wf h1,idx_of h0 h1];simp;rw[Wf (show i≥0 from h0),Wo h1,Zn0 (λh=>h1 h.2)];rfl;rw[Wo (show ¬i≥0 from h0),Zn0 (λh=>h0 h.1)];rfl
def rtB (t:Zb) (d:Int) (r:Zg):Bool:=if r.Edge then egO t d r.Port else ownB2 t d r.Port
def lbB (t:Zb) (g:Bool) (d i x:Int):Bool:=x==-1||(!g&&!(i==d)&&ownB2 t d x)
def deB (f:Zp) (d:Int):Bool:=f.Devices.any λx=>x==d
structure Dn (t:Zb) (g:Bool) (d:Int) (l:List Zg) (b:List Int):Prop where
 v:Rt l
 n:l.length≤256
 z:g=true→l.length=0
 m:b.length=t.Devices.length
 r:∀ i:Int,0≤i→i<l.length→∀ x,idx l i=some x→rtB t d x=true
 b:∀ i:Int,0≤i→i<b.length→∀ x,idx b i=some x→lbB t g d i x=true
def has_eq (l:List Int) (x:Int) (hl:l.length≤1000000000000):Zk1 l x=some (l.any λy=>y==x):=anyF l _ hl (λn i hi=>by rw[Zg4,if_pos gD,Zaq hi,wsucc om];rfl) λn=>by rw[Zg4,if_neg sM]
def Z33 (l:List Int) (x:Int) (hl:l.length≤1000000000000):Zed l x=some (l.any λy=>y==x):=by
 refine(congrArg (λy=>y.bind λr1=>some (decide (r1≥0))) (idxF (L:=Zec l x) l (λy=>x==y) hl (λn i hi=>by rw[Zec,if_pos gD,Zaq hi,wsucc om];rfl) λn=>by rw[Zec,if_neg sM])).trans ?_
 show some (decide (nI (λy=>x==y) l≥0))=_;rw[nI_any]
 grind
def SB.and4 {x:Option Bool} {c:Bool} {g T:Prop} (h:c=true↔¬g) (k:g→SB x T):SB (if c=true then Option.some false else x) (g∧T):=by
 by_cases hg:g
 rw[if_neg λhc=>h.1 hc hg];exact(k hg).iff ⟨λw=>⟨hg,w⟩,λw=>w.2⟩;rw[if_pos (h.2 hg)];exact⟨false,rfl,gD⟩
def pDn {N:Z1} {d:Int} {l:List Zg} {b:List Int} (hr:idx N.Routes d=some l) (hb:idx N.Labels d=some b) (hl:RtIn l) (hf:N.Failure.Devices.length≤1000000000000) (hd:N.Topology.Devices.length≤12):SB (Zjk N d) (Dn N.Topology (deB N.Failure d) d l b):=by
 unfold Zjk;obtain⟨r,e,hv⟩:=pRt hl;rw[hr,hb,Z33 _ _ hf];simp only[Wc,e,ifor rfl];change SB _ (Dn N.Topology (N.Failure.Devices.any λy=>y==d) d l b);generalize (N.Failure.Devices.any λy=>y==d)=g
 refine(SB.and4 (g:=Rt l∧l.length≤256∧(g=true→l.length=0)∧b.length=N.Topology.Devices.length) (T:=(∀ i:Int,0≤i→i<l.length→∀ x,idx l i=some x→rtB N.Topology d x=true)∧∀ i:Int,0≤i→i<b.length→∀ x,idx b i=some x→lbB N.Topology g d i x=true) ?_ λq=>(Ck.seq (LKp om om (λn i i0 i1=>?_) λn=>?_) λ_=>Wf0 (LKp om om (λn i i0 i1=>?_) λn=>?_))).iff ⟨λh=>⟨h.1.1,h.1.2.1,h.1.2.2.1,h.1.2.2.2,h.2.1,h.2.2⟩,λh=>⟨⟨h.v,h.n,h.z,h.m⟩,h.r,h.b⟩⟩
 rw[←hv]
 by_cases h1:l.length≤256<;>by_cases h2:b.length=N.Topology.Devices.length<;>by_cases h3:l.length=0<;>cases r<;>cases g<;>simp[h3]<;>omega
 rw[Zgy,if_pos (Wf i1),wi (i+1) om om,idx_of i0 i1];generalize l[i.toNat]'om=x;simp only[Wn,forall_eq',Wc,eg_eq,pow_eq,ifor rfl,ifand rfl]
 refine Wa3 ?_
 unfold rtB;cases x.Edge<;>cases ownB2 N.Topology d x.Port<;>cases egO N.Topology d x.Port<;>simp;rw[Zgy,if_neg sM];rw[Zgz,if_pos (Wf i1),wi (i+1) om om,idx_of i0 i1];generalize b[i.toNat]'om=x;simp only[Wn,forall_eq',Wc,pow_eq,ifor rfl,ifand rfl]
 refine Wa3 ?_
 unfold lbB;cases hx:x==-1<;>cases g<;>cases hi:i==d<;>cases ownB2 N.Topology d x<;>simp[hx,bne];rw[Zgz,if_neg sM]
structure NIn (N:Z1):Prop where
 t:TIn N.Topology
 c:∀ c∈N.Configs,CIn c
 fl:N.Failure.Links.length≤1000000000000
 fd:N.Failure.Devices.length≤1000000000000
 r:∀ l∈N.Routes,RtIn l
structure Nv (N:Z1):Prop where
 c:Cv N.Topology N.Configs
 f:Fv N.Topology N.Failure
 r:N.Routes.length=N.Topology.Devices.length
 l:N.Labels.length=N.Topology.Devices.length
 d:∀ i:Int,0≤i→i<N.Topology.Devices.length→∀ l,idx N.Routes i=some l→∀ b,idx N.Labels i=some b→Dn N.Topology (deB N.Failure i) i l b
def nv0 {N:Z1} {A B x:Option Bool} {T:Prop} (ha:SB A (Cv N.Topology N.Configs)) (hb:SB B (Fv N.Topology N.Failure)) (hx:Cv N.Topology N.Configs→Fv N.Topology N.Failure→N.Routes.length=N.Topology.Devices.length→N.Labels.length=N.Topology.Devices.length→SB x T) :
  SB (A.bind λr1=>(some (!r1)).bind λb3=>(if b3=true then some true else B.bind λr5=>some (!r5)).bind λv7=>(some v7).bind λb9=>(some (b9||(List.length N.Routes !=(List.length N.Topology.Devices:Int)))).bind λb11=>if(b11||((List.length N.Labels:Int)!=List.length N.Topology.Devices))=true then some false else x) ((Cv N.Topology N.Configs∧Fv N.Topology N.Failure∧N.Routes.length=N.Topology.Devices.length∧N.Labels.length=N.Topology.Devices.length)∧T):=by
 obtain⟨a,e1,h1⟩:=ha;obtain⟨b,e2,h2⟩:=hb;rw[e1,e2];simp only[Wc,ifor rfl]
 refine SB.and4 ?_ λg=>hx g.1 g.2.1 g.2.2.1 g.2.2.2
 grind
def pNv {N:Z1} (h:NIn N):SB (Znw N) (Nv N):=by
 refine(nv0 (T:=∀ i:Int,0≤i→i<N.Topology.Devices.length→∀ l,idx N.Routes i=some l→∀ b,idx N.Labels i=some b→Dn N.Topology (deB N.Failure i) i l b) (pCv h.t h.c) (pFv h.t h.fl h.fd) λhc hf hr hl=>?_).iff ⟨λg=>⟨g.1.1,g.1.2.1,g.1.2.2.1,g.1.2.2.2,g.2⟩,λg=>⟨⟨g.c,g.f,g.r,g.l⟩,g.d⟩⟩
 have hd:=hf.v.d1
 refine Wf0 (LKp om om (λn i i0 i1=>?_) λn=>?_)
 rw[Zgf,if_pos (Wf i1),wi (i+1) om om];have a:=idx_of (l:=N.Routes) i0 om;have b:=idx_of (l:=N.Labels) i0 om;obtain⟨r,e,hv⟩:=pDn a b (h.r _ (Zr2 a)) h.fd hd;rw[e,a,b];simp only[Wn,forall_eq']
 refine Wa3 ?_
 rw[←hv];cases r<;>simp;rw[Zgf,if_neg sM]
def rNv {N:Z1} (h:NIn N):SB (Zmn N) (Nv N):=by
 refine(nv0 (T:=∀ i:Int,0≤i→i<N.Topology.Devices.length→∀ l,idx N.Routes i=some l→∀ b,idx N.Labels i=some b→Dn N.Topology (deB N.Failure i) i l b) (rCv h.t h.c) (rFv h.t h.fl h.fd) λhc hf hr hl=>?_).iff ⟨λg=>⟨g.1.1,g.1.2.1,g.1.2.2.1,g.1.2.2.2,g.2⟩,λg=>⟨⟨g.c,g.f,g.r,g.l⟩,g.d⟩⟩
 have hd:=hf.v.d1
 refine Wf0 (LKp om om (λn i i0 i1=>?_) λn=>?_)
 rw[Zfn,if_pos (Wf i1),wi (i+1) om om];have a:=idx_of (l:=N.Routes) i0 om;have b:=idx_of (l:=N.Labels) i0 om;have hR:=h.r _ (Zr2 a);have hRn:=hR.n
 generalize N.Routes[i.toNat]'om=l at a hR hRn
 generalize N.Labels[i.toNat]'om=q at b
 have al:Za2 N.Topology N.Failure i=some (!deB N.Failure i):=by
  unfold Za2;obtain⟨r,e,hv⟩:=rFv h.t h.fl h.fd;rw[e,hv.2 hf,has_eq _ _ h.fd];rw[Wf (show i≥0 from i0),Wf i1];rfl
 obtain⟨r,e,hv⟩:=rRt hR;simp only[al,a,b,e,Wc,ifor rfl,ifand rfl,Wn,forall_eq'];generalize deB N.Failure i=g
 refine(Wgt (g:=Rt l∧l.length≤256∧(g=true→l.length=0)∧q.length=N.Topology.Devices.length) ?_ λw=>Stp.seq (P:=∀ k:Int,0≤k→k<l.length→∀ x,idx l k=some x→rtB N.Topology i x=true) (LKp om om (λn k k0 k1=>?_) λn=>?_) λ_=>Wg5 (P:=∀ k:Int,0≤k→k<N.Topology.Devices.length→∀ x,idx q k=some x→lbB N.Topology g i k x=true) (LKp om om (λn k k0 k1=>?_) λn=>?_)).iff ⟨λh=>⟨h.1.1,h.1.2.1,h.1.2.2.1,h.1.2.2.2,h.2.1,λk k0 k1=>h.2.2 k k0 (by rw[←h.1.2.2.2];exact k1)⟩,λh=>⟨⟨h.v,h.n,h.z,h.m⟩,h.r,λk k0 k1=>h.b k k0 (by rw[h.m];exact k1)⟩⟩
 rw[←hv]
 by_cases h1:l.length≤256<;>by_cases h2:q.length=N.Topology.Devices.length<;>by_cases h3:l.length=0<;>cases r<;>cases g<;>simp[h1,h2,h3]<;>omega
 rw[Zfl,a];simp only[Wc];rw[if_pos (Wf k1),wi (k+1) om om,idx_of k0 k1];generalize l[k.toNat]'om=x;simp only[Wn,forall_eq',Wc,eg_eq,Zahg hf.v,ifor rfl,ifand rfl]
 refine Wa3 ?_
 unfold rtB;cases x.Edge<;>cases ownB2 N.Topology i x.Port<;>cases egO N.Topology i x.Port<;>simp;rw[Zfl,a];simp only[Wc];rw[if_neg sM];rw[Zfm,if_pos (Wf k1),wi (k+1) om om,b];simp only[Wc];rw[idx_of k0 (by have:=w.2.2.2;omega)];generalize q[k.toNat]'(by have:=w.2.2.2;omega)=x;simp only[Wn,forall_eq',Wc,Zahg hf.v,ifor rfl,ifand rfl]
 refine Wa3 ?_
 unfold lbB;cases hx:x==-1<;>cases g<;>cases hi:k==i<;>cases ownB2 N.Topology i x<;>simp[hx,hi,bne];rw[Zfm,if_neg sM];rw[Zfn,if_neg sM]
def H8 (h:Zad):Prop:=¬(h.Ports.Lo=8∧h.Ports.Hi=8)
def P8 (p:Zw):Prop:=∀ i:Int,0≤i→i<p.Hides.length→∀ h,idx p.Hides i=some h→H8 h
def C8 (c:Zo):Prop:=∀ i:Int,0≤i→i<c.Ports.length→∀ p,idx c.Ports i=some p→P8 p
structure Nd (N:Z1):Prop where
 n:Nv N
 g:∀ i:Int,0≤i→i<N.Configs.length→∀ c,idx N.Configs i=some c→Cg c∧C8 c
def pP8 {p:Zw} (h:PIn p):Ck (Zj0 p fuel 0) (P8 p):=by
 have hl:=h.h
 refine LKp om om (λn i i0 i1=>?_) λn=>?_
 rw[Zj0,if_pos (Wf i1),wi (i+1) om om,idx_of i0 i1]
 refine Wa3 ?_
 unfold H8 Zbe;simp;rw[Zj0,if_neg sM]
def rP8 {p:Zw} (h:PIn p):Ck (Zh3 p fuel 0) (P8 p):=by
 have hl:=h.h
 refine LKp om om (λn i i0 i1=>?_) λn=>?_
 rw[Zh3,if_pos (Wf i1),wi (i+1) om om,idx_of i0 i1];simp only[Wc,ifand rfl]
 refine Wa3 ?_
 unfold H8;simp;rw[Zh3,if_neg sM]
def SB.fst {A x:Option Bool} {P T:Prop} (ha:SB A P) (k:P→SB x T):SB (A.bind λr1=>if(!r1)=true then Option.some false else x) (P∧T):=by
 obtain⟨a,e,h⟩:=ha;rw[e]
 refine SB.and4 (g:=P) ?_ k
 grind
def Stp.fst {x b:Option Yb} {A:Option Bool} {P T:Prop} (ha:SB A P) (k:P→Stp x b T):Stp (A.bind λr1=>if(!r1)=true then Option.some (.inr false)else x) b (P∧T):=by
 obtain⟨a,e,h⟩:=ha;rw[e]
 refine Wgt (g:=P) ?_ k
 grind
def pNd {N:Z1} (h:NIn N):SB (Zrt N) (Nd N):=by
 refine((pNv h).fst λhn=>Wf0 (LKp om (by have:=hn.c.len;have:=hn.f.v.d1;omega) (λn i i0 i1=>?_) λn=>?_)).iff ⟨λg=>⟨g.1,g.2⟩,λg=>⟨g.n,g.g⟩⟩
 have hm:=hn.c.len;have hd:=hn.f.v.d1;rw[Zoi,if_pos (Wf i1),wi (i+1) om om,idx_of i0 i1];have hc:=h.c _ (Wv (show i.toNat<N.Configs.length by omega))
 generalize N.Configs[i.toNat]'om=c at hc
 have hcl:=hc.l;simp only[Wn,forall_eq']
 refine Stp.fst (pCg hc) λ_=>Wg5 (LKp om om (λn k k0 k1=>?_) λn=>?_)
 rw[Zoh,if_pos (Wf k1),wi (k+1) om om,idx_of k0 k1];simp only[Wn,forall_eq'];exact Wg5 (pP8 (hc.p _ (Wv (show k.toNat<c.Ports.length by omega))));rw[Zoh,if_neg sM];rw[Zoi,if_neg sM]
def rNd {N:Z1} (h:NIn N):SB (Zpu N) (Nd N):=by
 refine((rNv h).fst λhn=>Wf0 (LKp om (by have:=hn.c.len;have:=hn.f.v.d1;omega) (λn i i0 i1=>?_) λn=>?_)).iff ⟨λg=>⟨g.1,g.2⟩,λg=>⟨g.n,g.g⟩⟩
 have hm:=hn.c.len;have hd:=hn.f.v.d1;rw[Zmj,if_pos (Wf i1),wi (i+1) om om,idx_of i0 i1];have hi:=idx_of i0 i1;have hc:=h.c _ (Wv (show i.toNat<N.Configs.length by omega))
 generalize N.Configs[i.toNat]'om=c at hc hi
 have hcl:=hc.l;simp only[Wn,forall_eq']
 refine Stp.fst (rCg hc) λ_=>Wg5 (LKp (m:=c.Ports.length) om om (λn k k0 k1=>?_) λn=>?_)
 rw[Zmi,hi];simp only[Wc];rw[if_pos (Wf k1),wi (k+1) om om,idx_of k0 k1];simp;exact Wg5 (rP8 (hc.p _ (Wv (show k.toNat<c.Ports.length by omega))));rw[Zmi,hi];simp only[Wc];rw[if_neg sM];rw[Zmj,if_neg sM]
def Zaf0 {N:Z1} (h:NIn N):∃ v,Zrt N=some v∧Zpu N=some v∧(v=true↔Nd N):=by
 obtain⟨v,e,hv⟩:=pNd h;exact⟨v,e,by rw[←e];exact(SB.same (rNd h) (pNd h) Wcl),hv⟩
def vn_rn':∀ s,s∈rn→Zac s=some true:=by
 intro s h
 simp  [rn,W1,Wag,or_false]at h
 rcases h with rfl|rfl|rfl|rfl|rfl|rfl<;>kernel_rfl
def vn_en':∀ s,s∈en→Zac s=some true:=by
 intro s h
 simp  [en,W1,Wag,or_false]at h
 rcases h with rfl|rfl|rfl|rfl|rfl<;>kernel_rfl
def vn_rn (i:Nat) (s:ByteArray) (h:rn[i]? = some s):Zac s=some true:=vn_rn' s (Wq h)
def vn_en (i:Nat) (s:ByteArray) (h:en[i]? = some s):Zac s=some true:=vn_en' s (Wq h)
def vn_zn:∀ s,s∈zn→Zac s=some true:=by
 intro s h
 simp  [zn,W1,Wag,or_false]at h
 rcases h with rfl|rfl|rfl<;>kernel_rfl
def vn_cn:∀ s,s∈cn→s=ByteArray.empty∨Zac s=some true:=by
 intro s h
 simp  [cn,W1,Wag,or_false]at h
 rcases h with rfl|rfl|rfl
 exact .inl rfl;exact .inr kR;exact .inr kR
def Zacs {N:List ByteArray} (hN:(N.map ByteArray.toList).Nodup) {i j:Nat} {s t:ByteArray} (h1:N[i]? = some s) (h2:N[j]? = some t) (hne:i≠j):(s.toList==t.toList)=false:=by
 rw[beq_eq_false_iff_ne];intro e
 have g1:(N.map ByteArray.toList)[i]? = some s.toList:=gD
 have g2:(N.map ByteArray.toList)[j]? = some t.toList:=gD
 obtain⟨a1,a2⟩:=We.1 g1;obtain⟨b1,b2⟩:=We.1 g2;have:=(List.getElem_inj (h₀:=a1) (h₁:=b1) hN).1 gD;omega
def rn_nd:(rn.map ByteArray.toList).Nodup:=by decide +kernel
def en_nd:(en.map ByteArray.toList).Nodup:=by decide +kernel
def Zahh {T:Zb} (hd:All DOk T.Devices) (h6:T.Devices.length≤6) {i:Nat} (hi:i<T.Devices.length) {s:ByteArray} (hs:rn[i]? = some s) (t:Zb) (ht:t.Devices=T.Devices):Ze0 t s=some (i:Int):=by
 have L:∀ n k,k≤i→i-k<n→Zcz t s n k=some (.inr (i:Int)):=by
  intro n
  induction n with
  |zero=>omega
  |succ n ih=>
   intro k hk hn
   have hk2:k<T.Devices.length:=om
   unfold Zcz;rw[ht,if_pos gD,Zaq hk2,wi (k+1) om om];simp only[Wc];have g:=(hd k T.Devices[k] gD).name
   by_cases e:k=i
   subst e;rw[hs]at g;rw[←Waw g];simp;rw[Zacs rn_nd g hs e];exact ih (k+1) om om
 have hf:=Z6;unfold Ze0;rw[show 0=((0:Nat):Int)from rfl,L fuel 0 om om];rfl
def Zaj9 {T:Zb} (hT:XOk T) {i:Nat} (hi:i<T.Edges.length) {s:ByteArray} (hs:en[i]? = some s):Zcg T s=some (i:Int):=by
 have e1:=hT.e1
 have L:∀ n k,k≤i→i-k<n→Zde T s n k=some (.inr (i)):=by
  intro n
  induction n with
  |zero=>omega
  |succ n ih=>
   intro k hk hn
   have hk2:k<T.Edges.length:=om
   unfold Zde;rw[if_pos gD,Zaq hk2,wi (k+1) om om];simp only[Wc];have g:=(hT.edge k T.Edges[k] gD).name
   by_cases e:k=i
   subst e;rw[hs]at g;rw[←Waw g];simp;rw[Zacs en_nd g hs e];exact ih (k+1) om om
 have hf:=Z6;unfold Zcg;rw[show 0=((0:Nat):Int)from rfl,L fuel 0 om om];rfl
def Zact {T:Zb} (hT:XOk T):Zcr T.Devices=some true:=by
 have d0:=hT.d0;have d1:=hT.d1
 refine Whh (Lf ?_)
 rw[Wo om,Wo om]
 refine Wa (p:=λo=>o=.inl ()) (LC (m:=T.Devices.length) om om (λn i i0 i1 ih=>?_) λn=>?_) λo ho=>by subst ho;exact Wb rfl
 unfold Zbt;rw[if_pos (Wf i1),wi (i+1) om om]
 have hi:i.toNat<T.Devices.length:=om
 have hx:idx T.Devices i=some T.Devices[i.toNat]:=by simp[AM.idx,i0]
 have g:=hT.dev i.toNat T.Devices[i.toNat] gD;have gl:=g.lim;rw[hx]
 refine Lf ?_
 rw[vn_rn _ _ g.name]
 refine Lf (Lf (Wa (p:=λv=>v=false) ?_ λv hv=>?_))
 simp;rw[Zahh hT.dev d1 hi g.name (Zb.mk T.Devices [] [] [] 0) rfl]
 refine Lf (Wb ?_)
 rw[bne_eq_false_iff_eq];omega;subst hv
 refine Lf (Wa (p:=λv=>v=false) (Wb gD) λv hv=>?_)
 subst hv
 refine Lf (Wa (p:=λv=>v=false) (Wb gD) λv hv=>?_)
 subst hv
 refine Lf (Wa (p:=λv=>v=false) ?_ λv hv=>?_)
 simp only[Wy,if_false]
 refine Lf (Lf (Wa (p:=λv=>v=false) (Wi (λh=>?_) λ_=>Wb rfl) λv hv=>Wb hv))
 refine Lf ?_
 rcases vn_cn _ g.cls with e|e
 rw[e]at h;simp at h
 rw[e];exact Lf (Wb rfl);subst hv;exact ih;unfold Zbt;rw[if_neg sM];exact Wb rfl
def Zahi:∀(i:Nat) p,subnets[i]? = some p→Zcx p=some true∧1≤p.Bits:=by
 intro i p h;have:=Wq h
 simp  [subnets,W1,Wag,or_false]at this
 rcases this with rfl|rfl|rfl|rfl|rfl|rfl<;>exact⟨kR,dC⟩
def Zacu {T:Zb} (hT:XOk T):Zdl T=some (subnets.take T.Edges.length):=by
 have hf:=Z6;have hlim:=lim_eq;have e1:=hT.e1
 have L:∀ n k,k≤T.Edges.length→T.Edges.length-k<n→Zcl T n (subnets.take k) k=some (subnets.take T.Edges.length):=by
  intro n
  induction n with
  |zero=>omega
  |succ n ih=>
   intro k hk hn;unfold Zcl
   by_cases h:k<T.Edges.length
   have g:=hT.edge k T.Edges[k] gD;rw[if_pos gD,Zaq h,wi (k+1) om om];simp only[Wc,g.pl,Wfq,if_true];rw[if_pos sO]
   have e:subnets.take k++[(T.Edges[k]).Prefix]=subnets.take (k+1):=by
    rw[Wbm,g.pre];rfl
   rw[e];exact ih (k+1) om om
   grind
 unfold Zdl;have:=L fuel 0 om om
 grind
def Zahj:∀ k:Fin 6,Zco (subnets.take k.1) fuel 0=some (.inl ()):=by
 intro k
 rcases(by omega:k=0∨k=1∨k=2∨k=3∨k=4∨k=5)with rfl|rfl|rfl|rfl|rfl|rfl<;>kernel_rfl
def Zaf1 {T:Zb} (h:T.Pools∈pl4):Zc6 T fuel 0=some (.inl ()):=by
 obtain⟨D,K,E,P,t⟩:=T
 simp  [pl4,W1,Wag,or_false]at h
 rcases h with rfl|rfl|rfl|rfl<;>kernel_rfl
def Z3w {T:Zb} (hT:XOk T):Zc3 T=some true:=by
 have k1:=hT.k1;have e1:=hT.e1;have p1:=hT.p1;have t0:=hT.t0;have t1:=hT.t1;unfold Zc3;rw[Zact hT]
 refine Whh (Lf (Lf (Lf (Lf (Lf (Lf ?_))))))
 rw[Wo (p:=(T.Links.length:Int)>24) om,Wo (p:=(T.Edges.length:Int)>12) om,Wo (p:=(T.Pools.length:Int)>8) om,Wo (p:=T.Tolerate<0) om,Wo (p:=T.Tolerate>2) om]
 refine Wa (p:=λo=>o=.inl ()) (LC (m:=T.Links.length) om om (λn i i0 i1 ih=>?_) λn=>?_) λo ho=>?_
 unfold Zcm;rw[if_pos (Wf i1),wi (i+1) om om]
 refine Ix i0 i1 λl hl=>?_
 have g:=hT.link l hl;have g0:=g.h0;have g1:=g.h1;have g2:=g.h2;have gc:=g.cost
 simp at gc
 rw[Wo (p:=l.A<0) om,Wo (p:=l.B≤l.A) om,Wo (p:=l.B≥(T.Devices.length:Int)) om,Wo (p:=l.Cost<1) om,Wo (p:=l.Cost>1000) om];exact ih;unfold Zcm;rw[if_neg sM];exact Wb rfl;subst ho
 refine Wa (p:=λo=>o=.inl ()) (LC (m:=T.Edges.length) om om (λn i i0 i1 ih=>?_) λn=>?_) λo ho=>?_
 unfold Zcn;rw[if_pos (Wf i1),wi (i+1) om om]
 have hi:i.toNat<T.Edges.length:=om
 have hx:idx T.Edges i=some T.Edges[i.toNat]:=by simp[AM.idx,i0,hi]
 have g:=hT.edge i.toNat T.Edges[i.toNat] (by simp[hi]);have g0:=g.h0;have g1:=g.h1;have gv:=Zahi _ _ g.pre;rw[hx]
 refine Lf (Wa (p:=λv=>v=true) ?_ λv hv=>?_)
 unfold Zdk;rw[vn_en _ _ g.name]
 refine Lf (Lf (Wa (p:=λv=>v=false) ?_ λv hv=>?_))
 simp;rw[vn_zn _ g.zone];exact Lf (Wb rfl);subst hv;rw[Wo (p:=(T.Edges[i.toNat]).Device<0) om,Wo (p:=(T.Edges[i.toNat]).Device≥(T.Devices.length:Int)) om,Wo (p:=(T.Edges[i.toNat]).Prefix.Bits<1) om];rw[gv.1,g.pl];exact Wb rfl;subst hv
 refine Lf (Wa (p:=λv=>v=false) ?_ λv hv=>?_)
 simp
 refine Lf ?_
 rw[Zaj9 hT hi g.name]
 refine Lf (Wb ?_)
 rw[bne_eq_false_iff_eq];omega;subst hv;exact ih;unfold Zcn;rw[if_neg sM];exact Wb rfl;subst ho;rw[Zacu hT]
 refine Lf ?_
 rw[Zahj ⟨T.Edges.length,om⟩]
 refine Lf ?_
 rw[Zaf1 hT.pools];exact Wb rfl
def Z1q {T:Zb} (hT:XOk T):Zaz T=some true:=by
 have e1:=hT.e1;unfold Zaz;rw[Z3w hT,Zacu hT];simp[subnets];omega
def Zaka:∀(i:Nat) p,(subnets.take 5)[i]? = some p→Zb2 p 3325256705=some false∧Zb2 p 3405803781=some false:=by
 intro i p h;have:=Wq h
 simp  [subnets,List.take,W1,Wag,or_false]at this
 rcases this with rfl|rfl|rfl|rfl|rfl<;>exact⟨kR,kR⟩
def At_out {T:Zb} (hT:XOk T) {a:Int} (ha:a=3325256705∨a=3405803781):Zfk T a=some (-1):=by
 have e1:=hT.e1
 refine Whh (Wa (p:=λo=>o=.inl ()) (LC (m:=T.Edges.length) om om (λn i i0 i1 ih=>?_) λn=>?_) λo ho=>by subst ho;exact Wb rfl)
 unfold Zek;rw[if_pos (Wf i1),wi (i+1) om om]
 have hi:=om
 have hx:idx T.Edges i=some T.Edges[i.toNat]:=by simp[AM.idx,i0]
 have g:=hT.edge i.toNat T.Edges[i.toNat] (by simp );rw[hx]
 refine Lf ?_
 rw[g.pl]
 refine Lf (Wa (p:=λv=>v=false) ?_ λv hv=>?_)
 simp only[Wfq,if_true]
 refine Lf ?_
 have q:=Zaka i.toNat (T.Edges[i.toNat]).Prefix (by rw[List.getElem?_take_of_lt om];exact g.pre)
 rcases ha with rfl|rfl
 rw[q.1];exact Wb rfl;rw[q.2];exact Wb rfl;subst hv;exact ih;unfold Zek;rw[if_neg sM];exact Wb rfl
def Fits (a e j:Nat):Prop:=a%2^j=0∧a+2^j≤e
instance (a e j:Nat):Decidable (Fits a e j):=inferInstanceAs (Decidable (_∧_))
def Fits.mono {a e i j:Nat} (h:Fits a e j) (hij:i≤j):Fits a e i:=by
 obtain⟨h1,h2⟩:=h;have hd:=Wds 2 hij;exact⟨Nat.mod_eq_zero_of_dvd (Nat.dvd_trans hd om),by have:=Wch (n:=2) om hij;omega⟩
structure IsG (a e j:Nat):Prop where
 fits:Fits a e j
 top:¬Fits a e (j+1)
def IsG.uniq {a e i j:Nat} (h:IsG a e i) (k:IsG a e j):i=j:=by
 rcases Wc5 i j with hlt|rfl|hgt
 exact absurd (k.fits.mono hlt) h.top;rfl;exact absurd (h.fits.mono hgt) k.top
def gexp (a e:Nat):Nat→Nat
 |0=>0
 |j+1=>if Fits a e (j+1)then j+1 else gexp a e j
def gxL (a e:Nat):Nat:=gexp a e 33
def Z99 {a e:Nat} (h:a<e):∀ j,¬Fits a e (j+1)→IsG a e (gexp a e j)
 |0,hn=>⟨⟨by rw[gexp];omega,by rw[gexp];omega⟩,hn⟩
 |j+1,hn=>by
  rw[gexp];split;exact⟨gD,hn⟩;exact Z99 h j gD
def Z34 {a e:Nat} (h:a<e) (he:e≤4294967296):IsG a e (gxL a e):=Z99 h 33 λhf=>by
 have h1:=hf.2;omega
def Wgd:=@Nat.one_le_two_pow
def gx_pos (a e:Nat):1≤2^gxL a e:=Wgd
def gb (a e:Nat):List Za:=
 if h:a<e then⟨(a:Int),((a+2^gxL a e-1:Nat):Int)⟩::gb (a+2^gxL a e) e else[]
termination_by e-a
decreasing_by
 have:=gx_pos a e;omega
def gb_nil {a e:Nat} (h:¬a<e):gb a e=[]:=by rw[gb];grind
def Z35 {a e:Nat} (h:a<e):gb a e=⟨a,(a+2^gxL a e-1:Nat)⟩::gb (a+2^gxL a e) e:=by
 conv=>lhs;rw[gb]
 grind
def Z89 {e:Nat} (he:e≤4294967296):∀ j a,a%2^j=0→e<a+2^j→(gb a e).length≤j
 |j,a,h1,h2=>by
  by_cases h:a<e
  have hg:=Z34 h he
  have hlt:gxL a e<j:=by
   refine Wah λhn=>?_
   have:=(hg.fits.mono (Nat.le_of_not_lt hn)).2;omega
  rw[Z35 h,Wak]
  have hd:(a+2^gxL a e)%2^gxL a e=0:=by
   rw[Nat.add_mod,hg.fits.1];simp
  have hr:e<a+2^gxL a e+2^gxL a e:=by
   refine Wah λhn=>hg.top ⟨?_,?_⟩
   exact Nat.mod_eq_zero_of_dvd (Nat.dvd_trans (Wds 2 hlt) om)
   grind
  have:=Z89 he (gxL a e) _ hd hr;omega;rw[gb_nil h];simp
 termination_by j=>j
def Zail {a i:Nat} (h1:a%2^i=0) (h2:a%2^(i+1)≠0):(a+2^i)%2^(i+1)=0:=by
 obtain⟨q,rfl⟩:=Nat.dvd_of_mod_eq_zero h1
 have hq:q%2=1:=by
  rcases Nat.mod_two_eq_zero_or_one q with h|h
  exfalso;apply h2;obtain⟨r,rfl⟩:=Nat.dvd_of_mod_eq_zero h;rw[←We4];exact Nat.mul_mod_right _ _;exact h
 have:2^i*q+2^i=2^(i+1)*((q+1) / 2):=by
  have e1:q+1=2*((q+1) / 2):=om
  grind
 simp_all
def gb_up {e w:Nat} (he:e≤4294967296) (hw:e≤2^w):∀ m j a,j+m=w+1→a%2^j=0→(gb a e).length≤w+2+m
 |m,j,a,hm,h1=>by
  by_cases h:a<e
  have hg:=Z34 h he
  by_cases hj:e<a+2^j
  have:=Z89 he j a h1 hj;omega
  have hij:j≤gxL a e:=by
   refine Wah λhn=>hg.top ?_
   exact Fits.mono (j:=j) ⟨h1,om⟩ om
  have hiw:gxL a e≤w:=by
   refine Wah λhn=>?_
   have h3:=hg.fits.2;have h4:=Nat.pow_lt_pow_right (a:=2) om (Nat.lt_of_not_le hn);omega
  rw[Z35 h,Wak]
  by_cases ho:a%2^(gxL a e+1)=0
  have hr:e<a+2^gxL a e+2^gxL a e:=by
   refine Wah λhn=>hg.top ⟨ho,?_⟩
   omega
  have hd:(a+2^gxL a e)%2^gxL a e=0:=by
   rw[Nat.add_mod,hg.fits.1];simp
  have:=Z89 he (gxL a e) _ hd hr;omega
  have hm1:(gxL a e+1)+(w+1-(gxL a e+1))=w+1:=om
  have:=gb_up he hw (w+1-(gxL a e+1)) (gxL a e+1) _ hm1 (Zail hg.fits.1 ho);omega;rw[gb_nil h];simp
 termination_by m=>m
def gb_len {a e w:Nat} (he:e≤4294967296) (hw:e≤2^w):(gb a e).length≤2*w+3:=by
 have:=gb_up he hw (w+1) 0 a om gD;omega
theorem Zaim (a b:Nat):Int.tmod (a:Int) (b:Int)=(a%b:Nat):=rfl
def Zain {j:Nat} (h:j≤33):2^j≤8589934592:=by
 have:=Wch (n:=2) om h
 grind
def end_eq {r:Za} {hi:Nat} (hr:r.Hi=hi) (h:hi<4294967296):wrap .u64 ((wrap .u64 r.Hi)+1)=(hi+1:Nat):=by
 rw[hr,wu64 (x:=hi) om om,wu64 om om];omega
def rL2 {r:Za} {hi a:Nat} (hr:r.Hi=hi) (h:hi<4294967296) (ha:a<hi+1):∀ m j n,j+m=33→Fits a (hi+1) j→Zl2 r a (n+m+1) ((2^j:Nat):Int)=some ((2^gxL a (hi+1):Nat):Int)
 |m,j,n,hm,hf=>by
  have h2:=Zain (show j≤33 by omega);have h3:1≤2^j:=Wgd
  have e2:2*((2^j:Nat):Int)=(2^(j+1):Nat):=om
  have e3:((2^j:Nat):Int)*2=(2^(j+1):Nat):=gD
  rw[Zl2,e2,e3,wu64 (x:=(2^(j+1):Nat)) om om,if_pos om,end_eq hr h,Zaim,wu64 (x:=a+(2^(j+1):Nat)) om om];simp only[Wc]
  by_cases hg:Fits a (hi+1) (j+1)
  have hj:j+1≤33:=by
   have h5:=hg.2
   grind
  obtain⟨m',rfl⟩:∃ m',m=m'+1:=⟨m-1,om⟩;rw[if_pos];exact rL2 hr h ha m' (j+1) n om hg;simp only[Wh,Wct,W4];have h5:=hg.1;have h6:=hg.2;exact⟨om,om⟩;rw[if_neg,(IsG.mk hf hg).uniq (Z34 ha om)];simp only[Wh,Wct,W4];rintro⟨h5,h6⟩;exact hg ⟨om,om⟩
 termination_by m=>m
def Z74 (m:Nat) (h:m≤1000):∃ n,fuel=n+m+1:=⟨fuel-m-1,by unfold fuel;omega⟩
def Zaio {a s:Nat} (h:a+s≤4294967296) (hs:1≤s):(⟨wrap .u32 a,wrap .u32 (wrap .u64 (wrap .u64 (a+s)-1))⟩:Za)=⟨a,(a+s-1:Nat)⟩:=by
 rw[wu32 (x:=a) om om,wu64 (x:=a+s) om om,wu64 (x:=a+s-1) om om,wu32 om om]
 grind
def rL1 {r:Za} {hi:Nat} (hr:r.Hi=hi) (h:hi<4294967296):∀ k a n l,(gb a (hi+1)).length=k→a≤hi+1→l.length+k≤1000 →
  Zl3 r (n+k+1) l a=some (l++gb a (hi+1))
 |k,a,n,l,hk,ha,hl=>by
  rw[Zl3,end_eq hr h]
  by_cases hlt:a<hi+1
  rw[if_pos gD];obtain⟨f,hf⟩:=Z74 33 om;have h1:Fits a (hi+1) 0:=⟨Nat.mod_one a,om⟩;rw[hf,show(1:Int)=(2^0:Nat)from rfl,rL2 hr h hlt 33 0 f om h1];have h6:=(Z34 hlt om).fits.2;have h7:1≤2^gxL a (hi+1):=Wgd;rw[Z35 hlt,Wak]at hk;obtain⟨k',rfl⟩:∃ k',k=k'+1:=⟨k-1,om⟩;simp only[Wc];rw[if_pos (by simp;unfold lim;omega),show(2^0:Nat)=(1:Int)from rfl,Zaio om h7,Z35 hlt,wu64 om om];have:=rL1 hr h k' (a+2^gxL a (hi+1)) n (l++[⟨a,(a+2^gxL a (hi+1)-1:Nat)⟩]) om om gD;rw[show n+(k'+1)=n+k'+1 by omega,show(a+(2^gxL a (hi+1):Nat))=((a+2^gxL a (hi+1):Nat):Int) by omega,this,Wap];rfl;rw[if_neg gD,gb_nil hlt,Wam]
 termination_by k=>k
def bl (r:Za):List Za:=gb r.Lo.toNat (r.Hi.toNat+1)
def rBlocks {r:Za} {w:Nat} {top:Int} (hr:ROk top r) (hw:w≤32) (ht:top<(2^w:Nat)):Zdq r w=some (bl r):=by
 have g0:=hr.h0;have g1:=hr.h1;have g2:=hr.h2
 have h32:=by
  have:=Wch (n:=2) om hw;omega
 have hlo:r.Lo=r.Lo.toNat:=om
 have hhi:r.Hi=r.Hi.toNat:=om
 unfold Zdq;have hwu:wrap .u64 (w:Int)=(w:Int):=wu64 om om;have hhu:wrap .u64 r.Hi=r.Hi:=wu64 om om;have hlu:=wu64 om om;have d1:decide ((w:Int)<0)=false:=Wo om;have d2:decide ((w:Int)>32)=false:=Wo om;have d3:decide (r.Lo>r.Hi)=false:=Wo om;have d4:decide (r.Hi≥(2^w:Nat))=false:=Wo om;rw[hwu,hhu,hlu,Zaby om,d2,d3,d4];have hlen:=gb_len (a:=r.Lo.toNat) (e:=r.Hi.toNat+1) (w:=w) om om;obtain⟨n,hn⟩:=Z74 (gb r.Lo.toNat (r.Hi.toNat+1)).length om;have hmain:=rL1 hhi om _ r.Lo.toNat n [] rfl om gD;rw[←hlo,←hn]at hmain;rw[hmain];rfl
def bls (b:Arr5 Za):Arr5 Yc:=⟨bl b.x0,bl b.x1,bl b.x2,bl b.x3,bl b.x4⟩
def p31:(4294967295:Int)<(2^32:Nat):=dC
def p8:(255:Int)<(2^8:Nat):=dC
def p16:(65535:Int)<(2^16:Nat):=dC
def Zaf2 {b:Arr5 Za} (h:BOk b) {k:Int} (h0:0≤k) (h1:k<5):Zsz b k=some ((bls b).get k):=by
 rcases five h0 h1 with rfl|rfl|rfl|rfl|rfl
 show(Zdq b.x0 (32:Nat)).bind _=_;rw[rBlocks h.h0 om p31];rfl;show(Zdq b.x1 (32:Nat)).bind _=_;rw[rBlocks h.h1 om p31];rfl;show(Zdq b.x2 (8:Nat)).bind _=_;rw[rBlocks h.h2 om p8];rfl;show(Zdq b.x3 (16:Nat)).bind _=_;rw[rBlocks h.h3 om p16];rfl;show(Zdq b.x4 (16:Nat)).bind _=_;rw[rBlocks h.h4 om p16];rfl
def crn (b:Bx):List Int:=lowsL (toL b)
def crn_nd {l:List Bx} (h:VS l):(l.map crn).Nodup:=by
 have:=Z7o tops5 h.cf;rw[Wao]at this;exact this
def crn_in {l:List Bx} (h:VS l) {b:Bx} (hb:b∈l):vP tops5 (crn b)∧mem l (crn b)=true∧∀ i,i<5→(crn b).getD i 0=0∨∃ q,vP tops5 q∧vP tops5 (dn i q)∧q.take (i+1)=(crn b).take (i+1)∧mem l q≠mem l (dn i q):=by
 have g:=cornerL tops5 h.cf (toL b) (Wcm hb);exact⟨Zab4 tops5 (ok_vR (h.ok b hb)),g.1,g.2⟩
def Sx (P:List Int) (i:Int):List Int:=(sr i).Lo::P.filter (inR · (sr i))
def Dx (P:List Int) (i:Int):List Int:=(([0,1,2,3,4]:List Int).filter (·!=i)).flatMap (Sx P)
def Tx (Q:List (Int×Int)):List (Int×Int×Int):=[(0,0,0),(2,0,0),(7,0,0),(18,0,0),(50,0,0),(51,0,0),(1,0,8),(1,9,8),(6,0,0),(17,0,0)]++Q.map λz=>(z.1,0,z.2)
def U3 (A B:List Int) (C:List (Int×Int×Int)):List Ya:=A.flatMap λa=>B.flatMap λb=>C.map λc=>[a,b,c.1,c.2.1,c.2.2]
def U3_len (A B:List Int) (C:List (Int×Int×Int)):(U3 A B C).length≤C.length*B.length*A.length:=by
 refine Zte λa _=>Zte λb _=>?_
 simp
def U3_mem {A B:List Int} {C:List (Int×Int×Int)} {a b d e f:Int} (ha:a∈A) (hb:b∈B) (hc:(d,e,f)∈C):[a,b,d,e,f]∈U3 A B C:=
 Waq.2 ⟨a,ha,Waq.2 ⟨b,hb,W9.2 ⟨_,hc,rfl⟩⟩⟩
def sr_pos {i:Int} (i0:0≤i) (i1:i<5):0<(sr i).Lo:=by
 rcases(by omega:i=0∨i=1∨i=2∨i=3∨i=4)with rfl|rfl|rfl|rfl|rfl<;>decide
def eb_sr {i v:Int} (i0:0≤i) (i1:i<5) (hv:v∈eb) (h:inR v (sr i)=true):v=(sr i).Lo:=by
 simp  [eb,W1,Wag,or_false]at hv
 rcases(by omega:i=0∨i=1∨i=2∨i=3∨i=4)with rfl|rfl|rfl|rfl|rfl<;>rcases hv with rfl|rfl|rfl|rfl|rfl|rfl|rfl<;>revert h<;>decide
def in_Sx {x:Zs} {i v:Int} (i0:0≤i) (i1:i<5) (hv:v=0∨v∈PX x) (h:inR v (sr i)=true):v∈Sx (P0 x) i:=by
 rcases hv with hv|hv
 have:=(Zd0.1 h).1;have:=sr_pos i0 i1;omega
 rcases Wj.1 hv with hv|hv
 rw[eb_sr i0 i1 hv h];exact Wz ..;exact Wcf _ gD
def in_Dx {P:List Int} {i j v:Int} (j0:0≤j) (j1:j<5) (hne:j≠i) (h:v∈Sx P j):v∈Dx P i:=by
 refine Waq.2 ⟨j,Wab.2 ⟨?_,gD⟩,h⟩
 grind
def Zxd {i j v:Int} (i0:0≤i) (i1:i<5) (j0:0≤j) (j1:j<5) (h1:inR v (sr i)=true) (h2:inR v (sr j)=true):i=j:=by
 rw[Zd0]at h1 h2
 rcases(by omega:i=0∨i=1∨i=2∨i=3∨i=4)with rfl|rfl|rfl|rfl|rfl<;>rcases(by omega:j=0∨j=1∨j=2∨j=3∨j=4)with rfl|rfl|rfl|rfl|rfl<;>first|rfl|(simp only[sr]at h1 h2;simp at h1 h2;omega)
def cnt5 (P:List Int):(P.filter (inR · (sr 0))).length+(P.filter (inR · (sr 1))).length+(P.filter (inR · (sr 2))).length+(P.filter (inR · (sr 3))).length+(P.filter (inR · (sr 4))).length≤P.length:=by
 induction P with
 |nil=>simp
 |cons v P ih=>
  have key:∀ i j ,0≤i→i<5→0≤j→j<5→i≠j→¬(inR v (sr i)=true∧inR v (sr j)=true):=λi j a b c d e h=>e (Zxd a b c d h.1 h.2)
  simp  [Wb6]
  grind
def prod72 (P:List Int) (hP:P.length≤12) {i:Int} (i0:0≤i) (i1:i<5):(Dx P i).length*(Sx P i).length≤72:=by
 have h:=cnt5 P
 have key:∀ a b ,a+b≤12→(4+b)*(1+a)≤72:=by
  intro a b hab;have h1:(4+b)*(1+a)≤(16-a)*(1+a):=W8 _ om
  have h2:∀ k:Fin 13,(16-k.1)*(1+k.1)≤72:=dC
  have h3:=h2 ⟨a,om⟩
  grind
 rcases(by omega:i=0∨i=1∨i=2∨i=3∨i=4)with rfl|rfl|rfl|rfl|rfl<;>simp[Dx,Sx]
 have:=key (P.filter (inR · (sr 0))).length ((P.filter (inR · (sr 1))).length+(P.filter (inR · (sr 2))).length+(P.filter (inR · (sr 3))).length+(P.filter (inR · (sr 4))).length) om;rw[Wfk 1]at this
 refine Wbj (Wff ?_) this
 congr 1;omega
 have:=key (P.filter (inR · (sr 1))).length ((P.filter (inR · (sr 0))).length+(P.filter (inR · (sr 2))).length+(P.filter (inR · (sr 3))).length+(P.filter (inR · (sr 4))).length) om;rw[Wfk 1]at this
 refine Wbj (Wff ?_) this
 congr 1;omega
 have:=key (P.filter (inR · (sr 2))).length ((P.filter (inR · (sr 1))).length+(P.filter (inR · (sr 0))).length+(P.filter (inR · (sr 3))).length+(P.filter (inR · (sr 4))).length) om;rw[Wfk 1]at this
 refine Wbj (Wff ?_) this
 congr 1;omega
 have:=key (P.filter (inR · (sr 3))).length ((P.filter (inR · (sr 1))).length+(P.filter (inR · (sr 2))).length+(P.filter (inR · (sr 0))).length+(P.filter (inR · (sr 4))).length) om;rw[Wfk 1]at this
 refine Wbj (Wff ?_) this
 congr 1;omega
 have:=key (P.filter (inR · (sr 4))).length ((P.filter (inR · (sr 1))).length+(P.filter (inR · (sr 2))).length+(P.filter (inR · (sr 3))).length+(P.filter (inR · (sr 0))).length) om
 grind
def Tx_len {Q:List (Int×Int)} (h:Q.length≤12):(Tx Q).length≤22:=by unfold Tx;simp_all
def UF (x:Zs) (i:Int):List Ya:=U3 (Sx (P0 x) i) (Dx (P0 x) i) (Tx (QX x))
def UT (x:Zs) (i:Int):List Ya:=U3 (Dx (P0 x) i) (Sx (P0 x) i) (Tx (QX x))
def UF_len {T:Zb} {x:Zs} (h:IOk T x) {i:Int} (i0:0≤i) (i1:i<5):(UF x i).length≤1584:=by
 have h1:=U3_len (Sx (P0 x) i) (Dx (P0 x) i) (Tx (QX x));unfold UF;rw[We4]at h1;have:=Wdy (Tx_len (QX_len h)) (prod72 (P0 x) (P0_len h) i0 i1);omega
def UT_len {T:Zb} {x:Zs} (h:IOk T x) {i:Int} (i0:0≤i) (i1:i<5):(UT x i).length≤1584:=by
 have h1:=U3_len (Dx (P0 x) i) (Sx (P0 x) i) (Tx (QX x));unfold UT;rw[We4,Wgp (Sx _ _).length]at h1;have:=Wdy (Tx_len (QX_len h)) (prod72 (P0 x) (P0_len h) i0 i1);omega
def Zahk {a c d e f:Int} (h:mem ini [a,c,d,e,f]=true):d=6∨d=17∨(d=1∧f=8∧e≠8)∨(d≠1∧d≠6∧d≠17∧e=0∧f=0):=by
 obtain⟨y,hy,hm⟩:=mem_in h;rw[mem1]at hm
 simp  [Wh,Zd0]at hm
 simp  [ini,W1,Wag,or_false]at hy
 rcases hy with rfl|rfl|rfl|rfl|rfl|rfl|rfl|rfl<;>dsimp  at hm<;>omega
def Zaaa {T:Zb} (hT:XOk T) {x:Zs} {l:List Bx} (hg:GS (KXI x) l) (hr:RS T l) {b:Bx} (hb:b∈l):∃ a c d e f i j,crn b=[a,c,d,e,f]∧0≤i∧i<5∧0≤j∧j<5∧i≠j∧inR a (sr i)=true∧inR c (sr j)=true∧a∈Sx (P0 x) i∧c∈Sx (P0 x) j∧(d,e,f)∈Tx (QX x):=by
 have e1:=hT.e1;obtain⟨hv,hm,hc⟩:=crn_in hg.v hb;obtain⟨a,c,d,e,f,hq⟩:=fiveP hv;rw[hq]at hv hm hc;obtain⟨hi,y,⟨i,j,i0,i1,j0,j1,hne,rfl⟩,hy⟩:=hr _ hv hm;have hw:=hy;rw[mem1]at hw;simp only[Wh]at hw
 have K:∀ n,n<5→[a,c,d,e,f].getD n 0=0∨∃ q,q.take (n+1)=[a,c,d,e,f].take (n+1)∧vP tops5 q∧KXI x n q:=by
  intro n hn
  rcases hc n hn with h|⟨q,h1,h2,h3,h4⟩
  exact .inl h;exact .inr ⟨q,h3,h1,hg.c n hn q h1 h2 h4⟩
 have k0:=K 0 om;have k1:=K 1 om;have k2:=K 2 om;have k3:=K 3 om;have k4:=K 4 om
 have ha:a=0∨a∈PX x:=by
  rcases k0 with h|⟨q,h1,h2,h3⟩
  exact .inl h;obtain⟨a',c',d',e',f',rfl⟩:=fiveP h2
  simp at h1;subst h1;exact .inr h3
 have hcc:c=0∨c∈PX x:=by
  rcases k1 with h|⟨q,h1,h2,h3⟩
  exact .inl h;obtain⟨a',c',d',e',f',rfl⟩:=fiveP h2
  simp at h1;obtain⟨rfl,rfl⟩:=h1;exact .inr h3
 have hd:d=0∨d∈pr9:=by
  rcases k2 with h|⟨q,h1,h2,h3⟩
  exact .inl h;obtain⟨a',c',d',e',f',rfl⟩:=fiveP h2
  simp at h1;obtain⟨rfl,rfl,rfl⟩:=h1;exact .inr h3
 have he:e=0∨(d≠6∧d≠17∧(d=1→e=8∨e=9)):=by
  rcases k3 with h|⟨q,h1,h2,h3⟩
  exact .inl h;obtain⟨a',c',d',e',f',rfl⟩:=fiveP h2
  simp at h1;obtain⟨rfl,rfl,rfl,rfl⟩:=h1;exact .inr h3
 have hf:f=0∨(d=6∨d=17→(d,f)∈QX x):=by
  rcases k4 with h|⟨q,h1,h2,h3⟩
  exact .inl h;obtain⟨a',c',d',e',f',rfl⟩:=fiveP h2
  simp at h1;obtain⟨rfl,rfl,rfl,rfl,rfl⟩:=h1;exact .inr h3
 refine⟨a,c,d,e,f,i,j,hq,i0,om,j0,om,hne,hw.1,hw.2.1,in_Sx i0 om ha hw.1,in_Sx j0 om hcc hw.2.1,?_⟩
 unfold Tx;rw[Wj];simp only[pr9,W1,Wag,or_false]at hd
 have q67:∀ d,d=6∨d=17→(e=0∨(d≠6∧d≠17∧(d=1→e=8∨e=9)))→(f=0∨(d=6∨d=17→(d,f)∈QX x))→(d,e,f)∈([(0,0,0),(2,0,0),(7,0,0),(18,0,0),(50,0,0),(51,0,0),(1,0,8),(1,9,8),(6,0,0),(17,0,0)]:List (Int×Int×Int))∨(d,e,f)∈(QX x).map λz=>(z.1,0,z.2):=by
  simp_all
 rcases Zahk hi with h|h|⟨h1,h2,h3⟩|⟨h1,h2,h3,h4,h5⟩
 exact q67 d (.inl h) he hf;exact q67 d (.inr h) he hf;subst h1 h2
 rcases he with he|he
 subst he;exact .inl dC
 have:e=9:=by have:=he.2.2 rfl;omega
 subst this;exact .inl dC
 grind
def crn_UF {T:Zb} (hT:XOk T) {x:Zs} {l:List Bx} (hg:GS (KXI x) l) (hr:RS T l) {i:Int} (i0:0≤i) (i1:i<5) (hs:∀ q,vP tops5 q→mem l q=true→inR (q.getD 0 0) (sr i)=true) {b:Bx} (hb:b∈l):crn b∈UF x i:=by
 obtain⟨a,c,d,e,f,i',j,hq,a1,a2,a3,a4,hne,h1,h2,h3,h4,h5⟩:=Zaaa hT hg hr hb;have g:=crn_in hg.v hb;have k:=hs _ g.1 g.2.1;rw[hq]at k;have e:=Zxd i0 i1 a1 a2 k h1;subst e;rw[hq];exact U3_mem h3 (in_Dx a3 a4 (λh=>hne h.symm) h4) h5
def crn_UT {T:Zb} (hT:XOk T) {x:Zs} {l:List Bx} (hg:GS (KXI x) l) (hr:RS T l) {j:Int} (j0:0≤j) (j1:j<5) (hs:∀ q,vP tops5 q→mem l q=true→inR (q.getD 1 0) (sr j)=true) {b:Bx} (hb:b∈l):crn b∈UT x j:=by
 obtain⟨a,c,d,e,f,i',j',hq,a1,a2,a3,a4,hne,h1,h2,h3,h4,h5⟩:=Zaaa hT hg hr hb;have g:=crn_in hg.v hb;have k:=hs _ g.1 g.2.1;rw[hq]at k;have e:=Zxd j0 j1 a3 a4 k h2;subst e;rw[hq];exact U3_mem (in_Dx a1 a2 hne h3) h4 h5
def len_UF {T:Zb} (hT:XOk T) {x:Zs} (hx:IOk T x) {l:List Bx} (hg:GS (KXI x) l) (hr:RS T l) {i:Int} (i0:0≤i) (i1:i<5) (hs:∀ q,vP tops5 q→mem l q=true→inR (q.getD 0 0) (sr i)=true):l.length≤1584:=by
 have h:=Wb5 (crn_nd hg.v) (l₂:=UF x i) λq hq=>by
  obtain⟨b,hb,rfl⟩:=W9.1 hq;exact crn_UF hT hg hr i0 i1 hs hb
 rw[Wt]at h;have:=UF_len hx i0 i1;omega
structure PrOk (T:Zb) (x:Zs) (i j:Int) (l:List Bx):Prop where
 g:GS (KXI x) l
 r:RS T l
 m:∀ q,vP tops5 q→mem l q=true→mem [wh i j] q=true
def PoG.po {T:Zb} {x:Zs} {p:Zaa} (h:PoG (GR T x) p):PoOk p:=h.mono λ_ g=>g.g.v
def PairE {T:Zb} (hT:XOk T) {x:Zs} {p:Zaa} (hp:PoG (GR T x) p) {i j:Int} (i0:0≤i) (i1:i<T.Edges.length) (j0:0≤j) (j1:j<T.Edges.length):Ok (Znc T p i j) λr=>r.1≠[]→i≠j∧PrOk T x i j r.1:=by
 have e1:=hT.e1
 refine Wa (Zkx hT) λv _=>Wi (λ_=>Wb λh=>absurd rfl h) λ_=>Lf (Lf (Lf (Wi (λ_=>Wb λh=>absurd rfl h) λh=>?_)))
 refine Wi (λ_=>Wb λh=>absurd rfl h) λhne=>?_
 rw[Ztd hT i0 i1 j0 j1]
 have hb:∀ y∈[wh i j],BOk y:=λy hy=>by rw[Wl.1 hy];exact wh_ok i j
 have u:=sr_ct i0 om x;have w:=sr_ct j0 om x
 refine Lf (Wa (In_g hp.a.g sM (λy hy=>(hb y hy).bin) (by rw[flt_vB hb];exact KX_box ⟨u.lo,u.hi⟩ ⟨w.lo,w.hi⟩ ⟨.inl rfl,.inl rfl⟩ (.inl rfl) (.inl rfl))) λr hr=>Wb λ_=>⟨gD,hr.1,λq hq hm=>hp.a.r q hq (hr.2 q hq hm).1,λq hq hm=>?_⟩)
 have g:=(hr.2 q hq hm).2
 rwa [flt_vB hb]at g
def Zaez {b:Bx} (hb:BOk b) (r:Bool):Ok (Zrq b r) λ_=>True:=by
 have hf:=Z6
 have L:∀ n v i,0≤i→i≤5→(5-i).toNat<n→Ok (Zr9 b r n v i) λ_=>True:=by
  intro n
  induction n with
  |zero=>omega
  |succ n ih=>
   intro v i h0 h1 hn
   refine Lf (Wi (λh=>?_) λ_=>Wb trivial)
   simp at h
   rw[Zaf2 hb h0 h.1,wi (i+1) om om]
   grind
 exact Wa (Zyi b) λv _=>Wi (λ_=>Wb trivial) λ_=>Wa (L fuel _ 0 om om om) λv _=>Wb trivial
def Sum_ok {l:List Bx} (hl:l.length≤1000000) (hb:∀ x∈l,BOk x) (r:Bool):Ok (Zso l r) λ_=>True:=by
 have hf:=Z6
 have L:∀ n (v i:Int),0≤i→i≤l.length→(l.length-i).toNat<n→Ok (Zpl l r n v i) λ_=>True:=by
  intro n
  induction n with
  |zero=>omega
  |succ n ih=>
   intro v i h0 h1 hn;unfold Zpl;rw[wi (i+1) om om]
   exact Wx (λhc=>Ix h0 hc λx hx=>Wa (Zaez (hb x hx) r) λv _=>ih _ _ om om om) λ_=>Wb trivial
 unfold Zso
 grind
structure PlOk (T:Zb) (y:Zs) (x:Zaj):Prop where
 f0:0≤x.From
 f1:x.From<T.Edges.length
 t0:0≤x.To
 t1:x.To<T.Edges.length
 ne:x.From≠x.To
 s:PrOk T y x.From x.To x.Allow
def Zaab {T:Zb} (hT:XOk T) {y:Zs} {x:Zaj} (hx:PlOk T y x) {l:List Int} (hl:l.length=T.Devices.length):Ok (Znd T l x) λr=>r.length=T.Devices.length:=by
 have hlim:=lim_eq;have d1:=hT.d1;have hs:=hx.s.g.v;have hsl:=hs.len;unfold Znd;rw[Ztd hT hx.f0 hx.f1 hx.t0 hx.t1]
 refine Ap gD (Ix hx.f0 hx.f1 λa ha=>Ix hx.t0 hx.t1 λb hb=>?_)
 have ea:=hT.edev ha;have eb:=hT.edev hb
 refine Wa (p:=λo:Int×Int=>(0≤o.1∧o.1<T.Devices.length)∧0≤o.2∧o.2<T.Devices.length) (Wi (λ_=>Wb ⟨eb,ea⟩) λ_=>Wb ⟨ea,eb⟩) λ⟨u,v⟩ ⟨g1,g2⟩=>?_
 rw[Wb4]
 refine Ix g1.1 om λc _=>Ix g1.1 g1.2 λd _=>Wa (Sum_ok om hs.ok _) λn _=>Ix g1.1 om λ_ _=>Ix g2.1 gD λe _=>Lf (Ix g2.1 g2.2 λf _=>Wa (Zaez (wh_ok _ _) _) λn _=>Ix g2.1 gD λ_ _=>Wb gD)
def Zae0 {T:Zb} (hT:XOk T) {l:List Int} (hl:l.length=T.Devices.length):Ok (Zqp T l) λ_=>True:=by
 have d1:=hT.d1
 refine Wa (LC (Q:=λ_=>True) (m:=l.length) om om (λn i i0 i1 ih=>?_) λn=>?_) λo _=>?_
 unfold Zne;rw[wi (i+1) om om]
 exact Wx (λ_=>Ix i0 i1 λx _=>Ix i0 om λy _=>Wi (λ_=>Wb trivial) λ_=>ih) λ_=>Wb trivial
 unfold Zne
 exact Wx gD λ_=>Wb trivial
 rcases o with o|o<;>exact Wb trivial
def pc (x:Zaj):Int:=5*x.From+x.To
structure LPl (T:Zb) (y:Zs) (w:List Zaj) (m:Int):Prop where
 x:∀ x,x∈w→PlOk T y x
 o:(w.map pc).Pairwise (·<·)
 b:∀ x,x∈w→pc x<m
 l:w.length≤m
def LPl.nil {T:Zb} {y:Zs}:LPl T y [] 0:=⟨sM,sM,sM,sM⟩
def LPl.mono {T:Zb} {y:Zs} {w:List Zaj} {m n:Int} (h:LPl T y w m) (k:m≤n):LPl T y w n:=⟨h.x,h.o,λx hx=>by have:=h.b x hx;omega,by have:=h.l;omega⟩
def LPl.snoc {T:Zb} {y:Zs} {w:List Zaj} {m:Int} (h:LPl T y w m) {x:Zaj} (hx:PlOk T y x) (e:pc x=m):LPl T y (w++[x]) (m+1):=by
 refine⟨λz hz=>?_,?_,λz hz=>?_,by have:=h.l;grind⟩
 rcases Wj.1 hz with k|k
 exact h.x z k;rw[Wl.1 k];exact hx;rw[Wat]
 exact Z3j h.o λi hi=>by
  obtain⟨z,hz,rfl⟩:=W9.1 hi;rw[e];exact h.b z hz
 rcases Wj.1 hz with k|k
 have:=h.b z k;omega
 grind
def Zadv {T:Zb} (hT:XOk T) {y:Zs} {p:Zaa} (hp:PoG (GR T y) p) {i:Int} (i0:0≤i) (i1:i<T.Edges.length) (n:Nat):∀ w e s (j:Int),0≤j→j≤T.Edges.length→LPl T y w (5*i+j)→s.length=T.Devices.length→(T.Edges.length-j).toNat<n→Ok (Zl4 T p i n w e s j) λo=>match o with|.inl r=>LPl T y r.1 (5*i+5)∧r.2.2.length=T.Devices.length|.inr r=>r.1=[]:=by
 have hlim:=lim_eq;have e1:=hT.e1
 induction n with
 |zero=>omega
 |succ n ih=>
  intro w e s j h0 h1 hw hs hn;have hwl:=hw.l;unfold Zl4;rw[wi (j+1) om om]
  refine Wx (λhc=>?_) λ_=>Wb ⟨hw.mono om,hs⟩
  refine Wa (p:=λo=>match o with|.inl r=>LPl T y r.1 (5*i+(j+1))∧r.2.2.length=T.Devices.length|.inr r=>r.1=[]) ?_ λo ho=>?_
  refine Wa (PairE hT hp i0 i1 h0 hc) λ⟨S,e2⟩ hS=>Wi (λ_=>Wb rfl) λhe=>Lf (Wi (λ_=>Wb ⟨hw.mono om,hs⟩) λhz=>?_)
  have hS:=hS gD
  have q:∀ b ,PlOk T y ⟨i,j,b,S⟩:=λb=>⟨i0,i1,h0,hc,hS.1,hS.2⟩
  refine Wa (Zaab hT (q false) hs) λc hc1=>?_
  refine Wa (p:=λo=>(∃ b,o.1=⟨i,j,b,S⟩)∧o.2.length=T.Devices.length) (Wa (Zae0 hT hc1) λv _=>Wi (λ_=>Wa (Zaab hT (q true) hs) λc hc2=>Wb ⟨⟨true,rfl⟩,hc2⟩) λ_=>Wb ⟨⟨false,rfl⟩,hc1⟩) λ⟨x,c2⟩ ⟨⟨b,hx⟩,h2⟩=>?_
  subst hx
  exact Wa (Zae0 hT h2) λv _=>Wi (λ_=>Wb ⟨hw.mono om,hs⟩) λ_=>Ap gD (Wb ⟨(hw.snoc (q b) rfl).mono om,h2⟩)
  rcases o with o|o
  exact ih _ _ _ _ om om ho.1 ho.2 om;exact Wb ho
def Zadw {T:Zb} (hT:XOk T) {y:Zs} {p:Zaa} (hp:PoG (GR T y) p) (n:Nat):∀ w z e s (i:Int),0≤i→i≤T.Edges.length→LPl T y w (5*i)→s.length=T.Devices.length→(T.Edges.length-i).toNat<n→Ok (Zl5 T p n w z e s i) λo=>match o with|.inl r=>LPl T y r.1 25|.inr r=>r.1=[]:=by
 have hf:=Z6;have e1:=hT.e1
 induction n with
 |zero=>omega
 |succ n ih=>
  intro w z e s i h0 h1 hw hs hn;unfold Zl5;rw[wi (i+1) om om]
  refine Wx (λhc=>Wa (Zadv hT hp h0 hc fuel w e s 0 om om (hw.mono om) hs om) λo ho=>?_) λ_=>Wb (hw.mono om)
  rcases o with o|o
  exact ih _ _ _ _ _ om om (ho.1.mono om) ho.2 om;exact Wb ho
def Zaip {T:Zb} (hT:XOk T) {y:Zs} {p:Zaa} (hp:PoG (GR T y) p):Ok (Zs0 T p) λr=>LPl T y r.1 25:=by
 have hf:=Z6;have hlim:=lim_eq;have d1:=hT.d1;have e1:=hT.e1;have nil25:LPl T y [] 25:=LPl.nil.mono om
 refine Wa (Z72 hT hp.po) λv _=>Wi (λ_=>Wb nil25) λ_=>Waf om (Wa (Zadw hT hp fuel [] _ 0 _ 0 om om LPl.nil sM om) λo ho=>?_)
 rcases o with⟨a,b,c⟩|⟨a,b⟩
 exact Wi (λ_=>Wb nil25) λ_=>Wb ho
 subst ho;exact Wb nil25
def mi (e:Int) (g:Bool) (x:Zaj):Bool:=(if g=true then x.To else x.From)==e
def mW (e:Int) (g:Bool) (w:List Zaj):List Bx:=(w.filter (mi e g)).flatMap (·.Allow)
def Zakb (e:Int) (g:Bool) (w:List Zaj) (x:Zaj):mW e g (w++[x])=mW e g w++if mi e g x=true then x.Allow else[]:=by
 unfold mW
 grind
def crn_wh {T:Zb} {y:Zs} {i j:Int} {l:List Bx} (h:PrOk T y i j l) {b:Bx} (hb:b∈l):inR ((crn b).getD 0 0) (sr i)=true∧inR ((crn b).getD 1 0) (sr j)=true:=by
 have g:=crn_in h.g.v hb;have k:=h.m _ g.1 g.2.1;obtain⟨a,c,d,e,f,hq⟩:=fiveP g.1;rw[hq]at k⊢;rw[mem1]at k
 simp at k
 exact⟨k.1,k.2.1⟩
def PrOk.s0 {T:Zb} {y:Zs} {i j:Int} {l:List Bx} (h:PrOk T y i j l):∀ q,vP tops5 q→mem l q=true→inR (q.getD 0 0) (sr i)=true∧inR (q.getD 1 0) (sr j)=true:=by
 intro q hq hm;have k:=h.m q hq hm;obtain⟨a,c,d,e,f,rfl⟩:=fiveP hq;rw[mem1]at k
 simp at k
 exact⟨k.1,k.2.1⟩
def mW_len {T:Zb} (hT:XOk T) {y:Zs} (hy:IOk T y) {w:List Zaj} {m:Int} (hw:LPl T y w m) {e:Int} (e0:0≤e) (e1:e<T.Edges.length) (g:Bool):(mW e g w).length≤1584:=by
 have h5:=hT.e1
 have nd:((mW e g w).map crn).Nodup:=by
  unfold mW;rw[List.map_flatMap];unfold List.Nodup;rw[List.pairwise_flatMap]
  refine⟨λx hx=>crn_nd (hw.x x (Wab.1 hx).1).s.g.v,?_⟩
  have o:=hw.o;rw[Wdu]at o
  refine Weu ?_ (o.filter _)
  intro x z hx hz hlt u hu v hv huv;obtain⟨b,hb,rfl⟩:=W9.1 hu;obtain⟨c,hc,rfl⟩:=W9.1 hv;obtain⟨hx1,hx2⟩:=Wab.1 hx;obtain⟨hz1,hz2⟩:=Wab.1 hz;have px:=hw.x x hx1;have pz:=hw.x z hz1;have kb:=crn_wh px.s hb;have kc:=crn_wh pz.s hc;rw[huv]at kb;have a1:=Zxd px.f0 (by have:=px.f1;omega) pz.f0 (by have:=pz.f1;omega) kb.1 kc.1;have a2:=Zxd px.t0 (by have:=px.t1;omega) pz.t0 (by have:=pz.t1;omega) kb.2 kc.2
  unfold pc at hlt
  omega
 cases g
 have h:=Wb5 nd (l₂:=UF y e) λq hq=>by
  obtain⟨b,hb,rfl⟩:=W9.1 hq;obtain⟨x,hx,hb⟩:=Waq.1 hb;obtain⟨hx1,hx2⟩:=Wab.1 hx;have p:=hw.x x hx1
  have ee:=by simpa [mi]using hx2
  exact crn_UF hT p.s.g p.s.r e0 om (λq hq hm=>by rw[←ee];exact(p.s.s0 q hq hm).1) hb
 rw[Wt]at h;have:=UF_len hy e0 om;omega
 have h:=Wb5 nd (l₂:=UT y e) λq hq=>by
  obtain⟨b,hb,rfl⟩:=W9.1 hq;obtain⟨x,hx,hb⟩:=Waq.1 hb;obtain⟨hx1,hx2⟩:=Wab.1 hx;have p:=hw.x x hx1
  have ee:=by simpa [mi]using hx2
  exact crn_UT hT p.s.g p.s.r e0 om (λq hq hm=>by rw[←ee];exact(p.s.s0 q hq hm).2) hb
 rw[Wt]at h;have:=UT_len hy e0 om;omega
def RlOk (l:List Zal):Prop:=∀ r,r∈l→BOk r.Match
def Of8_ok {l:List Bx} (hl:l.length≤1000000) (hb:∀ x∈l,BOk x):Ok (Zwg l) λr=>r.length=l.length∧RlOk r:=by
 have hf:=Z6;have hlim:=lim_eq
 have L:∀ n w (i:Int),0≤i→i≤l.length→w.length=i→RlOk w→(l.length-i).toNat<n→Ok (Zqq l n w i) λr=>r.length=l.length∧RlOk r:=by
  intro n
  induction n with
  |zero=>grind
  |succ n ih=>
   intro w i h0 h1 hw hr hn;unfold Zqq;rw[wi (i+1) om om]
   refine Wx (λhc=>Ix h0 hc λx hx=>Ap gD (ih _ _ om om gD (λr h=>?_) om)) λ_=>Wb ⟨om,hr⟩
   rcases Wj.1 h with h|h
   exact hr r h
   grind
 exact Wa (L fuel [] 0 om om rfl (λ_ h=>(by cases h)) om) λv hv=>Wb hv
def Zacv {T:Zb} (hT:XOk T) {y:Zs} (hy:IOk T y) {w:List Zaj} (hw:LPl T y w 25) {e:Int} (e0:0≤e) (e1:e<T.Edges.length) (g:Bool):Ok (Zpm T w e g) λr=>r.length≤1609∧RlOk r:=by
 have hf:=Z6;have hlim:=lim_eq;have hwl:=hw.l;have hm:=mW_len hT hy hw e0 e1 g
 have pre:∀ i:Nat,(mW e g (w.take i)).length≤1584:=λi=>by
  have:mW e g w=mW e g (w.take i)++mW e g (w.drop i):=by
   unfold mW;rw[←List.flatMap_append,←List.filter_append,Waz]
  grind
 have L:∀(n:Nat) v i,i≤w.length→v.length≤(mW e g (w.take i)).length+i→RlOk v→w.length-i<n→Ok (Zl6 T w e g n v i) λr=>r.length≤1609∧RlOk r:=by
  intro n
  induction n with
  |zero=>omega
  |succ n ih=>
   intro v i h1 hv hr hn;have p:=pre i;unfold Zl6;rw[wi (i+1) om om]
   refine Wx (λhc=>?_) λhc=>Wb ⟨om,hr⟩
   have hi:i<w.length:=om
   have hx:=hw.x w[i] (Wv hi);have hxl:=hx.s.g.v.len
   have et:mW e g (w.take (i+1))=mW e g (w.take i)++if mi e g w[i]=true then(w[i]).Allow else[]:=by
    rw[Wbm,Wr hi];exact Zakb e g _ _
   refine Wa (p:=λv2=>v2.length≤(mW e g (w.take (i+1))).length+(i+1)∧RlOk v2) ?_ λv2 hv2=>ih v2 (i+1) om hv2.1 hv2.2 om
   rw[Zaq hi]
   refine Lf (Wa (p:=λz=>z=if g=true then(w[i]).To else(w[i]).From) (Wi (λh=>Lf (Wb gD)) λh=>Wb gD) λz hz=>Wi (λ_=>Wb ⟨gD,hr⟩) λhne=>?_)
   have hmi:mi e g w[i]=true:=by
    unfold mi
    grind
   refine Lf (Wi (λ_=>Lf (Wa (Of8_ok om hx.s.g.v.ok) λs hs=>Ap om (Wb ⟨gD,λr h=>?_⟩))) λ_=>Lf (Lf ?_))
   rcases Wj.1 h with h|h
   exact hr r h;exact hs.2 r h;rw[Ztd hT hx.f0 hx.f1 hx.t0 hx.t1]
   refine Lf (Ap sO (Wb ⟨gD,λr h=>?_⟩))
   rcases Wj.1 h with h|h
   exact hr r h;rw[Wl.1 h];exact wh_ok _ _
 exact Wa (L fuel [] 0 om sM (λ_ h=>(by cases h)) om) λv hv=>Wb hv
def nonec:ByteArray:=⟨#[110,111,110,101]⟩
structure StrOk (s:Zak):Prop where
 m:BOk s.Match
 c:s.Class=ips∨s.Class=dlp∨s.Class=nonec
def PIg.cls2 {G:List Bx→Prop} {l:List Z7} (h:PIg G l) {x:Z7} (hx:x∈l):x.Class=ips∨x.Class=dlp∨x.Class=nonec:=by
 have g:x.Class∈l.map (·.Class):=W9.2 ⟨x,hx,rfl⟩;have c:=h.c
 unfold C4 at c
 grind
def Zahl {T:Zb} (hT:XOk T) {y:Zs} (hy:IOk T y) {p:Zaa} (hp:PoG (GR T y) p) {e:Int} (e0:0≤e) (e1:e<T.Edges.length):Ok (Zn9 T p e) λr=>r.1.length≤3168∧∀ s,s∈r.1→StrOk s:=by
 have hf:=Z6;have hlim:=lim_eq;have h5:=hT.e1;have hl:=hp.i.len;have u:=sr_ct e0 om y
 have L2:∀(i:Int) (r:List Bx) (c:Int),0≤i→i<p.Inspect.length→(∀ b∈r,BOk b)→r.length≤1584→∀(n:Nat) (w:List Zak) (b:Int),b≤10000→∀(k:Int),0≤k→k≤r.length→w.length≤b+k→(∀ s,s∈w→StrOk s)→(r.length-k).toNat<n→Ok (Zkf p i (r,c) n w k) λv=>v.length≤b+1584∧∀ s,s∈v→StrOk s:=by
  intro i r c i0 i1 hr hrl n
  induction n with
  |zero=>intro w b _ k _ _ _ _ h;omega
  |succ n ih=>
   intro w b hb k k0 k1 hw hs hn;unfold Zkf;rw[wi (k+1) om om]
   refine Wx (λhc=>Ix k0 hc λx hx=>Ix i0 i1 λz hz=>Ap sO (ih _ b hb _ om (by dsimp only at hc;omega) sO (λs h=>?_) (by dsimp only at hc;omega))) λ_=>Wb ⟨om,hs⟩
   rcases Wj.1 h with h|h
   exact hs s h;rw[Wl.1 h];exact⟨hr x hx,hp.i.cls2 hz⟩
 have fb:BOk ⟨sr e,full.x1,full.x2,full.x3,full.x4⟩:=⟨sr_ok e,Zmv.h1,Zmv.h2,Zmv.h3,Zmv.h4⟩
 have hfb:∀ b∈[({full with x0:=sr e}:Bx)],BOk b:=λb hb=>by rw[Wl.1 hb];exact fb
 have L1:∀(n:Nat) (w:List Zak) (i:Int),0≤i→i≤p.Inspect.length→w.length≤1584*i→(∀ s,s∈w→StrOk s)→(p.Inspect.length-i).toNat<n→Ok (Zkg p n w {full with x0:=sr e} i) λo=>match o with|.inl v=>v.1.length≤3168∧∀ s,s∈v.1→StrOk s|.inr v=>v.1=[]:=by
  intro n
  induction n with
  |zero=>intro w i _ _ _ _ h;omega
  |succ n ih=>
   intro w i h0 h1 hw hs hn;unfold Zkg;rw[wi (i+1) om om]
   refine Wx (λhc=>Ix h0 hc λx hx=>?_) λ_=>Wb ⟨by dsimp only;omega,hs⟩
   have hg:=hp.i.s x hx
   refine Wa (In_g hg.g sM (λb hb=>(hfb b hb).bin) (by rw[flt_vB hfb];exact KX_box ⟨u.lo,u.hi⟩ ⟨.inl rfl,.inl rfl⟩ ⟨.inl rfl,.inl rfl⟩ (.inl rfl) (.inl rfl))) λ⟨r,c⟩ hr=>Wi (λ_=>Wb rfl) λ_=>?_
   have hrl:r.length≤1584:=len_UF hT hy hr.1 (λq hq hm=>hg.r q hq (hr.2 q hq hm).1) e0 om λq hq hm=>by
    have k:=(hr.2 q hq hm).2;rw[flt_vB hfb]at k;obtain⟨a,c,d,e,f,rfl⟩:=fiveP hq;rw[mem1]at k
    grind
   exact Wa (L2 i r c h0 hc hr.1.v.ok hrl fuel w (1584*i) om 0 om om om hs om) λv hv=>ih _ _ om om (by have:=hv.1;omega) hv.2 om
 unfold Zn9;rw[Z8v,Ztd hT e0 e1 e0 e1]
 refine Lf (Lf (Wa (L1 fuel [] 0 om om sM (λ_ h=>(by cases h)) om) λo ho=>?_))
 rcases o with⟨o,b⟩|⟨o,c⟩
 exact Wi gD λ_=>Wb ho
 dsimp only at ho
 subst ho;exact Wb ⟨sM,λ_ h=>(by cases h)⟩
structure MvG (v:Z9):Prop where
 f:BOk v.From
 t:BOk v.To
 d:v.From.x1=⟨3405803781,3405803781⟩
 s:Zjz v=some true
 v:Zhw v=some true
def rk {t a b:Int} (h0:0≤a) (h1:a≤b) (h2:b≤t):ROk t ⟨a,b⟩:=⟨h0,h1,h2⟩
def MvG.of {a b p q k:Int} (ha:a=6∨a=17) (b0:0≤b) (b1:b≤4294967295) (p0:0≤p) (p1:p+k≤65535) (q0:0≤q) (q1:q+k≤65535) (k0:0≤k):MvG ⟨⟨⟨0,4294967295⟩,⟨3405803781,3405803781⟩,⟨a,a⟩,⟨0,65535⟩,⟨p,p+k⟩⟩,⟨⟨0,4294967295⟩,⟨b,b⟩,⟨a,a⟩,⟨0,65535⟩,⟨q,q+k⟩⟩⟩:=by
 have f:BOk ⟨⟨0,4294967295⟩,⟨3405803781,3405803781⟩,⟨a,a⟩,⟨0,65535⟩,⟨p,p+k⟩⟩:=⟨rk om om om,rk om om om,rk om om om,rk om om om,rk om om om⟩;have t:BOk ⟨⟨0,4294967295⟩,⟨b,b⟩,⟨a,a⟩,⟨0,65535⟩,⟨q,q+k⟩⟩:=⟨rk om om om,rk om om om,rk om om om,rk om om om,rk om om om⟩
 refine⟨f,t,rfl,?_,?_⟩
 rcases ha with rfl|rfl<;>rfl
 rw[Z1l];unfold vM;rw[ok_vB f,ok_vB t];unfold allF difM;simp[Arr5.get,show p+k-p=k by omega,show q+k-q=k by omega]
def Mv1 (l:List Z9):Prop:=l=[]∨∃ v,l=[v]∧MvG v
def Zaf3 {T:Zb} (hT:XOk T) {m:Int} {x:Zs} (h:IntOk T m x) (e:Int):Ok (Zrc T x e) Mv1:=by
 have hf:=Z6;have hlim:=lim_eq;have pl:=h.pl
 have L:∀ n w (i:Int),0≤i→i≤x.Published.length→w.length≤i→Mv1 w→(x.Published.length-i).toNat<n→Ok (Zje T x e n w i) Mv1:=by
  intro n
  induction n with
  |zero=>grind
  |succ n ih=>
   intro w i h0 h1 hw hm hn;unfold Zje;rw[wi (i+1) om om]
   refine Wx (λhc=>Wa (p:=λv=>v.length≤i+1∧Mv1 v) ?_ λv hv=>ih _ _ om om hv.1 hv.2 om) λ_=>Wb hm
   refine Ix h0 hc λu hu=>Wa (Zjr T _ hT.sk (h.p u hu).sk.2.2.2.1) λr _=>Wi (λ_=>?_) λ_=>Wb ⟨om,hm⟩
   have g:=h.p u hu;have gp:=g.proto;have g0:=g.p0;have g1:=g.p1;have gr0:=g.r0;have gr1:=g.r1;have gs:=g.sk.2.2.2.2.1
   have hw0:w=[]:=by
    rcases w with _|⟨a,w⟩
    rfl
    grind
   subst hw0;unfold Zn8;rw[Z8v];simp only[Wc];rw[wu32 (x:=u.Proto) om om,wu32 (x:=u.Port) om om,wu32 (x:=u.RealPort) om om,g.addr]
   refine Ap gD (Wb ⟨gD,.inr ⟨_,rfl,?_⟩⟩)
   have:=MvG.of (a:=u.Proto) (b:=u.Real) (p:=u.Port) (q:=u.RealPort) (k:=0) gp gs.1 om g0 om gr0 om om;rw[Int.add_zero,Int.add_zero]at this;exact this
 exact Wa (L fuel [] 0 om om sM (.inl rfl) om) λv hv=>Wb hv
structure PtOk (n:Nat) (p:Zw):Prop where
 i:RlOk p.Ingress
 il:p.Ingress.length+2*n≤4096
 e:RlOk p.Egress
 el:p.Egress.length+2*n≤4096
 m:Mv1 p.Moves
 h:∀ y,y∈p.Hides→HIn y
 hl:p.Hides.length≤256
 s:∀ s,s∈p.Steers→StrOk s
 sl:p.Steers.length+n≤4096
def PtOk.less {n:Nat} {p:Zw} (h:PtOk (n+1) p):PtOk n p:=⟨h.i,by have:=h.il;omega,h.e,by have:=h.el;omega,h.m,h.h,h.hl,h.s,by have:=h.sl;omega⟩
def el (T:Zb) (d:Int) (k:Nat):List Int:=List.map (λe:Nat=>Int.ofNat e) ((List.range k).filter λe:Nat=>decide ((T.Edges[e]?.map (·.Device))=some d))
def Z9a (T:Zb) (d:Int) {k:Nat} (hk:k<T.Edges.length):el T d (k+1)=if(T.Edges[k]).Device=d then el T d k++[(k:Int)]else el T d k:=by
 unfold el;rw[List.range_succ]
 grind
def el_len (T:Zb) (d:Int) (k:Nat):(el T d k).length≤k:=by
 unfold el
 grind
structure CfOk (n:Nat) (T:Zb) (k:Nat) (l:List Zo):Prop where
 len:l.length=T.Devices.length
 p:∀(d:Nat) c,l[d]? = some c→(∀ p,p∈c.Ports→PtOk n p)∧c.Ports.map (·.Edge)=el T (d:Int) k
def Wid:=@List.getElem?_replicate
def CfOk.nil (n:Nat) (T:Zb):CfOk n T 0 (List.replicate T.Devices.length Zej):=by
 refine⟨sM,λd c h=>?_⟩
 rw[Wid]at h
 split at h
 cases h;exact⟨λp hp=>((by cases hp)),rfl⟩;cases h
def Wew:=@List.getElem?_set
def CfOk.put {n:Nat} {T:Zb} {k:Nat} {l:List Zo} (h:CfOk n T k l) (hk:k<T.Edges.length) {p:Zw} (hp:PtOk n p) (he:p.Edge=k) {d:Nat} (hd:(T.Edges[k]).Device=d) {c:Zo} (hc:l[d]? = some c):CfOk n T (k+1) (l.set d {c with Ports:=c.Ports++[p]}):=by
 refine⟨by rw[Wa9];exact h.len,λj b hb=>?_⟩
 rw[Wew]at hb
 split at hb
 rename_i hj;subst hj
 split at hb
 cases hb;have g:=h.p d c hc
 refine⟨λq hq=>?_,?_⟩
 rcases Wj.1 hq with hq|hq
 exact g.1 q hq;rw[Wl.1 hq];exact hp;rw[Z9a T _ hk,if_pos hd,←g.2,Wat,List.map_singleton,he];cases hb;rename_i hj;have g:=h.p j b hb
 refine⟨g.1,?_⟩
 rw[Z9a T _ hk,if_neg gD]
 grind
def Zaiq {T:Zb} (hT:XOk T) {m:Int} {x:Zs} (h:IntOk T m x) (hm:m≤1000) (a:Int):Ok (Zs1 T x a) λr=>r.2=0→CfOk 3 T T.Edges.length r.1:=by
 have hf:=Z6;have hlim:=lim_eq;have d1:=hT.d1;have e1:=hT.e1
 refine Wa (At_ok hT h hm a) λ⟨p,c⟩ hp=>Wi (λhc=>Wb λe=>gD) λ_=>Wa (Zafq hT h hm) λc19 h19=>Wi (λhc=>Wb λe=>gD) λhc19=>?_
 dsimp only at hp
 have h19:=h19 (by simpa using hc19)
 refine Wa (Zag9 hT hp.po) λr _=>Wi (λhc=>Wb λe=>gD) λ_=>Wa (Zaip hT hp) λ⟨w,c7⟩ hw=>Wi (λhc=>Wb λe=>gD) λ_=>Waf om ?_
 dsimp only at hw
 have L:∀(n:Nat) (l:List Zo) (i:Nat),i≤T.Edges.length→CfOk 3 T i l→T.Edges.length-i<n→Ok (Zl7 T x (p,c) (w,c7) n l (i:Int)) λo=>match o with|.inl v=>CfOk 3 T T.Edges.length v|.inr v=>v.2≠0:=by
  intro n
  induction n with
  |zero=>intro l i _ _ h;omega
  |succ n ih=>
   intro l i h1 hl hn;unfold Zl7;rw[wi ((i:Int)+1) om om]
   refine Wx (λhc=>?_) λhc=>?_
   have hi:i<T.Edges.length:=om
   refine Wa (Zacv hT h.i hw om hc false) λt1 ht1=>Wa (Zacv hT h.i hw om hc true) λt2 ht2=>Wa (Zaf3 hT h _) λmv hmv=>?_
   obtain⟨hd,ehd,hhd⟩:=Z7z hT h hm (i:Int);rw[ehd]
   refine Lf (Wa (Zahl hT h.i hp om hc) λ⟨s,cs⟩ hs=>Wi (λhz=>Wb (by simpa using hz)) λ_=>?_)
   rw[Zaq hi]
   refine Lf ?_
   have ed:=hT.edev (Wv hi)
   have hdn:((T.Edges[i]).Device.toNat:Int)=(T.Edges[i]).Device:=om
   have hdl:(T.Edges[i]).Device.toNat<l.length:=by rw[hl.len];omega
   have hx:idx l (T.Edges[i]).Device=some l[(T.Edges[i]).Device.toNat]:=by simp[AM.idx,ed.1,hdl]
   rw[hx];have hc2:=Wr hdl;have pl:=(hl.p _ _ hc2).2;have pl2:=el_len T (((T.Edges[i]).Device.toNat:Nat):Int) i;rw[←pl,Wt]at pl2
   refine Lf (Ap sO (ih _ (i+1) om (hl.put hi ⟨ht1.2,gD,ht2.2,gD,hmv,hhd.2,h19 (i:Int) om hc hd ehd,hs.2,gD⟩ rfl hdn.symm hc2) om))
   have:i=T.Edges.length:=om
   subst this;exact Wb hl
 have h0:=CfOk.nil 3 T
 refine Wa (L fuel _ 0 om h0 om) λo ho=>?_
 rcases o with o|o
 exact Wb λ_=>ho
 exact Wb λe=>absurd e ho
def Zr3 {t:Zc} (ht:TOk t) {T:Zb} (hT:XOk T):Ok (Zcp t T) λr=>BOk r.1∧TOk r.2:=by
 have e1:=hT.e1
 refine Wa (Box_ok ht) λ⟨b,u⟩ ⟨hb,hu⟩=>?_
 refine Wa (p:=λo=>TOk o.1∧BOk o.2) ?_ λ⟨u2,b2⟩ ⟨h1,h2⟩=>?_
 refine Lf (Wa (p:=λo=>TOk o.2∧(o.1=true→0<T.Edges.length)) (Wx (λh=>Nxt hu om om λr a0 a1 a2=>Wb ⟨a2,λ_=>om⟩) λ_=>Wb ⟨hu,λe=>(by cases e)⟩) λ⟨c,u3⟩ ⟨g1,g2⟩=>Wi (λh=>?_) λ_=>Wb ⟨g1,hb⟩)
 have hl:=g2 h
 refine Nxt g1 om om λr a0 a1 a2=>?_
 obtain⟨x,x1,_,x3⟩:=Of_sr hT a0 a1;rw[x1]
 refine Lf ?_
 rw[x3]
 refine Lf (Nxt a2 om om λs b0 b1 b2=>?_)
 obtain⟨y,y1,_,y3⟩:=Of_sr hT b0 b1;rw[y1]
 refine Lf ?_
 rw[y3];exact Lf (Wb ⟨b2,sr_ok _,sr_ok _,hb.h2,hb.h3,hb.h4⟩)
 refine Wa (p:=λo=>TOk o.1∧BOk o.2) ?_ λ⟨u3,b3⟩ ⟨k1,k2⟩=>Wb ⟨k2,k1⟩
 refine Nxt h1 om om λr a0 a1 a2=>Wi (λ_=>Nxt a2 om om λs b0 b1 b2=>Ix b0 gD λv hv=>Wb ⟨b2,h2.h0,h2.h1,?_,h2.h3,h2.h4⟩) λ_=>Wb ⟨a2,h2⟩
 simp at hv
 exact rk om om om
def RlOk.snoc {l:List Zal} (h:RlOk l) {r:Zal} (hr:BOk r.Match):RlOk (l++[r]):=λy hy=>by
 rcases Wj.1 hy with hy|hy
 exact h y hy
 grind
def RlOk.app {l m:List Zal} (h:RlOk l) (k:RlOk m):RlOk (l++m):=λy hy=>(Wj.1 hy).elim (h y) (k y)
def Zaac {t:Zc} (ht:TOk t) {T:Zb} (hT:XOk T) {m:Int} (m0:0≤m) (m1:m≤4):Ok (Zem t T m) λr=>(r.1.length≤m∧RlOk r.1)∧TOk r.2:=by
 have hf:=Z6;have hlim:=lim_eq
 have L:∀ n t w i,TOk t→0≤i→w.length+i≤m→RlOk w→i.toNat<n→Ok (Ze6 T n t w i) λo=>TOk o.1∧o.2.length≤m∧RlOk o.2:=by
  intro n
  induction n with
  |zero=>omega
  |succ n ih=>
   intro t w i ht h0 h1 hw hn;unfold Ze6;rw[wi (i-1) om om]
   exact Wx (λhc=>Wa (Zr3 ht hT) λb hb=>Nxt hb.2 om om λr a0 a1 a2=>Ap gD (ih _ _ _ a2 om gD (hw.snoc hb.1) om)) λ_=>Wb ⟨ht,gD,hw⟩
 unfold Zem;rw[wi (m+1) om om]
 exact Nxt ht om om λr a0 a1 a2=>Wa (L fuel _ [] _ a2 a0 gD (λ_ h=>(by cases h)) om) λ⟨u,v⟩ hv=>Wb ⟨hv.2,hv.1⟩
def Zyj {t:Zc} (ht:TOk t) {T:Zb} (hT:XOk T) {m:Int} (m0:0≤m) (m1:m≤4):Ok (Zdb t T m) λr=>(r.1.length≤m∧RlOk r.1)∧TOk r.2:=by
 have hf:=Z6;have hlim:=lim_eq
 have L:∀ n t w i,TOk t→0≤i→w.length+i≤m→RlOk w→i.toNat<n→Ok (Zgs T n t w i) λo=>TOk o.1∧o.2.length≤m∧RlOk o.2:=by
  intro n
  induction n with
  |zero=>grind
  |succ n ih=>
   intro t w i ht h0 h1 hw hn;unfold Zgs;rw[wi (i-1) om om]
   exact Wx (λhc=>Wa (Zr3 ht hT) λb hb=>Nxt hb.2 om om λr a0 a1 a2=>Ap gD (ih _ _ _ a2 om gD (hw.snoc hb.1) om)) λ_=>Wb ⟨ht,gD,hw⟩
 unfold Zdb;rw[wi (m+1) om om]
 exact Nxt ht om om λr a0 a1 a2=>Wa (L fuel _ [] _ a2 a0 gD (λ_ h=>(by cases h)) om) λ⟨u,v⟩ hv=>Wb ⟨hv.2,hv.1⟩
def Z9b {l:List Zo} (hl:l.length≤1000000) (hp:∀ c,c∈l→c.Ports.length≤1000000):Zcw l=some l:=by
 have hf:=Z6;have hlim:=lim_eq
 have L:∀ n k,k≤l.length→l.length-k<n→Zeh l n (l.take k) k=some l:=by
  intro n
  induction n with
  |zero=>omega
  |succ n ih=>
   intro k hk hn;unfold Zeh
   by_cases h:k<l.length
   have:=hp l[k] (Wv h);rw[if_pos gD,Zaq h,wi (k+1) om om];simp only[Wc];rw[if_pos gD,if_pos gD]
   have e:l.take k++[Zo.mk ([]++(l[k]).Ports)]=l.take (k+1):=by
    rw[Wbm,Wr h];rfl
   rw[e];exact ih (k+1) om om
   grind
 unfold Zcw;have:=L fuel 0 om om
 grind
def StrOk.cls3 {c:ByteArray} (h:c∈[⟨#[105,112,115]⟩,⟨#[100,108,112]⟩,⟨#[110,111,110,101]⟩]):c=ips∨c=dlp∨c=nonec:=by
 simp at h
 exact h
def Zahm {t:Zc} (ht:TOk t) {T:Zb} (hT:XOk T) {n:Nat} (hn:n≤10) {p:Zw} (hp:PtOk (n+1) p):Ok (Zpn t T p) λr=>(PtOk n r.1∧r.1.Edge=p.Edge)∧TOk r.2:=by
 have hlim:=lim_eq;have il:=hp.il;have el:=hp.el;have sl:=hp.sl;have hq:=hp.less
 refine Wa (p:=λo=>TOk o.1∧PtOk n o.2∧o.2.Edge=p.Edge) ?_ λ⟨u,q⟩ h=>Wb ⟨h.2,h.1⟩
 refine Nxt ht om om λr a0 a1 a2=>Wi (λ_=>?_) λ_=>Wi (λ_=>?_) λ_=>Wi (λ_=>?_) λ_=>Wi (λ_=>?_) λ_=>Wi (λ_=>?_) λ_=>Wi (λ_=>?_) λ_=>Wi (λ_=>?_) λ_=>?_
 exact Wa (Zaac a2 hT om om) λs hs=>Ap om (Wb ⟨hs.2,⟨hs.1.2.app hq.i,gD,hq.e,hq.el,hq.m,hq.h,hq.hl,hq.s,hq.sl⟩,rfl⟩)
 exact Wa (Zaac a2 hT om om) λs hs=>Ap om (Wb ⟨hs.2,⟨hq.i,hq.il,hs.1.2.app hq.e,gD,hq.m,hq.h,hq.hl,hq.s,hq.sl⟩,rfl⟩)
 refine Wx (λh=>Waf om (Wb ⟨a2,⟨λy hy=>hq.i y gD,gD,hq.e,hq.el,hq.m,hq.h,hq.hl,hq.s,hq.sl⟩,rfl⟩)) λ_=>Wb ⟨a2,hq,rfl⟩
 refine Wx (λh=>Waf om (Wb ⟨a2,⟨hq.i,hq.il,λy hy=>hq.e y gD,gD,hq.m,hq.h,hq.hl,hq.s,hq.sl⟩,rfl⟩)) λ_=>Wb ⟨a2,hq,rfl⟩
 exact Wa (Zr3 a2 hT) λb hb=>Wb ⟨hb.2,⟨λy hy=>gD,gD,hq.e,hq.el,hq.m,hq.h,hq.hl,hq.s,hq.sl⟩,rfl⟩
 refine Wa (Zr3 a2 hT) λb hb=>Nxt hb.2 om om λs b0 b1 b2=>Ix b0 gD λc hc=>Ap gD (Wb ⟨b2,⟨hq.i,hq.il,hq.e,hq.el,hq.m,hq.h,hq.hl,λy hy=>?_,gD⟩,rfl⟩)
 rcases W1.1 hy with hy|hy
 rw[hy];exact⟨hb.1,StrOk.cls3 hc⟩;exact hq.s y hy;exact Wb ⟨a2,⟨hq.i,hq.il,hq.e,hq.el,.inl rfl,hq.h,hq.hl,λy hy=>((by cases hy)),gD⟩,rfl⟩
 exact Wa (Zyj a2 hT om om) λs hs=>Wa (Zyj hs.2 hT om om) λv hv=>Wb ⟨hv.2,⟨hs.1.2,gD,hv.1.2,gD,hq.m,hq.h,hq.hl,hq.s,hq.sl⟩,rfl⟩
def CfOk.less {n:Nat} {T:Zb} {k:Nat} {l:List Zo} (h:CfOk (n+1) T k l):CfOk n T k l:=⟨h.len,λd c hc=>⟨λp hp=>((h.p d c hc).1 p hp).less,(h.p d c hc).2⟩⟩
def CfOk.zero:∀ {n:Nat} {T:Zb} {k:Nat} {l:List Zo},CfOk n T k l→CfOk 0 T k l
 |0,_,_,_,h=>h
 |_+1,_,_,_,h=>h.less.zero
def CfOk.pl {n:Nat} {T:Zb} {k:Nat} {l:List Zo} (h:CfOk n T k l) {d:Nat} {c:Zo} (hc:l[d]? = some c):c.Ports.length≤k:=by
 have:=el_len T d k;rw[←(h.p d c hc).2,Wt]at this;omega
def CfOk.mp {n:Nat} {T:Zb} {k:Nat} {l:List Zo} (h:CfOk n T k l) {c:Zo} (hc:c∈l):c.Ports.length≤k:=by
 obtain⟨d,hd,rfl⟩:=Wax hc;exact h.pl (Wr hd)
def CfOk.upd {n:Nat} {T:Zb} {k:Nat} {l:List Zo} (h:CfOk n T k l) {d:Nat} {c:Zo} (hc:l[d]? = some c) {i:Nat} {p q:Zw} (hp:c.Ports[i]? = some p) (hq:PtOk n q) (he:q.Edge=p.Edge):CfOk n T k (l.set d {c with Ports:=c.Ports.set i q}):=by
 refine⟨by rw[Wa9];exact h.len,λj b hb=>?_⟩
 rw[Wew]at hb
 split at hb
 rename_i hj;subst hj
 split at hb
 cases hb;have g:=h.p d c hc
 refine⟨λy hy=>?_,?_⟩
 rcases Wae hy with hy|hy
 exact g.1 y hy;rw[hy];exact hq;rw[←g.2];rw[Wdz];apply Wb1;intro j;rw[Wew];split;rename_i hji;subst hji;rw[Wba,hp];have:=(We.1 hp).1;simp[this,he];rfl;cases hb;exact h.p j b hb
def Zahn {t:Zc} (ht:TOk t) {T:Zb} (hT:XOk T) {l:List Zo} (hl:CfOk 3 T T.Edges.length l):Ok (Zkh t T l) λr=>CfOk 0 T T.Edges.length r.1∧TOk r.2:=by
 have hf:=Z6;have d0:=hT.d0;have d1:=hT.d1;have e1:=hT.e1
 have L:∀ n t l i,TOk t→CfOk i T T.Edges.length l→i≤3→i<n→Ok (Zmm T n t l i) λo=>TOk o.1∧CfOk 0 T T.Edges.length o.2:=by
  intro n
  induction n with
  |zero=>omega
  |succ n ih=>
   intro t l i ht hl h1 hn
   refine Wx (λhc=>?_) λhc=>?_
   obtain⟨j,rfl⟩:∃ j,i=j+1:=⟨i-1,om⟩;rw[wi _ om om,show(((j+1:Nat):Int)-1)=j by omega];have hlen:=hl.len
   refine Wa (p:=λo=>TOk o.1∧CfOk j T T.Edges.length o.2) ?_ λ⟨u,v⟩ h=>ih u v j h.1 h.2 om om
   refine Nxt ht om om λr a0 a1 a2=>Lf ?_
   have hd:r.1.toNat<l.length:=om
   have hc:=Wr hd;rw[idx_of a0 a1]
   refine Wa (p:=λv=>v=true→0<(l[r.1.toNat]).Ports.length) (Wi (λ_=>Lf (Wb λh=>gD)) λ_=>Wb λe=>(by cases e)) λv hv=>Wi (λh=>?_) λ_=>Wb ⟨a2,hl.less⟩
   have hpos:=hv h;have hpl:=hl.pl hc
   refine Lf (Nxt a2 om om λs b0 b1 b2=>Lf ?_)
   rw[idx_of b0 b1]
   have hs:s.1.toNat<(l[r.1.toNat]).Ports.length:=om
   refine Lf (Wa (Zahm b2 hT om ((hl.p _ _ hc).1 _ (Wv hs))) λq hq=>Lf (Wb ⟨hq.2,hl.less.upd hc gD hq.1.1 hq.1.2⟩))
   have:i=0:=om
   subst this;exact Wb ⟨ht,hl⟩
 unfold Zkh;rw[Z9b (by have:=hl.len;omega) (λc hc=>by have:=hl.mp hc;omega)]
 refine Lf (Nxt ht om om λr a0 a1 a2=>?_)
 rw[wi (1+r.1) om om,show 1+r.1=(1+r.1).toNat by omega]
 have hk:CfOk (1+r.1).toNat T T.Edges.length l:=by
  rcases(by omega:(1+r.1).toNat=1∨(1+r.1).toNat=2∨(1+r.1).toNat=3)with e|e|e<;>rw[e]
  exact hl.less.less;exact hl.less
  grind
 exact Wa (L fuel _ l _ a2 hk om om) λ⟨u,v⟩ h=>Wb ⟨h.2,h.1⟩
def Zacw {T:Zb} (hT:XOk T) (d:Int):Zc5 T d=some (el T d T.Edges.length):=by
 have hf:=Z6;have hlim:=lim_eq;have e1:=hT.e1
 have L:∀ n k,k≤T.Edges.length→T.Edges.length-k<n→Zc8 T d n (el T d k) k=some (el T d T.Edges.length):=by
  intro n
  induction n with
  |zero=>grind
  |succ n ih=>
   intro k hk hn;unfold Zc8
   by_cases h:k<T.Edges.length
   have:=el_len T d k;rw[if_pos gD,Zaq h,wi (k+1) om om];simp  [Wc];have e:=Z9a T d h
   by_cases hd:(T.Edges[k]).Device=d
   rw[if_pos hd]at e;rw[if_pos gD,if_pos gD,←e];exact ih (k+1) om om;rw[if_neg hd]at e;rw[if_neg gD,←e];exact ih (k+1) om om
   grind
 unfold Zc5;have:=L fuel 0 om om;rw[show el T d 0=[]from rfl]at this
 grind
theorem Zair:Zmt=some full:=rfl
def Zacx {t:Zc} (ht:TOk t) {T:Zb} (hT:XOk T):Ok (Zhp t T) λr=>MvG r.1∧TOk r.2:=by
 have e1:=hT.e1;unfold Zhp
 refine Lf (Lf (Nxt ht om om λr a0 a1 a2=>Ix a0 om λx hx=>?_))
 simp at hx
 refine Wa (p:=λo=>TOk o.1∧0≤o.2∧o.2≤4294967295) (Wx (λh=>Nxt a2 om om λs b0 b1 b2=>Ix b0 b1 λe he=>Wb ⟨b2,?_⟩) λ_=>Wb ⟨a2,gD,om⟩) λ⟨u,a⟩ ⟨g1,g2,g3⟩=>?_
 have:=(hT.sk_edge he).2.2.1.a;exact⟨this.1,om⟩
 refine Nxt g1 om om λs b0 b1 b2=>?_
 rw[wu32 (x:=s.1) om om,wu32 (x:=s.1*80) om om,wu32 (x:=s.1*80+1) om om];have:=MvG.of (a:=x) (b:=a) (p:=80) (q:=s.1*80) (k:=1) hx g2 g3 om om om om om;exact Wb ⟨this,b2⟩
structure OpOk (T:Zb) (d k:Nat) (l:List Zo):Prop where
 len:l.length=T.Devices.length
 p:∀(j:Nat) c,l[j]? = some c→(∀ p,p∈c.Ports→PtOk 3 p)∧c.Ports.map (·.Edge)=if j<d then el T (j:Int) T.Edges.length else if j=d then(el T (d:Int) T.Edges.length).take k else[]
def OpOk.next {T:Zb} {d:Nat} {l:List Zo} (h:OpOk T d (el T d T.Edges.length).length l):OpOk T (d+1) 0 l:=by
 refine⟨h.len,λj c hc=>?_⟩
 have g:=h.p j c hc
 grind
def OpOk.put {T:Zb} {d k:Nat} {l:List Zo} (h:OpOk T d k l) {c:Zo} (hc:l[d]? = some c) {p:Zw} (hp:PtOk 3 p) (he:(el T d T.Edges.length)[k]? = some p.Edge):OpOk T d (k+1) (l.set d {c with Ports:=c.Ports++[p]}):=by
 refine⟨by rw[Wa9];exact h.len,λj b hb=>?_⟩
 rw[Wew]at hb
 split at hb
 rename_i hj;subst hj
 split at hb
 cases hb;have g:=h.p d c hc
 refine⟨λq hq=>?_,?_⟩
 rcases Wj.1 hq with hq|hq
 exact g.1 q hq;rw[Wl.1 hq];exact hp;have g2:=g.2;rw[if_neg om,if_pos rfl]at g2;rw[if_neg om,if_pos rfl,Wat,g2,Wbm,he];rfl;cases hb;have g:=h.p j b hb
 grind
def PtOk.new {e:Int} {a b:List Zal} (ha:a.length≤4) (hb:b.length≤4) (ka:RlOk a) (kb:RlOk b):PtOk 3 (Zw.mk e a b [] [] []):=⟨ka,gD,kb,gD,.inl rfl,λy hy=>((by cases hy)),sM,λy hy=>((by cases hy)),sM⟩
def Zakc {t:Zc} (ht:TOk t) {T:Zb} (hT:XOk T):Ok (Znf t T) λr=>CfOk 3 T T.Edges.length r.1∧TOk r.2:=by
 have hf:=Z6;have hlim:=lim_eq;have d1:=hT.d1;have e1:=hT.e1
 have L2:∀(d:Nat),d<T.Devices.length→∀(n:Nat) (t:Zc) (l:List Zo) (k:Nat),TOk t→OpOk T d k l→k≤(el T (d:Int) T.Edges.length).length→(el T (d:Int) T.Edges.length).length-k<n→Ok (Zjf T (d:Int) (el T (d:Int) T.Edges.length) n t l (k:Int)) λo=>TOk o.1∧OpOk T (d+1) 0 o.2:=by
  intro d hd n
  induction n with
  |zero=>intro t l k _ _ _ h;omega
  |succ n ih=>
   intro t l k ht hl hk hn;have hel:=el_len T (d:Int) T.Edges.length;unfold Zjf;rw[wi ((k:Int)+1) om om,Zair]
   refine Wx (λhc=>?_) λhc=>?_
   have hk2:k<(el T (d:Int) T.Edges.length).length:=om
   rw[Zaq hk2]
   refine Wa (p:=λo:Zc×List Zo=>TOk o.1∧OpOk T d (k+1) o.2) ?_ λ⟨u,v⟩ h=>ih u v (k+1) h.1 h.2 om om
   refine Lf (Wa (Zyj ht hT om om) λr1 h1=>Wa (Zyj h1.2 hT om om) λr2 h2=>?_)
   have p0:=PtOk.new (e:=(el T (d:Int) T.Edges.length)[k]) (by have:=h1.1.1;omega) (by have:=h2.1.1;omega) h1.1.2 h2.1.2
   refine Wa (p:=λo:Zc×Zw=>TOk o.1∧PtOk 3 o.2∧o.2.Edge=(el T (d:Int) T.Edges.length)[k]) ?_ λ⟨u1,q1⟩ ⟨g1,g2,g3⟩=>?_
   refine Nxt h2.2 om om λr a0 a1 a2=>Wi (λ_=>Lf (Wb ⟨a2,⟨p0.i,p0.il,λy hy=>by rw[Wl.1 hy];exact Zmv,sM,p0.m,p0.h,p0.hl,p0.s,p0.sl⟩,rfl⟩)) λ_=>Wb ⟨a2,p0,rfl⟩
   dsimp only at g1 g2 g3⊢
   refine Wa (p:=λo:Zc×Zw=>TOk o.1∧PtOk 3 o.2∧o.2.Edge=(el T (d:Int) T.Edges.length)[k]) ?_ λ⟨u2,q2⟩ ⟨k1,k2,k3⟩=>?_
   refine Nxt g1 om om λr a0 a1 a2=>Wi (λ_=>Wa (Zr3 a2 hT) λb hb=>Nxt hb.2 om om λs b0 b1 b2=>Ix b0 (by simpa using b1) λc hc=>Wb ⟨b2,⟨g2.i,g2.il,g2.e,g2.el,g2.m,g2.h,g2.hl,λy hy=>?_,sM⟩,g3⟩) λ_=>Wb ⟨a2,g2,g3⟩
   rw[Wl.1 hy];simp only[W1,Wag,or_false]at hc;exact⟨hb.1,hc.elim .inl λh=>.inr (.inl h)⟩
   dsimp only at k1 k2 k3⊢
   refine Wa (p:=λo:Zc×Zw=>TOk o.1∧PtOk 3 o.2∧o.2.Edge=(el T (d:Int) T.Edges.length)[k]) ?_ λ⟨u3,q3⟩ ⟨m1,m2,m3⟩=>?_
   refine Nxt k1 om om λr a0 a1 a2=>Wi (λ_=>Wa (Zr3 a2 hT) λb hb=>Nxt hb.2 om om λs b0 b1 b2=>Wb ⟨b2,⟨k2.i,k2.il,k2.e,k2.el,k2.m,λy hy=>?_,sM,k2.s,k2.sl⟩,k3⟩) λ_=>Wb ⟨a2,k2,k3⟩
   rw[Wl.1 hy,wu32 (x:=s.1) om om,wu32 (x:=1024+s.1) om om];exact⟨hb.1,rfl,rk om om om⟩
   dsimp only at m1 m2 m3⊢
   refine Wa (p:=λo:Zc×Zw=>TOk o.1∧PtOk 3 o.2∧o.2.Edge=(el T (d:Int) T.Edges.length)[k]) ?_ λ⟨u4,q4⟩ ⟨n1,n2,n3⟩=>?_
   exact Nxt m1 om om λr a0 a1 a2=>Wi (λ_=>Wa (Zacx a2 hT) λv hv=>Wb ⟨hv.2,⟨m2.i,m2.il,m2.e,m2.el,.inr ⟨_,rfl,hv.1⟩,m2.h,m2.hl,m2.s,m2.sl⟩,m3⟩) λ_=>Wb ⟨a2,m2,m3⟩
   dsimp only at n1 n2 n3⊢
   have hdl:d<l.length:=by rw[hl.len];exact hd
   have hc2:=Wr hdl;rw[Zaq hdl]
   have pl:(l[d]).Ports.length≤k:=by
    have g:=(hl.p d _ hc2).2;rw[if_neg om,if_pos rfl]at g;have:=congrArg List.length g;rw[Wt,Wad]at this;omega
   rw[show Int.toNat (d:Int)=d by omega];exact Lf (Ap sO (Wb ⟨n1,hl.put hc2 n2 (by rw[n3];exact Wr hk2)⟩))
   have:k=(el T (d:Int) T.Edges.length).length:=om
   subst this;exact Wb ⟨ht,hl.next⟩
 have L1:∀(n:Nat) (t:Zc) (l:List Zo) (d:Nat),TOk t→OpOk T d 0 l→d≤T.Devices.length→T.Devices.length-d<n→Ok (Zjg T n t l (d:Int)) λo=>TOk o.1∧OpOk T T.Devices.length 0 o.2:=by
  intro n
  induction n with
  |zero=>intro t l k _ _ _ h;omega
  |succ n ih=>
   intro t l d ht hl hd hn;unfold Zjg;rw[wi ((d:Int)+1) om om,Zacw hT]
   refine Wx (λhc=>Lf (Wa (L2 d om fuel t l 0 ht hl om (by have:=el_len T (d:Int) T.Edges.length;omega)) λ⟨u,v⟩ h=>ih u v (d+1) h.1 h.2 om om)) λhc=>?_
   have:d=T.Devices.length:=om
   subst this;exact Wb ⟨ht,hl⟩
 unfold Znf;rw[show Int.toNat (T.Devices.length:Int)=T.Devices.length by omega]
 have h0:OpOk T 0 0 (List.replicate T.Devices.length Zej):=by
  refine⟨sM,λj c hc=>?_⟩
  rw[Wid]at hc
  split at hc
  cases hc
  refine⟨λy hy=>((by cases hy)),?_⟩
  rw[if_neg om];split<;>simp[Zej];cases hc
 refine Waf om (Wa (L1 fuel t _ 0 ht h0 om om) λ⟨u,v⟩ h=>Wb ⟨⟨h.2.len,λj c hc=>?_⟩,h.1⟩)
 have g:=h.2.p j c hc
 refine⟨g.1,?_⟩
 have hj:=(We.1 hc).1;have hlen:=h.2.len
 dsimp only at hj hlen
 rw[g.2,if_pos om]
def Zaf4 {t:Zc} (ht:TOk t) {T:Zb} (hT:XOk T) {m:Int} {x:Zs} (h:IntOk T m x) (hm:m≤1000) (a:Int):Ok (Zox t T x a) λr=>CfOk 0 T T.Edges.length r.1∧TOk r.2:=by
 refine Wa (p:=λo=>match o with|.inl u=>TOk u|.inr r=>CfOk 0 T T.Edges.length r.1∧TOk r.2) ?_ λo ho=>?_
 refine Nxt ht om om λr a0 a1 a2=>Wi (λ_=>Wa (Zaiq hT h hm a) λb hb=>Wi (λhz=>Nxt a2 om om λs b0 b1 b2=>Wi (λ_=>Wa (Zahn b2 hT (hb gD)) λc hc=>Wb hc) λ_=>Wb ⟨(hb gD).zero,b2⟩) λ_=>Wb a2) λ_=>Wb a2
 rcases o with o|o
 exact Wa (Zakc ho hT) λr hr=>Wb ⟨hr.1.zero,hr.2⟩
 exact Wb ho
def Z9c {b:Bx} (h:BOk b):Zbq b=some true:=by rw[Zg9,ok_vB h]
def Zae1 {l:List Zal} (h:RlOk l) (hl:l.length≤4096):Zgt l=some true:=by
 refine Whh (Wa (p:=λo=>o=.inl ()) (LC (m:=l.length) om om (λn i i0 i1 ih=>?_) λn=>?_) λo ho=>by subst ho;exact Wb gD)
 unfold Zfz;rw[if_pos (Wf i1),wi (i+1) om om]
 refine Ix i0 i1 λr hr=>?_
 rw[Z9c (h r hr)];exact ih;unfold Zfz;rw[if_neg sM];exact Wb rfl
def Zakd {l:List Z9} (h:Mv1 l):Zgu l=some true:=by
 have hl:l.length≤1:=by rcases h with h|⟨v,h,_⟩<;>rw[h]<;>simp
 have hv:∀ v,v∈l→MvG v:=by
  rcases h with h|⟨v,h,g⟩
  rw[h];exact λv hv=>(by cases hv)
  grind
 unfold Zgu;rw[if_neg gD]
 refine Whh (Wa (p:=λo=>o=.inl ()) (LC (m:=l.length) om om (λn i i0 i1 ih=>?_) λn=>?_) λo ho=>by subst ho;exact Wb rfl)
 unfold Zen;rw[if_pos (Wf i1)]
 refine Ix i0 i1 λv hvl=>?_
 rw[(hv v hvl).v]
 have e:i=0:=om
 subst e;exact ih;unfold Zen;rw[if_neg sM];exact Wb rfl
def Zais {l:List Zad} (h:∀ y,y∈l→HIn y) (hl:l.length≤256):Zgv l=some true:=by
 refine Whh (Wa (p:=λo=>o=.inl ()) (LC (m:=l.length) om om (λn i i0 i1 ih=>?_) λn=>?_) λo ho=>by subst ho;exact Wb gD)
 unfold Zdi;rw[if_pos (Wf i1),wi (i+1) om om]
 refine Ix i0 i1 λy hy=>?_
 have g:=h y hy;unfold Zl8;rw[Z9c g.m];simp  [Wf g.p.h1,Wf g.p.h2];exact ih;unfold Zdi;rw[if_neg sM];exact Wb rfl
def Zacy {T:Zb} (hT:XOk T):Ziq T ⟨3405803781,3405803781⟩=some true:=by
 have e1:=hT.e1
 refine Whh (Wa (p:=λo=>o=.inl ()) (LC (m:=T.Edges.length) om om (λn i i0 i1 ih=>?_) λn=>?_) λo ho=>by subst ho;exact Wb rfl)
 unfold Zdc;rw[if_pos (Wf i1),wi (i+1) om om,Ztd hT i0 i1 i0 i1]
 have key:∀ k:Fin 5,(decide ((sr k.1).Lo≤3405803781)&&decide (3405803781≤(sr k.1).Hi))=false:=dC
 have g:=key ⟨i.toNat,om⟩;rw[show i.toNat=i by omega]at g;show Ok (if(decide ((sr i).Lo≤3405803781)&&decide (3405803781≤(sr i).Hi))=true then _ else _) _;rw[g];exact ih;unfold Zdc;rw[if_neg sM];exact Wb rfl
def vn3 {c:ByteArray} (h:c=ips∨c=dlp∨c=nonec):Zac c=some true:=by
 rcases h with rfl|rfl|rfl<;>kernel_rfl
def Zaho {T:Zb} (hT:XOk T) {p:Zw} (h:PtOk 0 p):Zgw T p=some true:=by
 have il:=h.il;have el:=h.el;have sl:=h.sl;have hl:=h.hl
 have ml:p.Moves.length≤1:=by rcases h.m with g|⟨v,g,_⟩<;>rw[g]<;>simp
 have mv:∀ v,v∈p.Moves→MvG v:=by
  rcases h.m with g|⟨v,g,k⟩
  rw[g];exact λv hv=>(by cases hv)
  grind
 unfold Zgw;rw[Zae1 h.i om,Zae1 h.e om,Zakd h.m,Zais h.h h.hl];simp;rw[if_neg om]
 refine Whh (Wa (p:=λo=>o=.inl ()) (LC (m:=p.Moves.length) om om (λn i i0 i1 ih=>?_) λn=>?_) λo ho=>?_)
 unfold Zcs;rw[if_pos (Wf i1),wi (i+1) om om]
 have hi:i.toNat<p.Moves.length:=om
 have g:=mv _ (Wv hi);rw[idx_of i0 i1]
 refine Lf ?_
 rw[g.s]
 refine Lf (Lf (Wa (p:=λv=>v=false) ?_ λv hv=>?_))
 simp;rw[g.d,Zacy hT];exact Lf (Wb rfl);subst hv
 have e:i=0:=om
 subst e;exact ih;unfold Zcs;rw[if_neg sM];exact Wb rfl;subst ho
 refine Wa (p:=λo=>o=.inl ()) (LC (m:=p.Hides.length) om om (λn i i0 i1 ih=>?_) λn=>?_) λo ho=>?_
 unfold Zct;rw[if_pos (Wf i1),wi (i+1) om om]
 refine Ix i0 i1 λy hy=>?_
 rw[At_out hT (.inl (h.h y hy).a)];exact ih;unfold Zct;rw[if_neg sM];exact Wb rfl;subst ho
 refine Wa (p:=λo=>o=.inl ()) (LC (m:=p.Steers.length) om om (λn i i0 i1 ih=>?_) λn=>?_) λo ho=>by subst ho;exact Wb rfl
 unfold Zcu;rw[if_pos (Wf i1),wi (i+1) om om]
 have hi:i.toNat<p.Steers.length:=om
 have g:=h.s _ (Wv hi);rw[idx_of i0 i1]
 refine Lf ?_
 rw[Z9c g.m]
 refine Lf (Lf (Wa (p:=λv=>v=false) ?_ λv hv=>gD))
 simp;rw[vn3 g.c];exact Lf (Wb rfl);unfold Zcu;rw[if_neg sM];exact Wb rfl
def Zacz {T:Zb} (hT:XOk T) {l:List Zo} (h:CfOk 0 T T.Edges.length l):Zfr T l=some true:=by
 have d1:=hT.d1;have e1:=hT.e1;have hlen:=h.len;unfold Zfr;rw[Z1q hT]
 refine Whh (Lf (Lf ?_))
 rw[if_neg gD]
 refine Wa (p:=λo=>o=.inl ()) (LC (m:=l.length) om om (λn i i0 i1 ih=>?_) λn=>?_) λo ho=>by subst ho;exact Wb rfl
 unfold Zfc;rw[if_pos (Wf i1),wi (i+1) om om,Zacw hT]
 have hi:i.toNat<l.length:=om
 have g:=h.p i.toNat _ (Wr hi);rw[show i.toNat=i by omega]at g;have gl:=congrArg List.length g.2;rw[Wt]at gl;have gl2:=el_len T i T.Edges.length;rw[idx_of i0 i1]
 refine Lf (Lf ?_)
 rw[if_neg gD]
 refine Wa (p:=λo=>o=.inl ()) (LC (m:=(el T i T.Edges.length).length) om om (λn k k0 k1 ih2=>?_) λn=>?_) λo ho=>gD
 unfold Zd6;rw[if_pos (Wf k1),wi (k+1) om om,idx_of i0 i1]
 have hk:k.toNat<(l[i.toNat]).Ports.length:=om
 refine Lf ?_
 rw[idx_of k0 om,idx_of k0 k1]
 have hk2:k.toNat<(el T i T.Edges.length).length:=om
 have ee:=by
  have:=congrArg (λl=>l[k.toNat]?) g.2
  simpa [hk,hk2]using this
 refine Lf (Lf (Lf ?_))
 rw[ee]
 refine Wa (p:=λv=>v=false) ?_ λv hv=>?_
 simp
 refine Lf ?_
 rw[idx_of k0 om]
 refine Lf ?_
 rw[Zaho hT gD];exact Lf (Wb rfl);subst hv;exact ih2;unfold Zd6;rw[if_neg sM];exact Wb rfl;unfold Zfc;rw[if_neg sM];exact Wb rfl
def Zac0 {l:List Int} {m:Int} (h:∀ i,i∈l→0≤i∧i<m) (hs:l.Pairwise (·<·)) (hl:l.length≤1000000):Zdo l m=some true:=by
 refine Whh (Wa (p:=λo=>o=.inl ()) (LC (m:=l.length) om om (λn i i0 i1 ih=>?_) λn=>?_) λo ho=>by subst ho;exact Wb rfl)
 unfold Zcc;rw[if_pos (Wf i1),wi (i+1) om om,wi (i-1) om om,idx_of i0 i1]
 have hi:i.toNat<l.length:=om
 have g:=h _ (Wv hi)
 refine Lf (Lf ?_)
 rw[Wo om]
 refine Wa (p:=λv=>v=false) (Lf (Wb gD)) λv hv=>?_
 subst hv
 refine Lf (Wa (p:=λv=>v=false) ?_ λv hv=>?_)
 simp only[Wy,if_false]
 refine Lf (Wa (p:=λv=>v=false) (Wx (λh=>?_) λ_=>Wb rfl) λv hv=>Wb hv)
 rw[idx_of om om]
 refine Lf (Lf (Wb (Wo ?_)))
 have:=Wau.1 hs (i-1).toNat i.toNat om hi om;omega;subst hv;exact ih;unfold Zcc;rw[if_neg sM];exact Wb rfl
def Z3x {T:Zb} (hT:XOk T) {f:Zp} (h:FOk T f):Zbj T f=some true:=by
 have d1:=hT.d1;have k1:=hT.k1;have l1:=h.l1;have f1:=h.d1;unfold Zbj;rw[Z3w hT,Zac0 h.l h.ls om,Zac0 h.d h.ds om];rfl
def FOk.sk {T:Zb} (hT:XOk T) {f:Zp} (h:FOk T f):Zbn f:=by
 have d1:=hT.d1;have k1:=hT.k1;have l1:=h.l1;have f1:=h.d1;exact⟨⟨om,λy hy=>by have:=h.l y hy;omega⟩,⟨om,λy hy=>by have:=h.d y hy;omega⟩,trivial⟩
def Zait {T:Zb} (hT:XOk T) {f:Zp} (hf:Zbn f) {i:Int} (hi:Zg5 T f i=some true):Ok (Zdp T f i) λr=>r.length=T.Devices.length:=by
 have d1:=hT.d1;have hfu:=Z6;have g:=(Zu4 hT hf i).get hi rfl;unfold Zdp;rw[hi]
 refine Lf ?_
 exact Wa (Z70 hT fuel [] 0 om om rfl om) λw hw=>Wa (p:=λu=>u.length=T.Devices.length) (Wa (Zth hT hf i) λv _=>Wi (λ_=>Ix g.1 om λx _=>Wb gD) λ_=>Wb hw) λu hu=>Wa (Z71 hT hf fuel u 0 om om hu om) λr hr=>Wb hr
def Zaad {T:Zb} (hT:XOk T) {f:Zp} (hf:Zbn f) (a b:Int):Ok (Znh T f a b) λr=>-1≤r∧r<T.Links.length:=by
 have k1:=hT.k1;unfold Znh;obtain⟨da,ea,ha⟩:=Zu4 hT hf a;obtain⟨db,eb,hb⟩:=Zu4 hT hf b;rw[ea,eb]
 refine Lf (Lf (Wa (p:=λv=>v=false→da=true∧db=true) (Wi (λ_=>Wb λe=>(by cases e)) λh=>Lf (Wb λe=>⟨gD,gD⟩)) λv hv=>Lf (Wi (λ_=>Wb om) λh=>?_)))
 simp at h
 obtain⟨g1,g2⟩:=hv h.1;have hae:=ha g1;subst g2
 refine Wa (Zait hT hf eb) λr hr=>Wa (p:=λo=>∀ v:Int,o=.inr v→-1≤v∧v<T.Links.length) (LC (m:=T.Links.length) om om (λn i i0 i1 ih=>?_) λn=>?_) λo ho=>?_
 unfold Zng;rw[wi (i+1) om om]
 refine Wx (λ_=>Ix i0 i1 λl hl=>Wa (p:=λv:Int=>v<T.Devices.length) ?_ λv hv=>Wa (Z3t hT hf i) λu _=>Lf (Lf (Wa (p:=λw=>w=true→0≤v) (Wi (λh=>?_) λ_=>Wb λe=>(by cases e)) λw hw=>Lf (Wa (p:=λ_=>True) (Wi (λh=>Ix (hw h) om λx _=>Ix i0 i1 λy _=>Ix hae.1 om λz _=>Wb trivial) λ_=>Wb trivial) λw2 _=>Wi (λ_=>Wb λv e=>gD) λ_=>ih)))) λ_=>Wb λv e=>(by cases e)
 have g:=hT.link l hl;have g1:=g.h1;have g2:=g.h2
 exact Wi (λ_=>Wb om) λ_=>Wi (λ_=>Wb om) λ_=>Wb om
 simp at h
 exact Ix h.2 om λx _=>Wb λ_=>h.2
 unfold Zng;rw[if_neg sM]
 exact Wb λv e=>(by cases e)
 rcases o with o|o
 exact Wb om;exact Wb (ho o rfl)
structure RtOk (T:Zb) (r:Zg):Prop where
 a:sk_u32 r.Prefix.Addr
 b0:0≤r.Prefix.Bits
 b1:r.Prefix.Bits≤100
 p0:-1≤r.Port
 p1:r.Port≤1000
def Zake (p q:Zn):Ok (Zjh p q) λ_=>True:=Lf (Wa (p:=λ_=>True) (Wi (λ_=>Wb trivial) λ_=>Lf (Wb trivial)) λv _=>Wb trivial)
def Zac1 {l:List Zg} {P:Zg→Prop} (hl:l.length≤1000) (h:∀ r,r∈l→P r) {r:Zg} (hr:P r):Ok (Zrr l r) λv=>v.length=l.length+1∧∀ r,r∈v→P r:=by
 have hf:=Z6;have hlim:=lim_eq
 have L:∀ n (i:Int),0≤i→i≤l.length→(l.length-i).toNat<n→Ok (Zob l r n i) λv=>0≤v∧v≤l.length:=by
  intro n
  induction n with
  |zero=>omega
  |succ n ih=>
   intro i h0 h1 hn;unfold Zob;rw[wi (i+1) om om]
   refine Lf (Wa (p:=λv=>v=true→i<l.length) (Wx (λh=>Ix h0 h λx _=>Wa (Zake _ _) λv _=>Wb λ_=>h) λ_=>Wb λe=>(by cases e)) λv hv=>Wi gD λ_=>Wb ⟨h0,h1⟩)
 refine Wa (L fuel 0 om om om) λv hv=>Waf om (Waf gD (Waf gD (Waf om (Waf gD (Wb ⟨gD,λy hy=>?_⟩)))))
 grind
structure RwOk (T:Zb) (m:Nat) (R:List Yd) (L:List Ya):Prop where
 rl:R.length=T.Devices.length
 r:∀ l,l∈R→l.length≤m∧∀ r,r∈l→RtOk T r
 ll:L.length=T.Devices.length
 l:∀ l,l∈L→l.length≤6∧∀ v,v∈l→-1≤v∧v≤1000
def Zahp {T:Zb} (hT:XOk T) {f:Zp} (hf:FOk T f):Ok (Zoc T f) λR=>R.length=T.Devices.length∧∀ l,l∈R→l.length≤5∧∀ r,r∈l→RtOk T r:=by
 have hfu:=Z6;have hlim:=lim_eq;have d1:=hT.d1;have e1:=hT.e1;have k1:=hT.k1;have hs:=hf.sk hT
 have L2:∀(d:Int) (n:Nat) w (i:Int),0≤i→i≤T.Edges.length→w.length≤i→(∀ r,r∈w→RtOk T r)→(T.Edges.length-i).toNat<n→Ok (Zki T f d n w i) λr=>r.length≤5∧∀ y,y∈r→RtOk T y:=by
  intro d n
  induction n with
  |zero=>omega
  |succ n ih=>
   intro w i h0 h1 hw hr hn;unfold Zki;rw[wi (i+1) om om]
   refine Wx (λhc=>Wa (p:=λv:List Zg=>v.length≤i+1∧∀ r,r∈v→RtOk T r) ?_ λv hv=>ih _ _ om om hv.1 hv.2 om) λ_=>Wb ⟨om,hr⟩
   refine Ix h0 hc λe he=>Wa (Z3u hT hs d _) λc _=>Wi (λ_=>Wb ⟨om,hr⟩) λ_=>?_
   have g:=(hT.sk_edge he).2.2.1;have b0:=g.b0;have b1:=g.b1
   exact Wi (λ_=>Wa (Zac1 om hr ⟨g.a,b0,by dsimp only;omega,by dsimp only;omega,by dsimp only;omega⟩) λv hv=>Wb ⟨om,hv.2⟩) λ_=>Wa (Zaad hT hs _ _) λx hx=>Wa (Zac1 om hr ⟨g.a,b0,by dsimp only;omega,hx.1,by dsimp only;omega⟩) λv hv=>Wb ⟨om,hv.2⟩
 have L1:∀(n:Nat) w (i:Int),0≤i→i≤T.Devices.length→w.length=i→(∀ l,l∈w→l.length≤5∧∀ r,r∈l→RtOk T r)→(T.Devices.length-i).toNat<n→Ok (Zkj T f n w i) λR=>R.length=T.Devices.length∧∀ l,l∈R→l.length≤5∧∀ r,r∈l→RtOk T r:=by
  intro n
  induction n with
  |zero=>omega
  |succ n ih=>
   intro w i h0 h1 hw hr hn;unfold Zkj;rw[wi (i+1) om om]
   refine Wx (λhc=>Wa (L2 i fuel [] 0 om om sM (λ_ h=>(by cases h)) om) λv hv=>Ap sO (ih _ _ om om sO (λl hl=>?_) om)) λ_=>Wb ⟨om,hr⟩
   grind
 unfold Zoc;rw[Z1q hT,Z3x hT hf]
 grind
def Zahq {T:Zb} (hT:XOk T) {f:Zp} (hf:FOk T f):Ok (Zod T f) λR=>R.length=T.Devices.length∧∀ l,l∈R→l.length≤6∧∀ v,v∈l→-1≤v∧v≤1000:=by
 have hfu:=Z6;have hlim:=lim_eq;have d1:=hT.d1;have k1:=hT.k1
 have L2:∀(d:Int) (n:Nat) (w:List Int) (i:Int),0≤i→i≤T.Devices.length→w.length≤i→(∀ v,v∈w→-1≤v∧v≤1000)→(T.Devices.length-i).toNat<n→Ok (Zkk T f d n w i) λr=>r.length≤6∧∀ v,v∈r→-1≤v∧v≤1000:=by
  intro d n
  induction n with
  |zero=>omega
  |succ n ih=>
   intro w i h0 h1 hw hr hn;unfold Zkk;rw[wi (i+1) om om]
   refine Wx (λhc=>Wa (Zaad hT (hf.sk hT) _ _) λx hx=>Ap sO (ih _ _ om om sO (λv hv=>?_) om)) λ_=>Wb ⟨om,hr⟩
   grind
 have L1:∀(n:Nat) w (i:Int),0≤i→i≤T.Devices.length→w.length=i→(∀ l,l∈w→l.length≤6∧∀ v,v∈l→-1≤v∧v≤1000)→(T.Devices.length-i).toNat<n→Ok (Zkl T f n w i) λR=>R.length=T.Devices.length∧∀ l,l∈R→l.length≤6∧∀ v,v∈l→-1≤v∧v≤1000:=by
  intro n
  induction n with
  |zero=>grind
  |succ n ih=>
   intro w i h0 h1 hw hr hn;unfold Zkl;rw[wi (i+1) om om]
   refine Wx (λhc=>Wa (L2 i fuel [] 0 om om sM (λ_ h=>(by cases h)) om) λv hv=>Ap sO (ih _ _ om om sO (λl hl=>?_) om)) λ_=>Wb ⟨om,hr⟩
   rcases Wj.1 hl with hl|hl
   exact hr l hl;rw[Wl.1 hl];exact hv
 unfold Zod;rw[Z3x hT hf]
 grind
structure NwOk (m:Nat) (n:Z1):Prop where
 t:XOk n.Topology
 f:FOk n.Topology n.Failure
 c:CfOk 0 n.Topology n.Topology.Edges.length n.Configs
 r:RwOk n.Topology m n.Routes n.Labels
def Zadx {T:Zb} (hT:XOk T) {f:Zp} (hf:FOk T f) {l:List Zo} (hl:CfOk 0 T T.Edges.length l):Ok (Zl9 T f l) λr=>r.2=0∧NwOk 5 r.1∧r.1.Topology=T∧r.1.Failure=f∧r.1.Configs=l:=by
 unfold Zl9;rw[Zacz hT hl,Z3x hT hf];simp
 exact Wa (Zahp hT hf) λR hR=>Wa (Zahq hT hf) λL hL=>Wb ⟨rfl,⟨hT,hf,hl,⟨hR.1,hR.2,hL.1,hL.2⟩⟩,rfl,rfl,rfl⟩
def Zaiu {T:Zb} (hT:XOk T) (d:Int):Ok (Zma T d) λr=>r.length≤8∧∀ v,v∈r→0≤v∧v<T.Links.length:=by
 have hfu:=Z6;have hlim:=lim_eq;have k1:=hT.k1
 have L:∀ n (w:List Int) (i:Int),0≤i→i≤T.Links.length→w.length≤i→(∀ v,v∈w→0≤v∧v<T.Links.length)→(T.Links.length-i).toNat<n→Ok (Zie T d n w i) λr=>r.length≤8∧∀ v,v∈r→0≤v∧v<T.Links.length:=by
  intro n
  induction n with
  |zero=>omega
  |succ n ih=>
   intro w i h0 h1 hw hr hn;unfold Zie;rw[wi (i+1) om om]
   refine Wx (λhc=>Wa (p:=λv:List Int=>v.length≤i+1∧∀ x,x∈v→0≤x∧x<T.Links.length) ?_ λv hv=>ih _ _ om om hv.1 hv.2 om) λ_=>Wb ⟨om,hr⟩
   refine Ix h0 hc λx _=>Lf (Wa (p:=λ_=>True) (Wi (λ_=>Wb trivial) λ_=>Ix h0 hc λy _=>Wb trivial) λv _=>Wi (λ_=>Ap gD (Wb ⟨gD,λv hv=>?_⟩)) λ_=>Wb ⟨om,hr⟩)
   grind
 unfold Zma
 grind
def Rl (T:Zb) (m:Nat) (l:List Zg):Prop:=l.length≤m∧∀ r,r∈l→RtOk T r
def Ll (l:List Int):Prop:=l.length≤6∧∀ v,v∈l→-1≤v∧v≤1000
def Zaf5 {t:Zc} (ht:TOk t) {m:Nat} (hm:m≤1000) {n:Z1} (hn:NwOk m n) {d:Int} (d0:0≤d) (d1:d<n.Topology.Devices.length):Ok (Zji t n d) λr=>(NwOk (m+1) r.1∧r.1.Topology=n.Topology∧r.1.Failure=n.Failure)∧TOk r.2:=by
 have hlim:=lim_eq;have hT:=hn.t;have k1:=hT.k1;have dd:=hT.d1;have rl:=hn.r.rl;have ll:=hn.r.ll;unfold Zji
 refine Wa (Zaiu hT d) λK hK=>Waf sO (Waf sO ?_)
 simp only[Wb4]
 refine Ix d0 om λR hR=>?_
 have hr:=hn.r.r R hR
 refine Waf sO (Ix d0 om λL hL=>?_)
 have hl:=hn.r.l L hL
 refine Waf sO (Nx0 ht om λa a0 a1 a2=>?_)
 refine Wa (p:=λo:Zc×List Int×List Zg×List Int×List Zg=>TOk o.1∧Ll o.2.2.2.1∧Rl n.Topology (m+1) o.2.2.2.2) ?_ λ⟨u1,u2,u3,u4,u5⟩ ⟨g1,g2,g3⟩=>?_
 have hLl:Ll L:=hl;have hRl:Rl n.Topology (m+1) R:=⟨om,hr.2⟩
 refine Nxt a2 om om λc c0 c1 c2=>Lf (Wi (λh=>?_) λ_=>Lf (Lf (Wi (λh=>?_) λ_=>Lf (Lf (Lf (Wa (p:=λv=>v=true→0<R.length∧0<K.length∧∃ x,idx R a.1=some x∧x.Prefix.Bits<31) (Wi (λh=>?_) λ_=>Wb λe=>(by cases e)) λv hv=>Wi (λh=>?_) λ_=>Lf (Wi (λh=>?_) λ_=>Wb ⟨c2,hLl,hRl⟩)))))))
 simp only[Wh,W4]at h;rw[wi (a.1+1) om om]
 refine Waf om (Waf sO (Waf om (Waf sO (Wb ⟨c2,hLl,sO,λr hrm=>?_⟩))))
 rcases Wj.1 hrm with q|q<;>exact hr.2 r (Wbc (Wby q))
 simp only[Wh,W4]at h
 refine Nxt c2 om om λs b0 b1 b2=>Ix b0 b1 λv hv=>Ix a0 om λx hx=>Ix a0 sO λy hy=>Wb ⟨b2,hLl,sO,λr hrm=>?_⟩
 have gx:=hr.2 x hx;have gx2:RtOk n.Topology {x with Edge:=false}:=⟨gx.a,gx.b0,gx.b1,gx.p0,gx.p1⟩;have gv:=hK.2 v hv
 have all1:∀ r,r∈R.set a.1.toNat {x with Edge:=false}→RtOk n.Topology r:=λr hr2=>by
  rcases Wae hr2 with q|q
  exact hr.2 r q;rw[q];exact gx2
 rcases Wae hrm with q|q
 exact all1 r q;have gy:=all1 y hy;rw[q];exact⟨gy.a,gy.b0,gy.b1,by dsimp only;omega,by dsimp only;omega⟩;simp only[Wh,W4]at h;rw[idx_of a0 om];exact Lf (Wb λe=>⟨om,om,_,rfl,by simpa using e⟩);obtain⟨p1,p2,x,hx,hb⟩:=hv h;rw[hx,wi (a.1+1) om om]
 have hxm:x∈R:=by
  have q:=idx_of a0 (show a.1<R.length by omega);rw[q]at hx;rw[←Waw hx];exact Wv _
 have gx:=hr.2 x hxm;have b0':=gx.b0
 refine Lf ?_
 rw[wi (x.Prefix.Bits+1) om om]
 refine Lf (Wa (p:=λ_=>True) (Wx (λh=>Ix om h λ_ _=>Wb trivial) λ_=>Wb trivial) λv _=>Wi (λ_=>Wb ⟨c2,hLl,hRl⟩) λ_=>Waf om (Waf sO (Nxt c2 om om λs b0 b1 b2=>Ix b0 b1 λv hv=>Waf sO (Waf om (Waf sO (Wb ⟨b2,hLl,sO,λr hrm=>?_⟩))))))
 have gv:=hK.2 v hv
 rcases Wj.1 hrm with q|q
 rcases Wj.1 q with q|q
 exact hr.2 r (Wbc (Wby q));rw[Wl.1 q];exact⟨gx.a,by dsimp only;omega,by dsimp only;omega,by dsimp only;omega,by dsimp only;omega⟩;exact hr.2 r (Wbc (Wby q));simp only[Wh,W4]at h
 refine Nxt c2 om om λs b0 b1 b2=>Wi (λ_=>Waf sO ?_) λ_=>Wb ⟨b2,hLl,hRl⟩
 rw[wi ((K.length:Int)+1) om om]
 refine Nxt b2 om om λe e0 e1 e2=>Ix e0 sO λv hv=>Ix b0 b1 λ_ _=>Wb ⟨e2,⟨sO,λy hy=>?_⟩,hRl⟩
 rcases Wae hy with q|q
 exact hl.2 y q;rw[q]
 rcases Wj.1 hv with q|q
 have:=hK.2 v q;omega;rw[Wl.1 q];omega
 dsimp only at g1 g2 g3⊢
 refine Ix d0 om λ_ _=>Ix d0 om λ_ _=>Wb ⟨⟨⟨hT,hn.f,hn.c,⟨by simp;exact rl,λl hl=>?_,by simp;exact ll,λl hl=>?_⟩⟩,rfl,rfl⟩,g1⟩
 rcases Wae hl with q|q
 exact⟨by have:=(hn.r.r l q).1;omega,(hn.r.r l q).2⟩;rw[q];exact g3
 rcases Wae hl with q|q
 exact hn.r.l l q;rw[q];exact g2
def NwOk.mono {a b:Nat} (h:a≤b) {n:Z1} (hn:NwOk a n):NwOk b n:=⟨hn.t,hn.f,hn.c,⟨hn.r.rl,λl hl=>⟨by have:=(hn.r.r l hl).1;omega,(hn.r.r l hl).2⟩,hn.r.ll,hn.r.l⟩⟩
def Zaf6 {t:Zc} (ht:TOk t) (d s:Int) (w:Bool) (hd:1≤d) (s0:0≤s) (s1:s≤1000):Ok (Zoy t d s w) λr=>NwOk 7 r.1∧TOk r.2:=by
 have hfu:=Z6
 refine Wa (Net_ok ht d s hd s0 s1) λ⟨T,x,a,t1⟩ ⟨hT,hx,ha,h1⟩=>?_
 dsimp  at hT hx ha h1⊢
 have dd:=hT.d1;have d0:=hT.d0
 refine Wa (Zaff h1 hT) λf hf=>Wa (Zaf4 hf.2 hT hx s1 a) λc hc=>Wa (Zadx hT hf.1 hc.1) λn hn=>Nxt hc.2 om om λk k0 k1 k2=>?_
 obtain⟨_,hn,hnt,hnf,_⟩:=hn
 have L:∀ g t n (i:Int) (m:Nat),TOk t→0≤i→i≤2→m+i=7→NwOk m n→n.Topology=T→n.Failure=f.1→i.toNat<g→Ok (Zgx w (T,x,a,t1) g t n i) λo=>TOk o.1∧NwOk 7 o.2:=by
  intro g
  induction g with
  |zero=>omega
  |succ g ih=>
   intro t n i m ht h0 h2 hm hn hnt hnf hg;unfold Zgx;rw[wi (i-1) om om]
   refine Lf (Wi (λh=>?_) λ_=>Wb ⟨ht,hn.mono om⟩)
   simp at h
   refine Wa (p:=λo=>TOk o.1∧NwOk (m+1) o.2∧o.2.Topology=T∧o.2.Failure=f.1) ?_ λ⟨u,v⟩ ⟨g1,g2,g3,g4⟩=>ih u v (i-1) (m+1) g1 om om om g2 g3 g4 om
   dsimp
   refine Nxt ht om om λr a0 a1 a2=>?_
   rw[hnf]
   refine Wa (Zth hT (hf.1.sk hT) _) λv _=>Wi (λ_=>Wa (Zaf5 a2 om hn a0 gD) λr hr=>Wb ⟨hr.2,hr.1.1,gD,gD⟩) λ_=>Wb ⟨a2,hn.mono om,hnt,hnf⟩
 refine Wa (L fuel _ n.1 k.1 (7-k.1).toNat k2 k0 om om (hn.mono om) hnt hnf om) λ⟨u,v⟩ h=>Wb ⟨h.2,h.1⟩
section
structure Ts (m:Nat) (t:Zb):Prop where
 d:t.Devices.length≤m
 k:t.Links.length≤m
 e:t.Edges.length≤m
 p:t.Pools.length≤m
 ea:∀ x∈t.Edges,Zbd x.Prefix.Addr
 pa:∀ x∈t.Pools,Zbd x.Addr
structure Ps (m:Nat) (p:Zw):Prop where
 i:p.Ingress.length≤m
 e:p.Egress.length≤m
 v:p.Moves.length≤m
 h:p.Hides.length≤m
 s:p.Steers.length≤m
 ha:∀ h∈p.Hides,Zbd h.Addr
structure Cs (m:Nat) (c:Zo):Prop where
 l:c.Ports.length≤m
 p:∀ p∈c.Ports,Ps m p
structure Ls (m:Nat) (l:List Zg):Prop where
 n:l.length≤m
 a:∀ r∈l,Zbd r.Prefix.Addr
structure Nz (m:Nat) (N:Z1):Prop where
 t:Ts m N.Topology
 fl:N.Failure.Links.length≤m
 fd:N.Failure.Devices.length≤m
 cl:N.Configs.length≤m
 c:∀ c∈N.Configs,Cs m c
 rl:N.Routes.length≤m
 r:∀ l∈N.Routes,Ls m l
 ll:N.Labels.length≤m
 l:∀ l∈N.Labels,l.length≤m
variable {m m':Nat}
def Ts.mono {t:Zb} (h:Ts m t) (k:m≤m'):Ts m' t:=⟨by have:=h.d;omega,by have:=h.k;omega,by have:=h.e;omega,by have:=h.p;omega,h.ea,h.pa⟩
def Ps.mono {p:Zw} (h:Ps m p) (k:m≤m'):Ps m' p:=⟨by have:=h.i;omega,by have:=h.e;omega,by have:=h.v;omega,by have:=h.h;omega,by have:=h.s;omega,h.ha⟩
def Cs.mono {c:Zo} (h:Cs m c) (k:m≤m'):Cs m' c:=⟨by have:=h.l;omega,λp hp=>(h.p p hp).mono k⟩
def Ls.mono {l:List Zg} (h:Ls m l) (k:m≤m'):Ls m' l:=⟨by have:=h.n;omega,h.a⟩
def Nz.mono {N:Z1} (h:Nz m N) (k:m≤m'):Nz m' N:=⟨h.t.mono k,by have:=h.fl;omega,by have:=h.fd;omega,by have:=h.cl;omega,λc hc=>(h.c c hc).mono k,by have:=h.rl;omega,λl hl=>(h.r l hl).mono k,by have:=h.ll;omega,λl hl=>by have:=h.l l hl;omega⟩
def Nz.in {N:Z1} (h:Nz m N) (k:m≤2000000000):NIn N:=
 ⟨⟨by have:=h.t.d;omega,by have:=h.t.k;omega,by have:=h.t.e;omega,by have:=h.t.p;omega,h.t.ea,h.t.pa⟩,λc hc=>⟨by have:=(h.c c hc).l;omega,λp hp=>by have g:=(h.c c hc).p p hp;exact⟨by have:=g.i;omega,by have:=g.e;omega,by have:=g.v;omega,by have:=g.h;omega,by have:=g.s;omega,g.ha⟩⟩,by have:=h.fl;omega,by have:=h.fd;omega,λl hl=>⟨by have:=(h.r l hl).n;omega,(h.r l hl).a⟩⟩
def ok32 {x:Int} (h:sk_u32 x):Zbd x:=⟨h.1,gD⟩
def Zakf (T:Zb) (d:Int) (k:Nat):(el T d k).length≤k:=by
 unfold el
 grind
def NwOk.nz {n:Z1} (h:NwOk 7 n):Nz 5000 n:=by
 have d1:=h.t.d1;have k1:=h.t.k1;have e1:=h.t.e1
 refine⟨⟨om,om,om,by have:=h.t.p1;omega,λx hx=>?_,λx hx=>?_⟩,by have:=h.f.l1;omega,by have:=h.f.d1;omega,by have:=h.c.len;omega,λc hc=>?_,by have:=h.r.rl;omega,λl hl=>⟨by have:=(h.r.r l hl).1;omega,λr hr=>ok32 ((h.r.r l hl).2 r hr).a⟩,by have:=h.r.ll;omega,λl hl=>by have:=(h.r.l l hl).1;omega⟩
 obtain⟨i,hi⟩:=Wfm hx;exact ok32 (Z0v (Wq (h.t.edge i x hi).pre)).a;have:=h.t.pool x hx
 simp at this
 rcases this with rfl|rfl<;>exact⟨dC,dC⟩
 obtain⟨i,hi⟩:=Wfm hc;have g:=h.c.p i c hi;have gl:=congrArg List.length g.2;rw[Wt]at gl;have:=Zakf n.Topology i n.Topology.Edges.length
 refine⟨om,λp hp=>?_⟩
 have q:=g.1 p hp
 refine⟨by have:=q.il;omega,by have:=q.el;omega,?_,by have:=q.hl;omega,by have:=q.sl;omega,λy hy=>by rw[(q.h y hy).a];exact⟨dC,dC⟩⟩
 rcases q.m with e|⟨v,e,_⟩<;>rw[e]<;>simp
def Zakg (x y:Int):Zbd (bOr .u32 x y):=ok32 (Zc2 _)
def Zaiv (x y:Int):Zbd (bXor .u32 x y):=ok32 (Zc2 _)
def Z9d {t:Zc} (ht:TOk t) {p:Zn} (hp:Zbd p.Addr):Ok (Zkq t p) λr=>Zbd r.1.Addr∧TOk r.2:=by
 refine Wa (p:=λr=>Zbd r.2.Addr∧TOk r.1) (Nxt ht om om λr a0 a1 a2=>Wi (λ_=>Nxt a2 om om λr2 b0 b1 b2=>Ix b0 om λx _=>Wb ⟨hp,b2⟩) λ_=>Wi (λ_=>Wb ⟨Zakg _ _,a2⟩) λ_=>Wi (λ_=>Wb ⟨hp,a2⟩) λ_=>Nxt a2 om om λr2 b0 b1 b2=>Waf (Zub _).1 (Wb ⟨Zaiv _ _,b2⟩)) λ⟨a,b⟩ h=>Wb h
section
variable {t:Zb} (h:Ts m t)
include h
def Ts.dset (i:Nat) (x:Z5):Ts (m+1) ⟨t.Devices.set i x,t.Links,t.Edges,t.Pools,t.Tolerate⟩:=⟨by rw[Wa9];have:=h.d;omega,by have:=h.k;grind,by have:=h.e;grind,by have:=h.p;grind,h.ea,h.pa⟩
def Ts.kset (i:Nat) (x:Zag):Ts (m+1) ⟨t.Devices,t.Links.set i x,t.Edges,t.Pools,t.Tolerate⟩:=⟨by have:=h.d;grind,by rw[Wa9];have:=h.k;omega,by have:=h.e;grind,by have:=h.p;grind,h.ea,h.pa⟩
def Ts.eset (i:Nat) (x:Z2) (hx:Zbd x.Prefix.Addr):Ts (m+1) ⟨t.Devices,t.Links,t.Edges.set i x,t.Pools,t.Tolerate⟩:=⟨by have:=h.d;grind,by have:=h.k;grind,by rw[Wa9];have:=h.e;omega,by have:=h.p;grind,λy hy=>(Wae hy).elim (h.ea y) λq=>q▸hx,h.pa⟩
def Ts.dl (l:List Z5) (hl:l.length≤t.Devices.length+1):Ts (m+1) ⟨l,t.Links,t.Edges,t.Pools,t.Tolerate⟩:=⟨by have:=h.d;grind,by have:=h.k;grind,by have:=h.e;grind,by have:=h.p;grind,h.ea,h.pa⟩
def Ts.kl (l:List Zag) (hl:l.length≤t.Links.length+1):Ts (m+1) ⟨t.Devices,l,t.Edges,t.Pools,t.Tolerate⟩:=⟨by have:=h.d;grind,by have:=h.k;grind,by have:=h.e;grind,by have:=h.p;grind,h.ea,h.pa⟩
def Ts.el (l:List Z2) (hl:l.length≤t.Edges.length+1) (g:∀ x∈l,x∈t.Edges):Ts (m+1) ⟨t.Devices,t.Links,l,t.Pools,t.Tolerate⟩:=⟨by have:=h.d;grind,by have:=h.k;grind,by have:=h.e;grind,by have:=h.p;grind,λx hx=>h.ea x (g x hx),h.pa⟩
def Ts.pl (x:Zn) (hx:Zbd x.Addr):Ts (m+1) ⟨t.Devices,t.Links,t.Edges,t.Pools++[x],t.Tolerate⟩:=⟨by have:=h.d;grind,by have:=h.k;grind,by have:=h.e;grind,by have:=h.p;grind,h.ea,λy hy=>(Wj.1 hy).elim (h.pa y) λq=>gD⟩
def Ts.tl (x:Int):Ts (m+1) ⟨t.Devices,t.Links,t.Edges,t.Pools,x⟩:=⟨by have:=h.d;grind,by have:=h.k;grind,by have:=h.e;grind,by have:=h.p;grind,h.ea,h.pa⟩
end
def Z6g {t:Zc} (ht:TOk t) {T:Zb} (h:Ts m T) (hm:m≤1000000):Ok (Ze8 t T) λr=>Ts (m+1) r.1∧TOk r.2:=by
 have hlim:=lim_eq;have hd:=h.d;have hk:=h.k;have he:=h.e;have hp:=h.p;unfold Ze8 Zld;simp only[Wb4];rw[if_pos gD,if_pos gD,if_pos gD,if_pos gD];simp only[Wc]
 have same:∀ u ,TOk u→Ok (some (Zb.mk T.Devices T.Links T.Edges T.Pools T.Tolerate,u)) λr=>Ts (m+1) r.1∧TOk r.2:=λu hu=>Wb ⟨h.tl T.Tolerate,hu⟩
 refine Nxt ht om om λr a0 a1 a2=>Wi (λ_=>?_) λ_=>Wi (λ_=>?_) λ_=>Wi (λ_=>?_) λ_=>Wi (λ_=>?_) λ_=>Wi (λ_=>?_) λ_=>Wi (λ_=>?_) λ_=>Wi (λ_=>?_) λ_=>Wi (λ_=>?_) λ_=>Wi (λ_=>?_) λ_=>Wi (λ_=>?_) λ_=>Wi (λ_=>?_) λ_=>Wi (λ_=>?_) λ_=>Wi (λ_=>?_) λ_=>?_
 exact Nxt a2 om om λr2 b0 b1 b2=>Ix b0 om λx _=>Nxt b2 om om λr3 c0 c1 c2=>Ap sO (Wb ⟨h.dl _ sM,c2⟩)
 exact Wx (λhc=>Nxt a2 om om λr2 b0 b1 b2=>Ix b0 om λx _=>Ix om om λy _=>Wb ⟨h.dset _ _,b2⟩) λ_=>same _ a2
 exact Nxt a2 om om λr2 b0 b1 b2=>Nxt b2 om om λr3 c0 c1 c2=>Nxt c2 om om λr4 d0 d1 d2=>Ap gD (Wb ⟨h.kl _ sM,d2⟩)
 exact Wx (λhc=>Nxt a2 om om λr2 b0 b1 b2=>Ix b0 gD λx _=>Ix om om λy _=>Wb ⟨h.kset _ _,b2⟩) λ_=>same _ a2
 exact Wx (λhc=>Nxt a2 om om λr2 b0 b1 b2=>Ix om om λy hy=>Wb ⟨h.eset _ _ (h.ea y hy),b2⟩) λ_=>same _ a2
 refine Wx (λhc=>?_) λ_=>same _ a2
 rw[wi (T.Edges.length-1) om om]
 exact Ix om om λy hy=>Wa (Z9d a2 (h.ea y hy)) λq hq=>Ix om om λz _=>Wb ⟨h.eset _ _ hq.1,hq.2⟩
 exact Wx (λhc=>Ix om om λy hy=>Ix om om λz hz=>Wb ⟨h.eset _ _ (h.ea z hz),a2⟩) λ_=>same _ a2
 exact Wx (λhc=>Ix om om λy hy=>Ap gD (Wb ⟨h.el _ sM λx hx=>(Wj.1 hx).elim id λq=>gD,a2⟩)) λ_=>same _ a2
 exact Wx (λhc=>Nxt a2 om om λr2 b0 b1 b2=>Ix b0 gD λx _=>Ix om om λy hy=>Wb ⟨h.eset _ _ (h.ea y hy),b2⟩) λ_=>same _ a2
 exact Wa (Z3r a2) λp hp=>Ap gD (Wb ⟨h.pl _ (ok32 hp.1.a),hp.2⟩)
 exact Nxt a2 om om λr2 b0 b1 b2=>Ix b0 om λx _=>Wb ⟨h.tl _,b2⟩
 exact Wx (λhc=>Waf ⟨om,om,om⟩ (Wb ⟨h.dl _ gD,a2⟩)) λ_=>same _ a2
 exact Wx (λhc=>Nxt a2 om om λr2 b0 b1 b2=>Ix b0 gD λx _=>Ix om om λy hy=>Wb ⟨h.dset _ _,b2⟩) λ_=>same _ a2
 exact Wx (λhc=>Waf ⟨om,om,om⟩ (Wb ⟨h.el _ gD λx hx=>Wbc (Wby hx),a2⟩)) λ_=>same _ a2
def Z75 {t:Zc} (ht:TOk t) {f:Zp} (h1:f.Links.length≤m) (h2:f.Devices.length≤m) (hm:m≤1000000):Ok (Zfo t f) λr=>(r.1.Links.length≤m+1∧r.1.Devices.length≤m+1)∧TOk r.2:=by
 have hlim:=lim_eq;unfold Zfo
 refine Ap gD (Ap gD (Nxt ht om om λr a0 a1 a2=>Wi (λ_=>Nxt a2 om om λr2 b0 b1 b2=>Ap gD (Wb ⟨⟨gD,gD⟩,b2⟩)) λ_=>Wi (λ_=>Nxt a2 om om λr2 b0 b1 b2=>Ap gD (Wb ⟨⟨gD,gD⟩,b2⟩)) λ_=>Wi (λ_=>Ap gD (Wb ⟨⟨gD,gD⟩,a2⟩)) λ_=>Ap gD (Wb ⟨⟨gD,gD⟩,a2⟩)))
end
section
variable {m:Nat}
def Zady (d:Int) (d0:0≤d) (T:Zb) (f:Zp) (R:List Yd) (L:List Ya) (h1:1≤m) (hm:m≤1000000):∀ n t l i,TOk t→d<l.length→0≤i→(∀ c∈l,Cs m c)→(1000001-i).toNat<n→Ok (Zei d n t T f R L l i) λo=>TOk o.1∧o.2.1=T∧o.2.2.1=f∧o.2.2.2.1=R∧o.2.2.2.2.1=L∧o.2.2.2.2.2.length=l.length∧∀ c∈o.2.2.2.2.2,Cs m c:=by
 intro n
 induction n with
 |zero=>omega
 |succ n ih=>
  intro t l i ht hd hi hl hn;unfold Zei;rw[idx_of d0 hd];simp only[Wc];have hc:=hl _ (Wv (show d.toNat<l.length by omega))
  refine Wx (λhx=>?_) λ_=>Wb ⟨ht,rfl,rfl,rfl,rfl,rfl,hl⟩
  have hcl:=hc.l
  refine Lf (Wa (Zv6 ht) λa ha=>Nxt ha.2 om om λr a0 a1 a2=>Ix hi hx λp hp=>?_)
  rw[wi (i+1) om om]
  refine(ih _ _ _ a2 gD om (λc3 hc3=>?_) om).mono λo ho=>⟨ho.1,ho.2.1,ho.2.2.1,ho.2.2.2.1,ho.2.2.2.2.1,ho.2.2.2.2.2.1.trans Wa9,ho.2.2.2.2.2.2⟩
  rcases Wae hc3 with q|q
  exact hl c3 q;rw[q]
  refine⟨gD,λp3 hp3=>?_⟩
  rcases Wae hp3 with q3|q3
  exact hc.p p3 q3;have g:=hc.p p hp;rw[q3];exact⟨g.i,g.e,g.v,om,g.s,λy hy=>by rw[Wl.1 hy];exact⟨ha.1.1,gD⟩⟩
def Zadz (T:Zb) (f:Zp) (R:List Yd) (L:List Ya) (h1:1≤m) (hm:m≤1000000):∀ n t l i,TOk t→0≤i→l.length≤m→(∀ c∈l,Cs m c)→(1000001-i).toNat<n→Ok (Zhc n t T f R L l i) λo=>TOk o.1∧o.2.1=T∧o.2.2.1=f∧o.2.2.2.1=R∧o.2.2.2.2.1=L∧o.2.2.2.2.2.length=l.length∧∀ c∈o.2.2.2.2.2,Cs m c:=by
 have hf:=Z6;intro n
 induction n with
 |zero=>omega
 |succ n ih=>
  intro t l i ht hi hlm hl hn
  refine Wx (λhx=>?_) λ_=>Wb ⟨ht,rfl,rfl,rfl,rfl,rfl,hl⟩
  refine Wa (Zady i hi T f R L h1 hm fuel t l 0 ht hx om hl om) λo ho=>?_
  obtain⟨g1,rfl,rfl,rfl,rfl,g2,g3⟩:=ho;rw[wi (i+1) om om]
  grind
def Zad0 (T:Zb) (f:Zp) (C:List Zo) (L:List Ya) (hm:m≤1000000):∀ n t R (i:Int),TOk t→0≤i→R.length≤m→(∀ c∈R,Ls (m+1) c)→(∀ k:Nat,i≤k→∀ c,R[k]? = some c→Ls m c)→(1000001-i).toNat<n→Ok (Zhd n t T f C L R i) λo=>TOk o.1∧o.2.1=T∧o.2.2.1=f∧o.2.2.2.1=C∧o.2.2.2.2.1=L∧o.2.2.2.2.2.length=R.length∧∀ c∈o.2.2.2.2.2,Ls (m+1) c:=by
 have hlim:=lim_eq;intro n
 induction n with
 |zero=>grind
 |succ n ih=>
  intro t R i ht hi hlm hl hk hn
  refine Wx (λhx=>?_) λ_=>Wb ⟨ht,rfl,rfl,rfl,rfl,rfl,hl⟩
  rw[idx_of hi hx];have hc:=hk i.toNat om _ (Wr om);have hcn:=hc.n
  refine Ap gD (Wa (Z3r ht) λp hp=>Nxt hp.2 om om λr a0 a1 a2=>Nxt a2 om om λr2 b0 b1 b2=>Ap gD ?_)
  rw[wi (i+1) om om]
  refine(ih _ _ _ b2 om gD (λc3 hc3=>?_) (λk hk2 c3 hc3=>?_) om).mono λo ho=>⟨ho.1,ho.2.1,ho.2.2.1,ho.2.2.2.1,ho.2.2.2.2.1,ho.2.2.2.2.2.1.trans Wa9,ho.2.2.2.2.2.2⟩
  rcases Wae hc3 with q|q
  exact hl c3 q;rw[q];exact⟨gD,λy hy=>(Wj.1 hy).elim (hc.a y) λq=>by rw[Wl.1 q];exact ok32 hp.1.a⟩;rw[Wbd om]at hc3
  grind
def Zad1 (T:Zb) (f:Zp) (C:List Zo) (R:List Yd) (hm:m≤1000000):∀ n L (i:Int),0≤i→L.length≤m→(∀ c∈L,c.length≤m+1)→(∀ k:Nat,i≤k→∀ c,L[k]? = some c→c.length≤m)→(1000001-i).toNat<n→Ok (Zhe n T f C R L i) λo=>o.1=T∧o.2.1=f∧o.2.2.1=C∧o.2.2.2.1=R∧o.2.2.2.2.length=L.length∧∀ c∈o.2.2.2.2,c.length≤m+1:=by
 have hlim:=lim_eq;intro n
 induction n with
 |zero=>grind
 |succ n ih=>
  intro L i hi hlm hl hk hn
  refine Wx (λhx=>?_) λ_=>Wb ⟨rfl,rfl,rfl,rfl,rfl,hl⟩
  rw[idx_of hi hx];have hc:=hk i.toNat om _ (Wr gD);simp;rw[wi (i+1) om om]
  grind
def Zaiw {t:Zc} (ht:TOk t) {N:Z1} (h:Nz m N) (h1:1≤m) (hm:m≤999999):Ok (Zjs t N) λr=>Nz (m+1) r.1∧TOk r.2:=by
 have hf:=Z6;have hlim:=lim_eq;have h':=h.mono (show m≤m+1 by omega);have rl:=h.rl;have ll:=h.ll;have cl:=h.cl
 refine Nxt ht om om λr a0 a1 a2=>Wi (λ_=>?_) λ_=>Wi (λ_=>?_) λ_=>Wi (λ_=>?_) λ_=>Wi (λ_=>?_) λ_=>Wi (λ_=>?_) λ_=>Wi (λ_=>?_) λ_=>?_
 exact Wa (Z6g a2 h.t om) λq hq=>Wb ⟨{h' with t:=hq.1},hq.2⟩
 exact Wa (Z75 a2 h.fl h.fd om) λq hq=>Wb ⟨{h' with fl:=hq.1.1,fd:=hq.1.2},hq.2⟩
 rw[Z9b om λc hc=>by have:=(h.c c hc).l;omega];exact Waf om (Wb ⟨{h' with cl:=by grind,c:=λc hc=>(Wj.1 hc).elim (h'.c c) λq=>by rw[Wl.1 q];exact⟨sM,λp hp=>(by cases hp)⟩},a2⟩);rw[Z9b om λc hc=>by have:=(h.c c hc).l;omega]
 refine Lf ?_
 refine Wa (Zadz N.Topology N.Failure N.Routes N.Labels h1 om fuel r.2 N.Configs 0 a2 om cl h.c om) λo ho=>?_
 obtain⟨t2,T2,f2,R2,L2,l2⟩:=o;obtain⟨g1,rfl,rfl,rfl,rfl,g2,g3⟩:=ho;exact Wb ⟨{h' with cl:=by grind,c:=λc hc=>(g3 c hc).mono om},g1⟩
 refine Ap gD ?_
 refine Wa (Zad0 (m:=m) N.Topology N.Failure N.Configs N.Labels om fuel r.2 N.Routes 0 a2 om rl h'.r (λk _ c hc=>h.r c (Wq hc)) om) λo ho=>?_
 obtain⟨t2,T2,f2,C2,L2,R2⟩:=o;obtain⟨g1,rfl,rfl,rfl,rfl,g2,g3⟩:=ho;exact Wb ⟨{h' with rl:=by grind,r:=g3},g1⟩
 refine Ap gD ?_
 refine Wa (Zad1 (m:=m) N.Topology N.Failure N.Configs N.Routes om fuel N.Labels 0 om ll h'.l (λk _ c hc=>h.l c (Wq hc)) om) λo ho=>?_
 obtain⟨T2,f2,C2,R2,L2⟩:=o;obtain⟨rfl,rfl,rfl,rfl,g2,g3⟩:=ho;exact Wb ⟨{h' with ll:=by grind,l:=g3},a2⟩
 exact Wx (λhc=>Waf ⟨om,om,om⟩ (Wb ⟨{h' with ll:=by grind,l:=λl hl=>h'.l l gD},a2⟩)) λ_=>Wb ⟨h',a2⟩
end
def alB (t:Zb) (f:Zp) (d:Int):Bool:=decide (0≤d)&&(decide (d<t.Devices.length)&&!deB f d)
def usB (t:Zb) (f:Zp) (i:Int):Bool:=match idx t.Links i with
 |some l=>!(f.Links.any λy=>y==i)&&(alB t f l.A&&alB t f l.B)
 |none=>false
section
variable {N:Z1} (h:NIn N) (hv:Fv N.Topology N.Failure)
include h hv
def rAl (d:Int):Za2 N.Topology N.Failure d=some (alB N.Topology N.Failure d):=by
 obtain⟨b,e,hb⟩:=rFv h.t h.fl h.fd;rw[hb.2 hv]at e;unfold Za2 alB deB;rw[e,has_eq _ _ h.fd];simp[ifand rfl]
 grind
def pAl (d:Int):Zqt N.Topology N.Failure d=some (alB N.Topology N.Failure d):=by
 obtain⟨b,e,hb⟩:=pFv h.t h.fl h.fd;rw[hb.2 hv]at e;unfold Zqt Zjl alB deB;rw[e,Z33 _ _ h.fd];simp[ifand rfl]
 grind
def rUs (i:Int):Zc9 N.Topology N.Failure i=some (usB N.Topology N.Failure i):=by
 obtain⟨b,e,hb⟩:=rFv h.t h.fl h.fd;rw[hb.2 hv]at e;unfold Zc9 usB;rw[e,has_eq _ _ h.fl];simp only[Wc]
 by_cases h0:0≤i∧i<N.Topology.Links.length
 rw[idx_of h0.1 h0.2,Wf (show i≥0 from h0.1),Wf h0.2];simp only[Wc,rAl h hv,Wdo,if_true,ifand rfl]
 grind
 rw[Zn0 h0,show(true&&decide (i≥0)&&decide (i<N.Topology.Links.length))=false by simp;omega];rfl
def pUs (i:Int):Zpt N.Topology N.Failure i=some (usB N.Topology N.Failure i):=by
 obtain⟨b,e,hb⟩:=pFv h.t h.fl h.fd;rw[hb.2 hv]at e;unfold Zpt Zs2 Zjl usB;rw[e];simp only[Wc]
 by_cases h0:0≤i∧i<N.Topology.Links.length
 have hk:=hv.v.lk i h0.1 h0.2 _ (idx_of h0.1 h0.2);rw[idx_of h0.1 h0.2,Wf (show i≥0 from h0.1),Wf h0.2]
 generalize N.Topology.Links[i.toNat]'om=l at hk
 simp only[Wc,Z33 _ _ h.fd,Z33 _ _ h.fl,Wdo,if_true,ifand rfl]
 unfold lkB at hk
 unfold alB deB
 grind
 rw[Zn0 h0,show(true&&decide (i≥0)&&decide (i<N.Topology.Links.length))=false by simp;omega];rfl
end
def LR (l:List Zg) (b:Zg) (f:Bool) (k:Int):Prop:=(f=false∧k=-1∧b=Zu1)∨(f=true∧0≤k∧k<l.length∧idx l k=some b)
def Lk_L {l:List Zg} (hl:RtIn l) {a:Int} (ha:Zbd a):∀ n b f k (i:Int),LR l b f k→0≤i→i≤l.length→(l.length-i).toNat<n→∃ b' f' k',Zmg l a n b f i=some (b',f')∧Zkp l a n k i=some k'∧LR l b' f' k':=by
 have hn:=hl.n;intro n
 induction n with
 |zero=>omega
 |succ n ih=>
  intro b f k i hr h0 h1 hm;rw[Zmg,Zkp]
  by_cases hi:i<l.length
  have hx:=idx_of h0 hi;have hp:=hl.a _ (Zr2 hx);rw[if_pos (Wf hi),if_pos (Wf hi),wi (i+1) om om,hx]
  generalize l[i.toNat]'om=x at hx hp
  simp only[Wc,Z31 hp ha,Z30 hp];cases hc:pcB x.Prefix a;simp only[Wy,if_false,Wc];exact ih _ _ _ _ hr om om om
  rcases hr with⟨rfl,rfl,rfl⟩|⟨rfl,k0,k1,hk⟩
  simp only[if_true,Wc,Wfq,Bool.true_or,Wf (show(-1:Int)<0 by decide)];exact ih _ _ _ _ (.inr ⟨rfl,h0,hi,hx⟩) om om om;simp only[if_true,Wc,Wdt,Wc7,Wo (show ¬k<0 by omega),Wy,if_false,hk]
  by_cases hq:x.Prefix.Bits>b.Prefix.Bits
  rw[Wf hq];exact ih _ _ _ _ (.inr ⟨rfl,h0,hi,hx⟩) om om om;rw[Wo hq];exact ih _ _ _ _ (.inr ⟨rfl,k0,k1,hk⟩) om om om;rw[if_neg (by simpa using hi),if_neg (by simpa using hi)];exact⟨_,_,_,rfl,rfl,hr⟩
def Zakh {l:List Zg} (hl:RtIn l) {a:Int} (ha:Zbd a):∃ r,Zps l a=some r∧Zoj l a=some r∧(r.2=true→∃ k:Int,0≤k∧k<l.length∧idx l k=some r.1):=by
 have hn:=hl.n;have hf:=Z6;obtain⟨b,f,k,e1,e2,hr⟩:=Lk_L hl ha fuel Zu1 false (-1) 0 (.inl ⟨rfl,rfl,rfl⟩) om om om;unfold Zps Zoj;rw[e1,e2]
 rcases hr with⟨rfl,rfl,rfl⟩|⟨rfl,k0,k1,hk⟩
 exact⟨_,rfl,rfl,λh=>by cases h⟩
 refine⟨(b,true),rfl,?_,λ_=>⟨k,k0,k1,hk⟩⟩
 simp only[Wc,Wo (show ¬k<0 by omega),Wy,if_false,hk]
def Zaix {t:Zb} (ht:Tv t) {d i:Int} (h:ownB2 t d i=true):∃ l,idx t.Links i=some l∧0≤i∧0≤l.A+l.B-d∧l.A+l.B-d<t.Devices.length∧0≤l.A+l.B∧l.A+l.B≤24:=by
 unfold ownB2 at h
 by_cases h0:0≤i∧i<t.Links.length
 have hk:=ht.lk i h0.1 h0.2 _ (idx_of h0.1 h0.2);have hd:=ht.d1;rw[idx_of h0.1 h0.2]at h⊢
 generalize t.Links[i.toNat]'om=l at h hk
 unfold lkB at hk
 simp at h hk
 exact⟨l,rfl,h0.1,om,om,om,om⟩;rw[Zn0 h0]at h;cases h
def stOf (s:Zbp):Zb0:=⟨s.f_device,s.f_label⟩
def snP (P:List (Zbp×Bool)) (s:Zbp):Bool:=(mget Zah P s).getD false
def Zmw {a b:Zbp}:Zah a b=true↔a=b:=by
 cases a;cases b;simp[Zah]
def Zac2 {a b:Zb0}:Zcq a b=true↔a=b:=by
 cases a;cases b;simp[Zcq]
def Zzw (P:List (Zbp×Bool)) (s k:Zbp):snP (mput Zah P s true) k=(Zah s k||snP P k):=by
 have e:mget Zah (mput Zah P s true) k=if Zah s k=true then some true else mget Zah P k:=by
  have g1:∀ L:List (Zbp×Bool),mget Zah (L.map λx=>if Zah s x.1=true then(s,true)else x) k=if Zah s k=true then(bif L.any (λx=>Zah s x.1)then some true else none)else mget Zah L k:=by
   unfold mget;intro L
   induction L with
   |nil=>simp
   |cons x L ih=>
    have q1:=@Zmw s x.1;have q2:=@Zmw k x.1
    have hs:Zah k s=Zah s k:=by rw[Wa8,Zmw,Zmw,eq_comm]
    simp only[W0,Weg,Wgb]
    by_cases h1:Zah s x.1=true
    have h2:Zah k x.1=Zah s k:=by rw[←q1.1 h1,hs]
    rw[if_pos h1,h2,hs,h1];cases h3:Zah s k;rw[h3]at ih;exact ih;rfl
    have h1':Zah s x.1=false:=by simpa using h1
    rw[if_neg h1,h1',Wc7];cases h2:Zah k x.1;exact ih
    have h3:Zah s k=false:=by rw[q2.1 h2];exact h1'
    rw[h3];rfl
  have g2:∀ L:List (Zbp×Bool),L.any (λx=>Zah s x.1)=false→mget Zah (L++[(s,true)]) k=if Zah s k=true then some true else mget Zah L k:=by
   unfold mget;intro L
   induction L with
   |nil=>
    have q3:=@Zmw s k;have q4:=@Zmw k s;intro _;simp only[Wb4,Weg];cases h3:Zah s k<;>cases h4:Zah k s<;>simp only[h3,h4]at q3 q4⊢<;>grind
   |cons x L ih=>
    have q1:=@Zmw s x.1;have q2:=@Zmw k x.1;have q3:=@Zmw s k;intro hL;rw[Wgb,Bool.or_eq_false_iff]at hL;have:=ih hL.2;simp only[Wdc,Weg];cases h2:Zah k x.1
    simpa [h2]using this
    cases h3:Zah s k;rfl;have h4:=hL.1;rw[←q2.1 h2,h3]at h4;cases h4
  unfold mput;split;rename_i ha;rw[g1,ha];rfl;rename_i ha;exact g2 P (by revert ha;cases P.any λx=>Zah s x.1<;>simp)
 unfold snP;rw[e];cases Zah s k<;>simp
def bx (D:Nat):List Zbp:=(List.range D).flatMap λ(d:Nat)=>(List.range (D+1)).map λ(v:Nat)=>⟨(d:Int),(v:Int)-1⟩
def un (D:Nat) (P:List (Zbp×Bool)):Nat:=((bx D).filter λs=>!snP P s).length
def mem_bx {D:Nat} {d v:Int} (d0:0≤d) (d1:d<D) (v0:-1≤v) (v1:v<D):(⟨d,v⟩:Zbp)∈bx D:=
 Waq.2 ⟨d.toNat,Wdw.2 om,W9.2 ⟨(v+1).toNat,Wdw.2 om,by rw[show((d.toNat:Nat):Int)=d by omega,show(((v+1).toNat:Nat):Int)-1=v by omega]⟩⟩
def cnt_lt {α:Type} {p q:α→Bool}:∀ {l:List α} {x:α},(∀ y,q y=true→p y=true)→x∈l→p x=true→q x=false→(l.filter q).length<(l.filter p).length
 |[],x,_,h,_,_=>by cases h
 |y::l,x,hs,h,hp,hq=>by
  have le:(l.filter q).length≤(l.filter p).length:=by
   clear h
   induction l with
   |nil=>simp
   |cons z l ih=>have:=hs z;grind
  have:=hs y
  rcases W1.1 h with rfl|h
  simp[hp,hq];omega;have:=cnt_lt hs h hp hq
  grind
def un_put {D:Nat} {P:List (Zbp×Bool)} {s:Zbp} (hs:s∈bx D) (h:snP P s=false):un D (mput Zah P s true)<un D P:=
 cnt_lt (x:=s) (λy hy=>by rw[Zzw]at hy;grind) hs (by simp[h]) (by rw[Zzw,Zmw.2 rfl];rfl)
def un_le {D:Nat} (hD:D≤12) (P:List (Zbp×Bool)):un D P≤200:=by
 refine Wbj (Wfb ..) ?_
 unfold bx
 have:∀ l:List Nat,(l.flatMap λ(d:Nat)=>(List.range (D+1)).map λ(v:Nat)=>(⟨(d:Int),(v:Int)-1⟩:Zbp)).length=l.length*(D+1):=by
  intro l
  induction l with
  |nil=>simp
  |cons x l ih=>rw[Wet,Wm,ih];simp;grind
 rw[this,Wer];have:=Wdy hD (show D+1≤13 by omega);omega
def L2_eq (p:List Int) (R:List Zb0) (hR:R.length≤1000) (d v:Int) (x y:Zag) (h0:0≤x.A+y.B) (h1:x.A+y.B≤24) (g0:0≤x.A+y.B-d) (g1:x.A+y.B-d≤24):Zds p R d v x y fuel 0=some (if R.any (λs=>Zcq s ⟨x.A+y.B-d,v⟩)=true then .inr (p++[x.A+y.B-d],1)else .inl ()):=by
 have e1:=wi (x.A+y.B) om om;have e2:=wi (x.A+y.B-d) om om;rw[Zns (L:=Zds p R d v x y) R (λ_ s=>if Zcq s ⟨x.A+y.B-d,v⟩=true then some (p++[x.A+y.B-d],(1:Int))else none) om (λn i hi=>by rw[Zds,if_pos gD,Zaq hi,wsucc om,e1,e2];simp only[Wc];split<;>simp_all) λn=>by rw[Zds,if_neg sM]]
 have key:∀(l:List Zb0) i,findI (λ_ s=>if Zcq s ⟨x.A+y.B-d,v⟩=true then some (p++[x.A+y.B-d],(1:Int))else none) i l=if l.any (λs=>Zcq s ⟨x.A+y.B-d,v⟩)=true then some (p++[x.A+y.B-d],1)else none:=by
  intro l
  induction l with
  |nil=>intro i;rfl
  |cons s l ih=>
   intro i
   by_cases hx:Zcq s ⟨x.A+y.B-d,v⟩=true
   simp[findI,hx];simp[findI,hx,ih (i+1)]
 rw[key];split<;>rfl
def fol_L {N:Z1} (h:NIn N) (hv:Nv N) {a:Int} (ha:Zbd a):∀ k n m (p:List Int) (P:List (Zbp×Bool)) (R:List Zb0) (d v:Int),un N.Topology.Devices.length P≤k→k<n→k<m→p.length+k≤900→R.length=p.length →
  0≤d→d<N.Topology.Devices.length→-1≤v→v<N.Topology.Devices.length→snP P ⟨d,v⟩=false→(∀ s,stOf s∈R↔s=⟨d,v⟩∨snP P s=true) →
  ∃ r,Zg6 N a false n p P d v=some r∧Zg0 N a false m p R d v=some r∧r.1.length≤1000:=by
 have hlim:=lim_eq;have hD:=hv.f.v.d1;intro k
 induction k with
 |zero=>
  intro n m p P R d v hk _ _ _ _ d0 d1 v0 v1 hs _;have:=un_put (mem_bx d0 d1 v0 v1) hs;omega
 |succ k ih=>
  intro n m p P R d v hk hn hm hp hR d0 d1 v0 v1 hs hRP;obtain⟨n,rfl⟩:∃ q,n=q+1:=⟨n-1,om⟩;obtain⟨m,rfl⟩:∃ q,m=q+1:=⟨m-1,om⟩;have hlt:=un_put (mem_bx d0 d1 v0 v1) hs;rw[Zg6,Zg0,if_neg (by unfold snP at hs;simp[hs])]
  obtain⟨u,hu,u0,u1,hud⟩:∃ u:Int,(if(v==d)=true then(if false=true then some (Sum.inr (p,(0:Int)))else some (.inl (-1:Int)))else some (.inl v):Option (Int⊕(List Int×Int)))=some (.inl u)∧-1≤u∧u<N.Topology.Devices.length∧u≠d:=by
   by_cases e:v=d
   exact⟨-1,by simp[e],om,om,om⟩;exact⟨v,by simp[e],v0,v1,e⟩
  rw[hu];simp only[Wc];have ir:=idx_of (l:=N.Routes) d0 (by have:=hv.r;omega);have il:=idx_of (l:=N.Labels) d0 (by have:=hv.l;omega);have hdn:=hv.d d d0 d1 _ ir _ il;have hrt:=h.r _ (Zr2 ir);rw[ir,il]
  generalize N.Routes[d.toNat]'(by have:=hv.r;omega)=lr at hdn hrt
  generalize N.Labels[d.toNat]'(by have:=hv.l;omega)=lb at hdn
  have step:∀ i:Int,(i=-1∨ownB2 N.Topology d i=true)→∃ r,
    ((Ztz N d i).bind λ(r122:(Int×Bool))=>
       if(!r122.2)=true then
        some (p,(2:Int))
       else
        if List.length p+List.length [r122.1]≤lim then
        Zg6 N a false n (p++[r122.1]) (mput Zah P (Zbp.mk d v) true) r122.1 u
        else none)=some r ∧
    ((some (decide (i<(0:Int)))).bind λ(b158:Bool)=>
      (if b158=true then some true else
       (Zc9 N.Topology N.Failure i).bind λ(r160:Bool)=>
       some (!r160)
       ).bind λ(v162:Bool)=>
      if v162=true then
       some (p,(2:Int))
      else
       (idx N.Topology.Links i).bind λ(x164:Zag)=>
       (idx N.Topology.Links i).bind λ(x166:Zag)=>
       if List.length p+List.length [(wrap .i64 ((wrap .i64 (x164.A+x166.B))-d))]≤lim then
       (Zds p R d u x164 x166 fuel (0:Int)).bind λ(o172:(Unit⊕(Ya×Int)))=>
       match o172 with
       |.inl ()=>
         if List.length R+List.length [(Zb0.mk (wrap .i64 ((wrap .i64 (x164.A+x166.B))-d)) u)]≤lim then
         Zg0 N a false m (p++[(wrap .i64 ((wrap .i64 (x164.A+x166.B))-d))]) (R++[(Zb0.mk (wrap .i64 ((wrap .i64 (x164.A+x166.B))-d)) u)]) (wrap .i64 ((wrap .i64 (x164.A+x166.B))-d)) u
         else none
       |.inr r178=>
         some r178
       else none)=some r∧r.1.length≤1000:=by
   intro i hi;unfold Ztz;rw[pUs h hv.f,rUs h hv.f]
   rcases hi with rfl|hi
   exact⟨(p,2),rfl,rfl,by dsimp only;omega⟩;obtain⟨l,hl,i0,a0,a1,b0,b1⟩:=Zaix hv.f.v hi;rw[hl];have e1:=wi (l.A+l.B) om om;have e2:=wi (l.A+l.B-d) om om;simp only[Wc,Wo (show ¬i<0 by omega),Wy,if_false,e1,e2];cases hus:usB N.Topology N.Failure i;exact⟨(p,2),rfl,rfl,by dsimp only;omega⟩;simp only[Wdt,Wy,if_false,Wbv];rw[if_pos om,if_pos om,L2_eq p R om d u l l b0 b1 a0 om]
   have hany:(R.any λs=>Zcq s ⟨l.A+l.B-d,u⟩)=(Zah ⟨d,v⟩ ⟨l.A+l.B-d,u⟩||snP P ⟨l.A+l.B-d,u⟩):=by
    rw[Wa8,Wgq,Wbo,Zmw];have:=hRP ⟨l.A+l.B-d,u⟩;constructor;rintro⟨s,g1,g2⟩;rw[Zac2]at g2;subst g2
    rcases this.1 g1 with q|q
    exact .inl q.symm;exact .inr q;intro q;exact⟨_,this.2 (q.imp Eq.symm id),Zac2.2 rfl⟩
   cases hq:(R.any λs=>Zcq s ⟨l.A+l.B-d,u⟩);simp only[Wc,Wdt,Wy,if_false,if_pos (show p.length+1≤lim by omega)]
   refine ih n m (p++[l.A+l.B-d]) (mput Zah P ⟨d,v⟩ true) (R++[⟨l.A+l.B-d,u⟩]) (l.A+l.B-d) u om om om sO sO a0 a1 u0 u1 (by rw[Zzw,←hany,hq]) λs=>?_
   rw[Wj,hRP s,Zzw,Wbo,Zmw,Wl];cases s;simp[stOf]
   grind
   simp only[Wc,Wdt,Wy,if_false,if_true,if_pos (show p.length+1≤lim by omega)];obtain⟨n,rfl⟩:∃ q,n=q+1:=⟨n-1,om⟩
   refine⟨(p++[l.A+l.B-d],1),?_,rfl,sO⟩
   rw[Zg6,if_pos];have:=Zzw P ⟨d,v⟩ ⟨l.A+l.B-d,u⟩;rw[←hany,hq]at this;exact this
  by_cases hu1:u=-1
  subst hu1;simp only[show((-1:Int)!=-1)=false from rfl,Wy,if_false,Wc];obtain⟨r,e1,e2,hr⟩:=Zakh hrt ha;rw[e1,e2];simp only[Wc];cases hr2:r.2;simp only[Bool.false_and,Wy,if_false,Wc];exact step (-1) (.inl rfl);obtain⟨j,j0,j1,hj⟩:=hr hr2;have hb:=hdn.r j j0 j1 _ hj
  unfold rtB at hb
  cases he:r.1.Edge;rw[he]at hb;simp only[Bool.and_false,Wy,if_false,Wc,if_true];exact step _ (.inr hb);rw[he]at hb;simp only[if_true]at hb
  unfold egO at hb
  simp only[Wdo,if_true]
  by_cases hg:0≤r.1.Port∧r.1.Port<N.Topology.Edges.length
  have hx:=idx_of hg.1 hg.2;have hxa:=h.t.ea _ (Zr2 hx);rw[hx];simp only[Wc,Z31 hxa ha,Z30 hxa];generalize pcB _ a=c;cases c;exact⟨(p,3),rfl,rfl,by dsimp only;omega⟩;exact⟨(p,0),rfl,rfl,by dsimp only;omega⟩;rw[Zn0 hg]at hb;cases hb
  have u2:(u !=-1)=true:=by simpa using hu1
  have hx:=idx_of (l:=lb) (show 0≤u by omega) (by have:=hdn.m;omega);have hb:=hdn.b u om (by have:=hdn.m;omega) _ hx;rw[u2];simp only[if_true,Wc,hx]
  refine step _ ?_
  unfold lbB at hb
  generalize lb[u.toNat]'(by have:=hdn.m;omega)=x at hb
  simp at hb
  grind
def Zad2 {N:Z1} (h:NIn N) (hv:Nv N) {a:Int} (ha:Zbd a) {d v:Int} (d0:0≤d) (d1:d<N.Topology.Devices.length) (v0:-1≤v) (v1:v<N.Topology.Devices.length):∃ r,Zru N d v a false=some r∧Zok N d v a false=some r∧r.1.length≤1000:=by
 have hf:=Z6;have hD:=hv.f.v.d1
 obtain⟨r,e1,e2,hr⟩:=fol_L h hv ha 200 fuel fuel [d] [] [⟨d,v⟩] d v (un_le om _) om om sM rfl d0 d1 v0 v1 rfl λs=>by cases s;simp[stOf,snP,mget]
 unfold Zru Zok;rw[e1,e2];exact⟨r,rfl,rfl,hr⟩
def Zac3 (l:List Int) (hl:l.length≤1000):Znq l l=some 0:=by
 have hf:=Z6
 have key:∀ n (i:Int),0≤i→i≤l.length→(l.length-i).toNat<n→Zjm l l n i=some (.inl ()):=by
  intro n
  induction n with
  |zero=>omega
  |succ n ih=>
   intro i h0 h1 h2;rw[Zjm]
   by_cases hi:i<l.length
   rw[Wf hi,wi (i+1) om om,idx_of h0 hi]
   simpa using ih (i+1) om om om
   rw[Wo hi];rfl
 unfold Znq;rw[key fuel 0 om om om];simp
def Z01 {N:Z1} (h:NIn N) {a:Int} (ha:Zbd a) (d v:Int):Zf4 N d v a=some true:=by
 obtain⟨b,e1,e2,hb⟩:=Zaf0 h
 suffices q:∃ r,Zrv N d v a=some r∧Zol N d v a=some r∧r.1.length≤1000 by
  obtain⟨r,g1,g2,g3⟩:=q;unfold Zf4;rw[g1,g2];simp only[Wc,Zac3 _ g3];simp
 unfold Zrv Zol;rw[e1,e2];cases b;exact⟨_,rfl,rfl,sM⟩;have hv:=(hb.1 rfl).n;simp only[Wc,Wdt,Wy,if_false,pAl h hv.f,rAl h hv.f];split;exact⟨_,rfl,rfl,sM⟩;rename_i hc
 have hal:alB N.Topology N.Failure d=true∧-1≤v∧v<N.Topology.Devices.length:=by
  simp at hc
  exact⟨hc.1.1,hc.1.2,hc.2⟩
 obtain⟨c1,c2,c3⟩:=hal
 unfold alB at c1
 simp at c1
 obtain⟨r,f1,f2,f3⟩:=Zad2 h hv ha c1.1 c1.2.1 c2 c3;rw[f1,f2];exact⟨_,rfl,rfl,f3⟩
def Z6h {l:List Int} {d v a:Int} (hl:Zabo l) (_:Zy2 d) (_:Zy2 v) (ha:Zbd a):Znx l d v a=some true:=by
 have hf:=Z6;have hl1:=hl.1;obtain⟨t,e,ht⟩:=New_ok (l:=l) om
 refine Whh ?_
 unfold Znx;rw[e]
 refine Wia (Wa (Zaf6 ht 5 1 true om om om) λr hr=>?_)
 have hz:=hr.1.nz;have hN:=hz.in om;have hd:=hz.t.d
 have L:∀ n t (i:Int),TOk t→0≤i→i≤4→(4-i).toNat<n→Ok (Zgg r n t i) λo=>∃ u,o=.inl u∧TOk u:=by
  intro n
  induction n with
  |zero=>omega
  |succ n ih=>
   intro t i ht h0 h1 hn;rw[Zgg]
   refine Wx (λhc=>?_) λ_=>Wb ⟨_,rfl,ht⟩
   rw[wi (i+1) om om,wi (_+2) om om,wi (_+3) om om]
   refine Nxt ht om om λx _ _ x2=>Nxt x2 om om λy _ _ y2=>Wa (Zv6 y2) λz hz2=>?_
   rw[Z01 hN ⟨hz2.1.1,by have:=hz2.1.2;omega⟩];exact ih _ _ hz2.2 om om om
 refine Wa (L fuel r.2 0 hr.2 om om om) λo ho=>?_
 obtain⟨u,rfl,hu⟩:=ho;simp only;rw[Z01 hN ha]
 refine Wia (Wia (Wa (p:=λx=>x.1=true) (Wa (Zaiw hu hz om om) λs hs=>?_) λx hx=>?_))
 rw[Z01 (hs.1.in om) ha];exact Wb rfl;rw[hx];exact Wb rfl
end
end Go.AM

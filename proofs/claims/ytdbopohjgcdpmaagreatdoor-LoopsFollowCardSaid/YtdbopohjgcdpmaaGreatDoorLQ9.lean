/- Parts of a proof, printed short. No condition. -/
import Derived.Test.YtdbopohjgcdpmaaGreatDoorLQ8
set_option maxRecDepth 100000
set_option linter.all false
namespace Go.AM
noncomputable section
open Go
open Go.IntKind(wrap)
def Ok {α:Type} (x:Option α) (p:α→Prop):Prop:=∃ r,x=some r∧p r
def Ok.bind {α γ:Type} {x:Option α} {p:α→Prop} {f:α→Option γ} {q:γ→Prop} (h:Ok x p) (k:∀ v,p v→Ok (f v) q):Ok (x.bind f) q:=by
 obtain⟨v,rfl,hv⟩:=h;exact k v hv
def Wa:=@Ok.bind
def Ok.ret {α:Type} {r:α} {p:α→Prop} (h:p r):Ok (some r) p:=⟨r,rfl,h⟩
def Wb:=@Ok.ret
def Ok.chk {α:Type} {c:Prop} [Decidable c] {x:Option α} {p:α→Prop} (hc:c) (h:Ok x p):Ok (if c then x else none) p:=by rw[if_pos hc];exact h
def Waf:=@Ok.chk
def Ok.ite {α:Type} {c:Prop} [Decidable c] {x y:Option α} {p:α→Prop} (h1:c→Ok x p) (h2:¬c→Ok y p):Ok (if c then x else y) p:=by
 split
 ·exact h1 aS
 ·exact h2 aS
def Wi:=@Ok.ite
def Ok.lift {α γ:Type} {b:α} {f:α→Option γ} {q:γ→Prop} (h:Ok (f b) q):Ok ((Option.some b).bind f) q:=h
def Wia:=@Ok.lift
def Ok.mono {α:Type} {x:Option α} {p q:α→Prop} (h:Ok x p) (k:∀ v,p v→q v):Ok x q:=by
 obtain⟨v,h1,h2⟩:=h;exact⟨v,h1,k v h2⟩
def Ok.get {α:Type} {x:Option α} {p:α→Prop} (h:Ok x p) {r:α} (e:x=some r):p r:=by
 obtain⟨v,h1,h2⟩:=h;rw[h1]at e;cases e;exact h2
def Ok.eq {α:Type} {x:Option α} {r:α} (h:Ok x (·=r)):x=some r:=by
 obtain⟨v,h1,rfl⟩:=h;exact h1
def Whh:=@Ok.eq
def Wv:=@List.getElem_mem
def Ok.idx {α:Type} {l:List α} {i:Int} {p:α→Prop} (h0:0≤i) (h1:i<l.length) (h:∀ x∈l,p x):Ok (idx l i) p:=by
 have hi:i.toNat<l.length:=om
 exact⟨l[i.toNat],by simp[AM.idx,h0,hi],h _ (Wv hi)⟩
def Wd0:=@Ok.idx
def Zaq {α:Type} {l:List α} {i:Nat} (h:i<l.length):AM.idx l (i:Int)=some l[i]:=by simp[AM.idx,h]
def wrap_u (k:IntKind) (b:Nat) (hs:k.signed=false) (hb:k.bits=b) (x:Int):k.wrap x=x%(2^b:Int):=by
 subst hb;simp[wrap,hs]
def wi64 {x:Int} (h0:-9223372036854775808≤x) (h1:x<9223372036854775808):wrap .i64 x=x:=by
 simp only[wrap,IntKind.bits,IntKind.signed];simp;omega
def wu64 {x:Int} (h0:0≤x) (h1:x<18446744073709551616):wrap .u64 x=x:=by
 simp only[wrap,IntKind.bits,IntKind.signed];simp;omega
def wu32 {x:Int} (h0:0≤x) (h1:x<4294967296):wrap .u32 x=x:=by
 simp only[wrap,IntKind.bits,IntKind.signed];simp;omega
def Zc2 (x:Int):0≤wrap .u32 x∧wrap .u32 x<4294967296:=by
 simp only[wrap,IntKind.bits,IntKind.signed];simp;omega
def Z9t (x:Int):0≤wrap .u8 x∧wrap .u8 x<256:=by
 simp only[wrap,IntKind.bits,IntKind.signed];simp;omega
def Zub (x:Int):0≤wrap .u64 x∧wrap .u64 x<18446744073709551616:=by
 simp only[wrap,IntKind.bits,IntKind.signed];simp;omega
def Zafe (x:Int):-9223372036854775808≤wrap .i64 x∧wrap .i64 x<9223372036854775808:=by
 simp only[wrap,IntKind.bits,IntKind.signed];simp;split<;>omega
def Wb3:=@Int.toNat_natCast
def Zaby {k:Nat} (h:k<64):bShl .u64 1 (k:Int)=(2^k:Nat):=by
 have h2:(2:Nat)^k<2^64:=Nat.pow_lt_pow_right om h;unfold bShl
 have e:((1:Int)*2^min (k:Int).toNat (IntKind.bits .u64))=((2^k:Nat):Int):=by
  rw[show IntKind.bits .u64=64 from rfl,Wb3,Wbp om];simp
 have h3:((2^k:Nat):Int)<18446744073709551616:=Int.ofNat_lt.2 h2;rw[e];exact wu64 (Int.natCast_nonneg _) h3
structure TOk (t:Zc):Prop where
 h0:0≤t.f_i
 h1:t.f_i≤t.f_l.length
 h2:(t.f_l.length:Int)<9223372036854775808
def New_ok {l:List Int} (h:(l.length:Int)<9223372036854775808):Ok (Zwf l) TOk:=Wb ⟨Wbf 0,sM,h⟩
def Mod_ok {x n:Int} (h1:1≤n) (h2:n<9223372036854775808):Ok (Zq6 x n) λv=>0≤v∧v<n:=by
 unfold Zq6;have hn:wrap .u64 n=n:=wu64 om om;rw[hn];have hx:=Zub x;have h3:0≤Int.tmod (wrap .u64 x) n:=Int.tmod_nonneg _ hx.1;have h4:Int.tmod (wrap .u64 x) n<n:=Int.tmod_lt_of_pos _ om
 refine Waf om (Wb ?_)
 rw[wi64 om om];exact⟨h3,h4⟩
def Zaef {t:Zc} (ht:TOk t) (n:Int) (h2:n<9223372036854775808):Ok (Zh t n) λr=>(0≤r.1∧(r.1<n∨r.1=0))∧TOk r.2:=by
 unfold Zh
 refine Wia (Wi (λhc=>Wb ⟨⟨sM,.inr rfl⟩,ht⟩) λhc=>?_)
 simp only[Wbo,W4]at hc
 have hc1:¬n≤1:=λh=>hc (.inl h)
 have hc2:¬t.f_i≥t.f_l.length:=λh=>hc (.inr h)
 have h0:=ht.h0;have h1:=ht.h2;have e1:wrap .i64 (t.f_i+1)=t.f_i+1:=wi64 om om;rw[e1]
 have e2:wrap .i64 (t.f_i+1-1)=t.f_i:=by rw[Int.add_sub_cancel];exact wi64 om om
 rw[e2]
 refine Wa (Wd0 (p:=λ_=>True) h0 om λ_ _=>trivial) λx _=>?_
 refine Wa (Mod_ok om h2) λv hv=>Wb ⟨⟨hv.1,.inl hv.2⟩,?_⟩
 exact⟨by show 0≤t.f_i+1;omega,by show t.f_i+1≤t.f_l.length;omega,h1⟩
def Zo3 {t:Zc} (ht:TOk t) (n:Int) (h1:1≤n) (h2:n<9223372036854775808):Ok (Zh t n) λr=>(0≤r.1∧r.1<n)∧TOk r.2:=
 (Zaef ht n h2).mono λr ⟨⟨h3,h4⟩,h5⟩=>⟨⟨h3,om⟩,h5⟩
def full:Arr5 Za:=⟨⟨0,4294967295⟩,⟨0,4294967295⟩,⟨0,255⟩,⟨0,65535⟩,⟨0,65535⟩⟩
def Z8v:Zcv=some full:=kR
structure ROk (top:Int) (r:Za):Prop where
 h0:0≤r.Lo
 h1:r.Lo≤r.Hi
 h2:r.Hi≤top
structure RIn (r:Za):Prop where
 h0:0≤r.Lo
 h1:r.Lo<4294967296
 h2:0≤r.Hi
 h3:r.Hi<4294967296
def ROk.rin {top:Int} {r:Za} (h:ROk top r) (ht:top<4294967296):RIn r:=⟨h.h0,by have:=h.h1;have:=h.h2;omega,by have:=h.h0;have:=h.h1;omega,by have:=h.h2;omega⟩
structure BOk (b:Arr5 Za):Prop where
 h0:ROk 4294967295 b.x0
 h1:ROk 4294967295 b.x1
 h2:ROk 255 b.x2
 h3:ROk 65535 b.x3
 h4:ROk 65535 b.x4
structure BIn (b:Arr5 Za):Prop where
 h0:RIn b.x0
 h1:RIn b.x1
 h2:RIn b.x2
 h3:RIn b.x3
 h4:RIn b.x4
def BOk.bin {b:Arr5 Za} (h:BOk b):BIn b:=⟨h.h0.rin om,h.h1.rin om,h.h2.rin om,h.h3.rin om,h.h4.rin om⟩
def Zmv:BOk full:=⟨⟨dC,dC,dC⟩,⟨dC,dC,dC⟩,⟨dC,dC,dC⟩,⟨dC,dC,dC⟩,⟨dC,dC,dC⟩⟩
def topOf (i:Int):Int:=if i=0 then 4294967295 else if i=1 then 4294967295 else if i=2 then 255 else 65535
def Top_eq (f:Int) (h0:0≤f) (h1:f<5):Zms f=some (topOf f):=by
 have hk:f=0∨f=1∨f=2∨f=3∨f=4:=om
 rcases hk with rfl|rfl|rfl|rfl|rfl<;>rfl
def fuel6:fuel=1180591620717411303418+6:=kR
def Wag:=@List.not_mem_nil
def Zya {t:Zc} (ht:TOk t) {top:Int} (h0:0≤top) (h1:top<4294967296):Ok (Zdj t top) λr=>(0≤r.1∧r.1≤top)∧TOk r.2:=by
 unfold Zdj
 refine Wa (Zo3 ht 17 om om) λr ⟨⟨h2,h3⟩,h4⟩=>?_
 have hw:=Zc2 (Int.tdiv top 2);have hw2:=Zc2 (top-1)
 refine Wa (Wd0 (p:=λx=>0≤x) h2 (by simpa using h3) λx hx=>?_) λx hx=>Wb ⟨⟨?_,?_⟩,h4⟩
 ·simp only[W1,Wag,or_false]at hx
  omega
 ·show 0≤iMin x top
  unfold iMin;split<;>omega
 ·show iMin x top≤top
  unfold iMin;split<;>omega
def Z57 {t:Zc} (ht:TOk t) {top:Int} (h0:0≤top) (h1:top<4294967296):Ok (Zfa t top) λr=>ROk top r.1∧TOk r.2:=by
 unfold Zfa
 refine Wa (Zya ht h0 h1) λr ⟨⟨h2,h3⟩,h4⟩=>Wa (Zya h4 h0 h1) λs ⟨⟨h5,h6⟩,h7⟩=>Wb ⟨⟨?_,?_,?_⟩,h7⟩
 ·show 0≤iMin r.1 s.1
  unfold iMin;split<;>omega
 ·show iMin r.1 s.1≤iMax r.1 s.1
  unfold iMin iMax;split<;>split<;>omega
 ·show iMax r.1 s.1≤top
  unfold iMax;split<;>omega
def subnets:List Zn:=[⟨167772160,24⟩,⟨167772416,24⟩,⟨167772672,25⟩,⟨167772800,26⟩,⟨2886729728,16⟩,⟨3232237321,32⟩]
def Z3h {x:Int}:Ok (Ze4 x) λp=>p∈subnets:=by
 unfold Ze4
 refine Wa (Mod_ok om om) λr ⟨h0,h1⟩=>?_
 exact Wa (Wd0 (p:=λp=>p∈subnets) h0 (by simpa using h1) λx hx=>hx) λx hx=>Wb hx
def Of_ok {p:Zn} (hp:p∈subnets):Ok (Za7 p) λr=>ROk 4294967295 r.1:=by
 simp only[subnets,W1,Wag,or_false]at hp
 rcases hp with rfl|rfl|rfl|rfl|rfl|rfl
 ·exact⟨(⟨167772160,167772415⟩,true),kR,dC,dC,dC⟩
 ·exact⟨(⟨167772416,167772671⟩,true),kR,dC,dC,dC⟩
 ·exact⟨(⟨167772672,167772799⟩,true),kR,dC,dC,dC⟩
 ·exact⟨(⟨167772800,167772863⟩,true),kR,dC,dC,dC⟩
 ·exact⟨(⟨2886729728,2886795263⟩,true),kR,dC,dC,dC⟩
 ·exact⟨(⟨3232237321,3232237321⟩,true),kR,dC,dC,dC⟩
def Zv6 {t:Zc} (ht:TOk t):Ok (Zcy t) λr=>(0≤r.1∧r.1≤4294967295)∧TOk r.2:=by
 unfold Zcy
 refine Wa (Zo3 ht 5 om om) λr ⟨⟨h2,h3⟩,h4⟩=>Wi (λ_=>?_) λ_=>?_
 ·refine Wa (Zo3 h4 6 om om) λr ⟨⟨h2,h3⟩,h4⟩=>?_
  refine Wa (Wd0 (p:=λx=>0≤x∧x≤4294967295) h2 (by simpa using h3) λx hx=>?_) λx hx=>Wb ⟨hx,h4⟩
  simp only[W1,Wag,or_false]at hx;omega
 ·refine Wa (Zo3 h4 6 om om) λr ⟨⟨h2,h3⟩,h4⟩=>Wa Z3h λp hp=>Wa (Of_ok hp) λq hq=>?_
  refine Wa (Zo3 h4 5 om om) λr ⟨⟨h2,h3⟩,h4⟩=>?_
  refine Wa (Wd0 (p:=λx=>0≤x∧x≤4294967295) h2 (by simpa using h3) λx hx=>?_) λx hx=>Wb ⟨hx,h4⟩
  have g0:=hq.h0;have g1:=hq.h1;have g2:=hq.h2;have w1:=Zc2 (q.1.Lo+5);have w2:=Zc2 (q.1.Hi+1);have w3:=Zc2 (q.1.Lo-1);simp only[W1,Wag,or_false]at hx;omega
def Z3i {t:Zc} (ht:TOk t):Ok (Zex t) λr=>ROk 4294967295 r.1∧TOk r.2:=by
 unfold Zex
 refine Wa (Zo3 ht 4 om om) λr ⟨⟨h2,h3⟩,h4⟩=>Wi (λ_=>?_) λ_=>Wi (λ_=>?_) λ_=>Wi (λ_=>?_) λ_=>?_
 ·exact Wa (Zo3 h4 6 om om) λr ⟨⟨h2,h3⟩,h4⟩=>Wa Z3h λp hp=>Wa (Of_ok hp) λq hq=>Wb ⟨hq,h4⟩
 ·refine Wa (Zv6 h4) λa ⟨⟨a1,a2⟩,a3⟩=>Wa (Zv6 a3) λb ⟨⟨b1,b2⟩,b3⟩=>Wb ⟨⟨?_,?_,?_⟩,b3⟩
  ·show 0≤iMin a.1 b.1
   unfold iMin;split<;>omega
  ·show iMin a.1 b.1≤iMax a.1 b.1
   unfold iMin iMax;split<;>split<;>omega
  ·show iMax a.1 b.1≤4294967295
   unfold iMax;split<;>omega
 ·exact Wa (Zv6 h4) λa ⟨⟨a1,a2⟩,a3⟩=>Wb ⟨⟨a1,Wbf _,a2⟩,a3⟩
 ·exact Wb ⟨⟨Wbf _,(by decide:(0:Int)≤4294967295),Wbf _⟩,h4⟩
def Wb9:=@of_decide_eq_true
def Z9u:∀(n:Nat) (t:Zc) (b:Arr5 Za) (i:Int),TOk t→BOk b→i≤n→0≤i→i<100→Ok (Zev (n+1) t b i) λr=>TOk r.1∧BOk r.2
 |0,t,b,i,ht,hb,hi,h0,h9=>by
  rw[Zev]
  exact Wi (λhc=>absurd (Wb9 hc) om) λ_=>Wb ⟨ht,hb⟩
 |n+1,t,b,i,ht,hb,hi,h0,h9=>by
  rw[Zev]
  refine Wi (λhc=>?_) λ_=>Wb ⟨ht,hb⟩
  have hc:=Wb9 hc
  refine Wa (p:=λr=>TOk r.1∧BOk r.2) ?_ λr ⟨h1,h2⟩=>?_
  ·refine Wa (Zo3 ht 5 om om) λr ⟨_,h4⟩=>Wi (λ_=>?_) λ_=>Wi (λ_=>?_) λ_=>Wi (λ_=>?_) λ_=>Wi (λ_=>?_) λ_=>?_
   ·exact Wa (Z3i h4) λq ⟨g1,g2⟩=>Wb ⟨g2,⟨g1,hb.h1,hb.h2,hb.h3,hb.h4⟩⟩
   ·exact Wa (Z3i h4) λq ⟨g1,g2⟩=>Wb ⟨g2,⟨hb.h0,g1,hb.h2,hb.h3,hb.h4⟩⟩
   ·refine Wa (Zo3 h4 6 om om) λr ⟨⟨h2,h3⟩,h4⟩=>?_
    refine Wa (Wd0 (p:=λx=>0≤x∧x≤255) h2 (by simpa using h3) λx hx=>?_) λx hx=>Wb ⟨h4,⟨hb.h0,hb.h1,⟨hx.1,Wbf _,hx.2⟩,hb.h3,hb.h4⟩⟩
    simp only[W1,Wag,or_false]at hx;omega
   ·exact Wa (Z57 h4 om om) λq ⟨g1,g2⟩=>Wb ⟨g2,⟨hb.h0,hb.h1,hb.h2,g1,hb.h4⟩⟩
   ·exact Wa (Z57 h4 om om) λq ⟨g1,g2⟩=>Wb ⟨g2,⟨hb.h0,hb.h1,hb.h2,hb.h3,g1⟩⟩
  ·obtain⟨r1,r2⟩:=r
   show Ok (Zev (n+1) r1 r2 (wrap .i64 (i-1))) _;rw[wi64 om om];exact Z9u n r1 r2 (i-1) h1 h2 om om om
def Box_ok {t:Zc} (ht:TOk t):Ok (Zoa t) λr=>BOk r.1∧TOk r.2:=by
 unfold Zoa;rw[Z8v]
 refine Wia (Wa (Zo3 ht 3 om om) λr ⟨⟨h2,h3⟩,h4⟩=>?_)
 have e:wrap .i64 (1+r.1)=1+r.1:=wi64 om om;rw[e]
 refine Wa (Z9u 1180591620717411303423 r.2 full (1+r.1) h4 Zmv om om om) λq ⟨g1,g2⟩=>?_
 obtain⟨q1,q2⟩:=q;exact Wb ⟨g2,g1⟩
def five {k:Int} (h0:0≤k) (h1:k<5):k=0∨k=1∨k=2∨k=3∨k=4:=om
def wnext {k:Int} (h0:0≤k) (h1:k<1000000):wrap .i64 (k+(1:Int))=k+1:=wi64 om om
def sideBad (top:Int) (r:Za):Bool:=decide (r.Lo>r.Hi)||decide (r.Hi>top)
def Zahw {k:Int} (h0:0≤k) (h1:k<5):Arr5.get Zmr k=topOf k:=by
 rcases five h0 h1 with rfl|rfl|rfl|rfl|rfl<;>rfl
def Wf:=@decide_eq_true
def vstep (b:Arr5 Za) (n:Nat) {k:Int} (h0:0≤k) (h1:k<5):Zbx b (n+1) k=if sideBad (topOf k) (b.get k)=true then some (.inr false)else Zbx b n (k+1):=by
 rw[Zbx,if_pos (Wf h1),if_pos ⟨h0,h1⟩,if_pos ⟨h0,h1⟩,Zahw h0 h1,wnext h0 om];unfold sideBad;cases decide ((b.get k).Lo>(b.get k).Hi)<;>simp
def rvstep (b:Arr5 Za) (n:Nat) {k:Int} (h0:0≤k) (h1:k<5):Zaw b (n+1) k=if sideBad (topOf k) (b.get k)=true then some (.inr false)else Zaw b n (k+1):=by
 rw[Zaw,if_pos (Wf h1),if_pos ⟨h0,h1⟩,if_pos ⟨h0,h1⟩,if_pos ⟨h0,h1⟩,Top_eq k h0 h1,wnext h0 om];unfold sideBad;cases decide ((b.get k).Lo>(b.get k).Hi)<;>simp
def vB (b:Arr5 Za):Bool:=
 if sideBad 4294967295 b.x0=true then false else if sideBad 4294967295 b.x1=true then false else if sideBad 255 b.x2=true then false else if sideBad 65535 b.x3=true then false else if sideBad 65535 b.x4=true then false else true
def Zp2 (b:Arr5 Za):Zer b=some (vB b):=by
 unfold Zer;rw[fuel6];generalize (1180591620717411303418:Nat)=m
 have s0:Zbx b (m+6) 0=if sideBad 4294967295 b.x0=true then some (.inr false)else Zbx b (m+5) 1:=vstep b (m+5) om om
 have s1:Zbx b (m+5) 1=if sideBad 4294967295 b.x1=true then some (.inr false)else Zbx b (m+4) 2:=vstep b (m+4) om om
 have s2:Zbx b (m+4) 2=if sideBad 255 b.x2=true then some (.inr false)else Zbx b (m+3) 3:=vstep b (m+3) om om
 have s3:Zbx b (m+3) 3=if sideBad 65535 b.x3=true then some (.inr false)else Zbx b (m+2) 4:=vstep b (m+2) om om
 have s4:Zbx b (m+2) 4=if sideBad 65535 b.x4=true then some (.inr false)else Zbx b (m+1) 5:=vstep b (m+1) om om
 have s5:Zbx b (m+1) 5=some (.inl ()):=by rw[Zbx];rfl
 rw[s0,s1,s2,s3,s4,s5];unfold vB
 repeat' split
 all_goals first|rfl|(simp_all;done)|skip
def Zg9 (b:Arr5 Za):Zbq b=some (vB b):=by
 unfold Zbq;rw[fuel6];generalize (1180591620717411303418:Nat)=m
 have s0:Zaw b (m+6) 0=if sideBad 4294967295 b.x0=true then some (.inr false)else Zaw b (m+5) 1:=rvstep b (m+5) om om
 have s1:Zaw b (m+5) 1=if sideBad 4294967295 b.x1=true then some (.inr false)else Zaw b (m+4) 2:=rvstep b (m+4) om om
 have s2:Zaw b (m+4) 2=if sideBad 255 b.x2=true then some (.inr false)else Zaw b (m+3) 3:=rvstep b (m+3) om om
 have s3:Zaw b (m+3) 3=if sideBad 65535 b.x3=true then some (.inr false)else Zaw b (m+2) 4:=rvstep b (m+2) om om
 have s4:Zaw b (m+2) 4=if sideBad 65535 b.x4=true then some (.inr false)else Zaw b (m+1) 5:=rvstep b (m+1) om om
 have s5:Zaw b (m+1) 5=some (.inl ()):=by rw[Zaw];rfl
 rw[s0,s1,s2,s3,s4,s5];unfold vB
 repeat' split
 all_goals first|rfl|(simp_all;done)|skip
def vB_ok {b:Arr5 Za} (hb:BIn b) (h:vB b=true):BOk b:=by
 unfold vB sideBad at h
 simp only[Wbo,W4]at h
 split at h;· cases h
 split at h;· cases h
 split at h;· cases h
 split at h;· cases h
 split at h;· cases h
 exact⟨⟨hb.h0.h0,om,om⟩,⟨hb.h1.h0,om,om⟩,⟨hb.h2.h0,om,om⟩,⟨hb.h3.h0,om,om⟩,⟨hb.h4.h0,om,om⟩⟩
def ok_vB {b:Arr5 Za} (h:BOk b):vB b=true:=by
 obtain⟨⟨_,a1,a2⟩,⟨_,b1,b2⟩,⟨_,c1,c2⟩,⟨_,d1,d2⟩,⟨_,e1,e2⟩⟩:=h;unfold vB sideBad;simp only[Wbo,W4];rw[if_neg om,if_neg om,if_neg om,if_neg om,if_neg om]
def BIn.get {b:Arr5 Za} (h:BIn b) (k:Int):RIn (b.get k):=by
 unfold Arr5.get;split
 ·exact h.h0
 split
 ·exact h.h1
 split
 ·exact h.h2
 split
 ·exact h.h3
 ·exact h.h4
def Z58 (m:Nat) (h:m≤1000000000000):∃ n,fuel=n+m+1:=⟨fuel-m-1,by unfold fuel;omega⟩
def Nxt {γ:Type} {t:Zc} {n:Int} {f:Int×Zc→Option γ} {q:γ→Prop} (ht:TOk t) (h1:1≤n) (h2:n<9223372036854775808) (k:∀ r ,0≤r.1→r.1<n→TOk r.2→Ok (f r) q):Ok ((Zh t n).bind f) q:=
 Wa (Zo3 ht n h1 h2) λr h=>k r h.1.1 h.1.2 h.2
def Nx0 {γ:Type} {t:Zc} {n:Int} {f:Int×Zc→Option γ} {q:γ→Prop} (ht:TOk t) (h2:n<9223372036854775808) (k:∀ r ,0≤r.1→(r.1<n∨r.1=0)→TOk r.2→Ok (f r) q):Ok ((Zh t n).bind f) q:=
 Wa (Zaef ht n h2) λr h=>k r h.1.1 h.1.2 h.2
def Ix {α γ:Type} {l:List α} {i:Int} {f:α→Option γ} {q:γ→Prop} (h0:0≤i) (h1:i<l.length) (k:∀ x,x∈l→Ok (f x) q):Ok ((AM.idx l i).bind f) q:=
 Wa (Wd0 (p:=λx=>x∈l) h0 h1 λ_ h=>h) k
def IxN {α γ:Type} {l:List α} {i:Int} {f:α→Option γ} {q:γ→Prop} (h0:0≤i) (h1:i<l.length) (k:∀ x,l[i.toNat]? = some x→Ok (f x) q):Ok ((AM.idx l i).bind f) q:=by
 have hi:=om
 exact Wa (p:=λx=>l[i.toNat]? = some x) ⟨l[i.toNat],by simp[AM.idx,h0],sM⟩ k
def Lf {α γ:Type} {b:α} {f:α→Option γ} {q:γ→Prop} (h:Ok (f b) q):Ok ((Option.some b).bind f) q:=h
def Ap {α γ:Type} {l m:List α} {x:Option γ} {q:γ→Prop} (h:l.length+m.length≤lim) (k:Ok x q):Ok (if l.length+m.length≤lim then x else none) q:=Waf h k
def lim_eq:lim=2147483648:=kR
def wi (x:Int) (h0:-9223372036854775808≤x) (h1:x<9223372036854775808):wrap .i64 x=x:=wi64 h0 h1
def rn:List ByteArray:=[(⟨#[114,49]⟩:ByteArray),(⟨#[114,50]⟩:ByteArray),(⟨#[114,51]⟩:ByteArray),(⟨#[114,52]⟩:ByteArray),(⟨#[114,53]⟩:ByteArray),(⟨#[114,54]⟩:ByteArray)]
def en:List ByteArray:=[(⟨#[101,49]⟩:ByteArray),(⟨#[101,50]⟩:ByteArray),(⟨#[101,51]⟩:ByteArray),(⟨#[101,52]⟩:ByteArray),(⟨#[101,53]⟩:ByteArray)]
def cn:List ByteArray:=[ByteArray.empty,(⟨#[105,112,115]⟩:ByteArray),(⟨#[100,108,112]⟩:ByteArray)]
def zn:List ByteArray:=[(⟨#[108,97,110]⟩:ByteArray),(⟨#[100,109,122]⟩:ByteArray),(⟨#[110,101,116]⟩:ByteArray)]
structure DOk (i:Nat) (d:Z5):Prop where
 name:rn[i]? = some d.Name
 lim:d.Capacity∈[(4096:Int),(400:Int),(60:Int),(20:Int),(5:Int),(0:Int)]
 cls:d.Class∈cn
structure KOk (n:Nat) (l:Zag):Prop where
 h0:0≤l.A
 h1:l.A<l.B
 h2:l.B<n
 cost:l.Cost∈[(1:Int),(2:Int),(3:Int),(1000:Int)]
structure EOk (n i:Nat) (e:Z2):Prop where
 name:en[i]? = some e.Name
 h0:0≤e.Device
 h1:e.Device<n
 zone:e.Zone∈zn
 pre:subnets[i]? = some e.Prefix
 pl:e.Planned=false
def All {α:Type} (p:Nat→α→Prop) (l:List α):Prop:=∀ i x,l[i]? = some x→p i x
def All.nil {α:Type} {p:Nat→α→Prop}:All p []:=λi x h=>gD
def All.snoc {α:Type} {p:Nat→α→Prop} {l:List α} {x:α} (h:All p l) (hx:p l.length x):All p (l++[x]):=by
 intro i y hy;rw[List.getElem?_append]at hy
 split at hy
 exact h i y hy
 grind
def All.mem {α:Type} {p:Nat→α→Prop} {l:List α} (h:All p l) {x:α} (hx:x∈l):∃ i,l[i]? = some x∧i<l.length∧p i x:=by
 obtain⟨i,hi,rfl⟩:=List.mem_iff_getElem.1 hx;exact⟨i,by simp ,hi,h i _ (by simp )⟩
def pl4:List Yl:=[[],[⟨168296448,22⟩],[⟨167772672,24⟩],[⟨168296448,22⟩,⟨167772672,24⟩]]
structure XOk (t:Zb):Prop where
 d0:1≤t.Devices.length
 d1:t.Devices.length≤6
 dev:All DOk t.Devices
 k1:t.Links.length≤8
 link:∀ l,l∈t.Links→KOk t.Devices.length l
 e1:t.Edges.length≤5
 edge:All (EOk t.Devices.length) t.Edges
 pools:t.Pools∈pl4
 t0:0≤t.Tolerate
 t1:t.Tolerate≤2
def XOk.pool {t:Zb} (h:XOk t):∀ p,p∈t.Pools→p∈[Zn.mk 168296448 22,Zn.mk 167772672 24]:=by
 have g:=h.pools
 simp  [pl4]at g
 grind
def XOk.p1 {t:Zb} (h:XOk t):t.Pools.length≤2:=by
 have g:=h.pools
 simp  [pl4]at g
 grind
def Z8w (r1:Int×Zc) (h0:0≤r1.1) (h1:r1.1<6) (n:Nat):∀ t (b:Int) D K (i:Int),TOk t→0≤i→i≤1+r1.1→D.length=i.toNat→K.length≤i→(0<i→K.length+1≤i)→All DOk D→(∀ l,l∈K→KOk D.length l)→(1+r1.1-i).toNat<n→Ok (Zga r1 n t b D K i) λo=>TOk o.1∧(o.2.2.1.length:Int)=1+r1.1∧o.2.2.2.length≤5∧All DOk o.2.2.1∧∀ l,l∈o.2.2.2→KOk o.2.2.1.length l:=by
 induction n with
 |zero=>grind
 |succ n ih=>
  intro t b D K i ht hi0 hi1 hD hK hK2 hd hk hn;unfold Zga;rw[wi (1+r1.1) om om]
  refine Wi (λhc=>?_) λhc=>Wb ⟨ht,?_,?_,hd,hk⟩
  simp at hc
  have hl:=lim_eq
  refine Wa (p:=λo=>TOk o.1∧o.2.1.length=i.toNat+1∧o.2.2.length≤i∧All DOk o.2.1∧∀ l,l∈o.2.2→KOk o.2.1.length l) ?_ ?_
  refine IxN hi0 sO λnm hnm=>?_
  refine Nxt ht om om λr a0 a1 a2=>Ix a0 (by simpa using a1) λlm hlm=>?_
  refine Nxt a2 om om λr b0 b1 b2=>Nxt b2 om om λr c0 c1 c2=>Nxt c2 om om λr d0 d1 d2=>?_
  refine Ix d0 (by simpa using d1) λcl hcl=>?_
  refine Ap sO ?_
  have hd2:∀ x y,All DOk (D++[Z5.mk nm lm x y cl]):=λx y=>hd.snoc ⟨by rw[hD];exact hnm,hlm,hcl⟩
  have hk2:∀ x l,l∈K→KOk (D++[x]).length l:=λx l hl=>⟨(hk l hl).h0,(hk l hl).h1,by have:=(hk l hl).h2;simp;omega,(hk l hl).cost⟩
  refine Wi (λhc2=>?_) λhc2=>Wb ⟨d2,sO,?_,hd2 _ _,hk2 _⟩
  simp at hc2
  refine Nxt d2 om om λr e0 e1 e2=>Nxt e2 om om λr2 f0 f1 f2=>?_
  refine Ix f0 (by simpa using f1) λco hco=>Ap sO (Wb ⟨f2,sO,?_,hd2 _ _,?_⟩)
  simp;omega;intro l hl
  simp at hl
  rcases hl with hl|rfl
  exact hk2 _ l hl;exact⟨e0,e1,sO,hco⟩
  simp at hc2
  simp;omega;intro ⟨a,b,c⟩ ⟨o1,o2,o3,o4,o5⟩
  dsimp only at o1 o2 o3 o4 o5⊢
  rw[wi (i+1) om om];exact ih _ _ _ _ _ o1 om om om om (λ_=>om) o4 o5 om
  simp at hc
  dsimp only;omega
  grind
def Z8x (r1:Int×Zc) (h0:0≤r1.1) (h1:r1.1<6) (n:Nat):∀ t b K (i:Int),TOk t→0≤i→i≤3→(∀ l,l∈K→KOk (1+r1.1).toNat l)→K.length≤8-i→i.toNat<n→Ok (Zgb r1 n t b K i) λo=>TOk o.1∧(∀ l,l∈o.2.2→KOk (1+r1.1).toNat l)∧o.2.2.length≤8:=by
 induction n with
 |zero=>omega
 |succ n ih=>
  intro t b K i ht hi0 hi1 hk hK hn;unfold Zgb;rw[wi (1+r1.1) om om]
  refine Lf (Wi (λhc=>?_) λhc=>Wb ⟨ht,hk,gD⟩)
  simp at hc
  have hl:=lim_eq;rw[wi (1+r1.1-1) om om]
  refine Nxt ht om om λr a0 a1 a2=>?_
  rw[wi (1+r.1) om om,wi (i-1) om om]
  refine Nxt a2 om om λr2 b0 b1 b2=>Nxt b2 om om λr3 c0 c1 c2=>Ix c0 om λco hco=>Ap gD ?_
  refine ih _ _ _ _ c2 om om ?_ gD om
  intro l hl
  simp at hl
  rcases hl with hl|rfl
  exact hk l hl;exact⟨b0,gD,gD,hco⟩
def Zagm (x:Int) (h0:0≤x) (h1:x<6):∃ p,Ze4 x=some p∧subnets[x.toNat]? = some p:=by
 have hk:x=0∨x=1∨x=2∨x=3∨x=4∨x=5:=om
 rcases hk with rfl|rfl|rfl|rfl|rfl|rfl
 exact⟨⟨167772160,24⟩,kR,rfl⟩;exact⟨⟨167772416,24⟩,kR,rfl⟩;exact⟨⟨167772672,25⟩,kR,rfl⟩;exact⟨⟨167772800,26⟩,kR,rfl⟩;exact⟨⟨2886729728,16⟩,kR,rfl⟩;exact⟨⟨3232237321,32⟩,kR,rfl⟩
def Z8y (r1:Int×Zc) (h0:0≤r1.1) (h1:r1.1<6) (m:Int) (hm:m≤5) (n:Nat):∀ t b E i,TOk t→0≤i→(i≤m∨i=0)→E.length=i.toNat→All (EOk (1+r1.1).toNat) E→(m-i).toNat<n→Ok (Zgc r1 m n t b E i) λo=>TOk o.1∧All (EOk (1+r1.1).toNat) o.2.2∧o.2.2.length≤5:=by
 induction n with
 |zero=>omega
 |succ n ih=>
  intro t b E i ht hi0 hi1 hE he hn;unfold Zgc;rw[wi (1+r1.1) om om]
  refine Wi (λhc=>?_) λhc=>Wb ⟨ht,he,gD⟩
  simp at hc
  have hl:=lim_eq
  refine IxN hi0 gD λnm hnm=>Nxt ht om om λr a0 a1 a2=>Nxt a2 om om λr2 b0 b1 b2=>Ix b0 om λzo hzo=>?_
  obtain⟨p,e,hp⟩:=Zagm i hi0 om;rw[e,wi (i+1) om om]
  refine Lf (Ap gD ?_)
  refine ih _ _ _ _ b2 om om gD ?_ om
  refine he.snoc ⟨by rw[hE];exact hnm,a0,gD,hzo,gD,rfl⟩
def Z6:fuel=1180591620717411303424:=kR
def Zadf {t:Zc} (ht:TOk t) (m:Int) (h1:1≤m):Ok (Znv t m) λr=>XOk r.1∧TOk r.2:=by
 have hf:=Z6;have hl:=lim_eq
 have hm:1≤iMin m 6∧iMin m 6≤6:=by unfold iMin;grind
 refine Nxt ht om om λr a0 a1 a2=>?_
 refine Wa (Z8w r a0 om fuel _ _ [] [] 0 a2 om om rfl sM sM All.nil sM om) λ⟨oa,ob,oc,od⟩ ⟨o1,o2,o3,o4,o5⟩=>?_
 dsimp only at o1 o2 o3 o4 o5⊢
 refine Nxt o1 om om λr2 b0 b1 b2=>?_
 have ed:(1+r.1).toNat=oc.length:=om
 refine Wa (Z8x r a0 om fuel _ _ _ r2.1 b2 om om gD om om) λu ⟨u1,u2,u3⟩=>?_
 refine Nxt u1 om om λr3 c0 c1 c2=>Ix c0 om λx hx=>?_
 have hx5:x≤5:=by
  grind
 refine Wa (Z8y r a0 om x hx5 fuel _ _ [] 0 c2 om om rfl All.nil om) λw ⟨w1,w2,w3⟩=>?_
 refine Wa (p:=λv=>TOk v.1∧(v.2=[]∨v.2=[⟨168296448,22⟩])) ?_ λv ⟨v1,v2⟩=>?_
 refine Nxt w1 om om λr4 d0 d1 d2=>Wi (λ_=>Ap sO (Wb ⟨d2,.inr rfl⟩)) λ_=>Wb ⟨d2,.inl rfl⟩
 have v3:v.2.length≤1:=gD
 refine Wa (p:=λv=>TOk v.1∧v.2∈pl4) ?_ λy ⟨y1,y2⟩=>?_
 refine Nxt v1 om om λr4 d0 d1 d2=>Wi (λ_=>Ap sO (Wb ⟨d2,?_⟩)) λ_=>Wb ⟨d2,?_⟩
 rcases v2 with h|h<;>simp[h,pl4]
 rcases v2 with h|h<;>simp[h,pl4]
 refine Nxt y1 om om λr5 e0 e1 e2=>Ix e0 om λx2 hx2=>Wb ⟨?_,e2⟩
 have ht2:0≤x2∧x2≤2:=by
  grind
 exact⟨gD,gD,o4,u3,gD,w3,gD,y2,ht2.1,ht2.2⟩
structure FOk (t:Zb) (f:Zp):Prop where
 l:∀ i,i∈f.Links→0≤i∧i<t.Links.length
 d:∀ i,i∈f.Devices→0≤i∧i<t.Devices.length
 l1:f.Links.length≤t.Links.length
 d1:f.Devices.length≤t.Devices.length
 ls:f.Links.Pairwise (·<·)
 ds:f.Devices.Pairwise (·<·)
def Wb7:=@List.pairwise_append
def Wcp:=@List.pairwise_singleton
def Z3j {l:List Int} {x:Int} (h:l.Pairwise (·<·)) (k:∀ i,i∈l→i<x):(l++[x]).Pairwise (·<·):=
 Wb7.2 ⟨h,Wcp ..,λa ha b hb=>gD⟩
def Zaap (T:Zb) (hT:T.Links.length≤8) (n:Nat):∀ t l (i:Int),TOk t→0≤i→i≤T.Links.length→(∀ j,j∈l→0≤j∧j<i)→l.length≤i→l.Pairwise (·<·)→(T.Links.length-i).toNat<n→Ok (Zk6 T n t l i) λo=>TOk o.1∧(∀ j,j∈o.2→0≤j∧j<T.Links.length)∧o.2.length≤T.Links.length∧o.2.Pairwise (·<·):=by
 induction n with
 |zero=>omega
 |succ n ih=>
  intro t l i ht hi0 hi1 hl hn hp hm;have h:=lim_eq
  refine Wi (λhc=>?_) λhc=>Wb ⟨ht,λj hj=>⟨(hl j hj).1,gD⟩,gD,hp⟩
  simp at hc
  rw[wi (i+1) om om]
  refine Wa (p:=λo=>TOk o.1∧(∀ j,j∈o.2→0≤j∧j<i+1)∧o.2.length≤i+1∧o.2.Pairwise (·<·)) ?_ λo ⟨o1,o2,o3,o4⟩=>ih _ _ _ o1 om om o2 o3 o4 om
  refine Nxt ht om om λr a0 a1 a2=>Wi (λ_=>Ap gD (Wb ⟨a2,?_,gD,Z3j hp λj hj=>(hl j hj).2⟩)) λ_=>Wb ⟨a2,λj hj=>⟨(hl j hj).1,gD⟩,gD,hp⟩
  grind
def Zaaq (T:Zb) (hT:T.Devices.length≤6) (n:Nat):∀ t l (i:Int),TOk t→0≤i→i≤T.Devices.length→(∀ j,j∈l→0≤j∧j<i)→l.length≤i→l.Pairwise (·<·)→(T.Devices.length-i).toNat<n→Ok (Zk7 T n t l i) λo=>TOk o.1∧(∀ j,j∈o.2→0≤j∧j<T.Devices.length)∧o.2.length≤T.Devices.length∧o.2.Pairwise (·<·):=by
 induction n with
 |zero=>omega
 |succ n ih=>
  intro t l i ht hi0 hi1 hl hn hp hm;have h:=lim_eq
  refine Wi (λhc=>?_) λhc=>Wb ⟨ht,λj hj=>⟨(hl j hj).1,gD⟩,gD,hp⟩
  simp at hc
  rw[wi (i+1) om om]
  refine Wa (p:=λo=>TOk o.1∧(∀ j,j∈o.2→0≤j∧j<i+1)∧o.2.length≤i+1∧o.2.Pairwise (·<·)) ?_ λo ⟨o1,o2,o3,o4⟩=>ih _ _ _ o1 om om o2 o3 o4 om
  refine Nxt ht om om λr a0 a1 a2=>Wi (λ_=>Ap gD (Wb ⟨a2,?_,gD,Z3j hp λj hj=>(hl j hj).2⟩)) λ_=>Wb ⟨a2,λj hj=>⟨(hl j hj).1,gD⟩,gD,hp⟩
  grind
def Zaff {t:Zc} (ht:TOk t) {T:Zb} (hT:XOk T):Ok (Zos t T) λr=>FOk T r.1∧TOk r.2:=by
 have hf:=Z6;have h1:=hT.k1;have h2:=hT.d1
 refine Wa (Zaap T h1 fuel _ [] 0 ht om om sM sM .nil om) λo ⟨o1,o2,o3,o4⟩=>?_
 exact Wa (Zaaq T h2 fuel _ [] 0 o1 om om sM sM .nil om) λu ⟨u1,u2,u3,u4⟩=>Wb ⟨⟨o2,u2,o3,u3,o4,u4⟩,u1⟩
def Ok.dte {α:Type} {c:Prop} [Decidable c] {x y:Option α} {p:α→Prop} (h1:c→Ok x p) (h2:¬c→Ok y p):Ok (if decide c=true then x else y) p:=
 Wi (λh=>h1 (Wb9 h)) λh=>h2 λk=>h (Wf k)
def Wx:=@Ok.dte
def Ok.id {α:Type} {x:Option α} {p:α→Prop} (h:Ok x p):Ok x p:=h
def SIx {γ:Type} {l:ByteArray} {i:Int} {f:Int→Option γ} {q:γ→Prop} (h0:0≤i) (h1:i<(ByteArray.size l:Int)) (k:∀ x,Ok (f x) q):Ok ((sidx l i).bind f) q:=by
 have hi:i.toNat<l.size:=om
 exact Wa (p:=λ_=>True) ⟨((l[i.toNat]'hi).toNat:Int),by simp[sidx,h0,h1],trivial⟩ λx _=>k x
def Ri {α β:Type} (p:β→Prop):α⊕β→Prop
 |.inl _=>True
 |.inr r=>p r
def Ri.i {α β:Type} {p:β→Prop} {r:β} (h:p r):Ri p (Sum.inr r:α⊕β):=h
def Wg7:=@Ri.i
def Ri.l {α β:Type} {p:β→Prop} {r:α}:Ri p (Sum.inl r:α⊕β):=trivial
def Ri.o {α β:Type} {p:β→Prop} {r:β} (h:Ri p (Sum.inr r:α⊕β)):p r:=h
def wn {i m:Int} (h0:0≤i) (h:i<m) (hm:m≤9223372036854775807):wrap .i64 (i+1)=i+1:=wi _ om om
def nil_ok {α:Type} {p:α→Prop} {m:Nat}:([]:List α).length≤m∧∀ y∈([]:List α),p y:=⟨Wec _,λy hy=>(by cases hy)⟩
def idx_ok {α:Type} {p:α→Prop} {l:List α} {m:Nat} {i:Int} (h:l.length≤m∧∀ y∈l,p y) (h0:0≤i) (h1:i<l.length):∃ x,AM.idx l i=some x∧p x:=Wd0 h0 h1 h.2
def sub_ok {α:Type} {p:α→Prop} {l:List α} {m a b:Nat} (h:l.length≤m∧∀ y∈l,p y):(List.drop a (List.take b l)).length≤m∧∀ y∈List.drop a (List.take b l),p y:=
 ⟨by have:=h.1;simp;omega,λy hy=>h.2 y (Wbc (Wby hy))⟩
abbrev sk_str (s:ByteArray):Prop:=s.size≤1000000
abbrev sk_i64 (n:Int):Prop:=-9223372036854775808≤n∧n<9223372036854775808
abbrev sk_u32 (n:Int):Prop:=0≤n∧n<4294967296
abbrev Zzq (_:Bool):Prop:=True
abbrev Zut (x:Ya):Prop:=x.length≤1000000∧∀ y∈x,sk_i64 y
abbrev Z1h (x:Z5):Prop:=sk_str x.Name∧sk_i64 x.Capacity∧Zzq x.Ranges∧Zzq x.Volatile∧sk_str x.Class∧True
abbrev Zq2 (x:Ys):Prop:=x.length≤1000000∧∀ y∈x,Z1h y
abbrev Zadg (x:Zag):Prop:=sk_i64 x.A∧sk_i64 x.B∧sk_i64 x.Cost∧True
abbrev Zaar (x:Yx):Prop:=x.length≤1000000∧∀ y∈x,Zadg y
abbrev Zha (x:Zn):Prop:=sk_u32 x.Addr∧sk_i64 x.Bits∧True
abbrev Zyw (x:Z2):Prop:=sk_str x.Name∧sk_i64 x.Device∧sk_str x.Zone∧Zha x.Prefix∧Zzq x.Planned∧True
abbrev Z1i (x:Yk):Prop:=x.length≤1000000∧∀ y∈x,Zyw y
abbrev Zee (x:Yl):Prop:=x.length≤1000000∧∀ y∈x,Zha y
abbrev Zbc (x:Zb):Prop:=Zq2 x.Devices∧Zaar x.Links∧Z1i x.Edges∧Zee x.Pools∧sk_i64 x.Tolerate∧True
abbrev Zbn (x:Zp):Prop:=Zut x.Links∧Zut x.Devices∧True
abbrev Zbg (x:Za):Prop:=sk_u32 x.Lo∧sk_u32 x.Hi∧True
abbrev Zsh (x:Z0):Prop:=sk_i64 x.Kind∧sk_str x.Name∧Zha x.Prefix∧sk_i64 x.Proto∧Zbg x.Ports∧True
abbrev Zvm (x:Yg):Prop:=x.length≤1000000∧∀ y∈x,Zsh y
abbrev Zop (x:Zl):Prop:=sk_str x.Name∧Zvm x.Items∧True
abbrev Zcb (x:Ye):Prop:=x.length≤1000000∧∀ y∈x,Zop y
abbrev Zk3 (x:Yc):Prop:=x.length≤1000000∧∀ y∈x,Zbg y
abbrev Z1j (x:Zbl):Prop:=sk_str x.Name∧Zk3 x.Active∧True
abbrev Zq3 (x:Yt):Prop:=x.length≤1000000∧∀ y∈x,Z1j y
abbrev Zs9 (x:Zam):Prop:=Zzq x.Permit∧sk_str x.From∧sk_str x.To∧sk_str x.Service∧Zzq x.Excepted∧sk_str x.ExceptFrom∧sk_str x.ExceptTo∧sk_str x.Class∧sk_str x.During∧sk_i64 x.Priority∧True
abbrev Zvf (x:Yy):Prop:=x.length≤1000000∧∀ y∈x,Zs9 y
abbrev Zry (x:Za4):Prop:=sk_u32 x.Addr∧sk_i64 x.Proto∧sk_i64 x.Port∧sk_str x.Edge∧sk_u32 x.Real∧sk_i64 x.RealPort∧True
abbrev Zp3 (x:Yw):Prop:=x.length≤1000000∧∀ y∈x,Zry y
abbrev Zp5 (x:Zbf):Prop:=sk_str x.Group∧sk_str x.Edge∧sk_u32 x.Addr∧Zbg x.Ports∧True
abbrev Zyb (x:Yz):Prop:=x.length≤1000000∧∀ y∈x,Zp5 y
abbrev Zfp (x:Zs):Prop:=Zcb x.Groups∧Zcb x.Services∧Zq3 x.Windows∧Zvf x.Statements∧Zp3 x.Published∧Zyb x.Hidden∧True
def Zrz (a:Int):Ok (Zor a) λr=>(0≤a→a≤32→r=(2^(32-a).toNat:Nat)):=by
 refine Waf (Zub _).1 (Wb λh0 h1=>?_)
 rw[wi (32-a) om om,wu64 om om];have:=@Zaby (32-a).toNat om
 grind
def Zq4 (a:Zn):Ok (Zcx a) λr=>r=true→0≤a.Bits∧a.Bits≤32:=by
 refine Lf (Lf ?_)
 refine Wa (p:=λv=>v=true→0≤a.Bits∧a.Bits≤32) (Wi (λh=>?_) λh=>Wb sM) λv hv=>Wb hv
 simp at h
 refine Wa (Zrz _) λr hr=>Waf ?_ (Wb λ_=>⟨h.1,h.2⟩)
 have:0<2^(32-a.Bits).toNat:=Nat.pow_pos om;omega
def Zw4 (a:Zn) (ha:sk_u32 a.Addr):Ok (Za7 a) λr=>Zbg r.1:=by
 refine Wa (Zq4 _) λv hv=>Wi (λ_=>Wb ?_) λ_=>Wa (Zrz _) λr hr=>Wb ?_
 exact⟨dC,dC,trivial⟩;exact⟨ha,Zc2 _,trivial⟩
def Zrj (a:Zn) (n:Int) (ha:sk_u32 a.Addr):Ok (Zb2 a n) λ_=>True:=Wa (Zw4 _ ha) λr hr=>Lf (Lf (Wb trivial))
def Zw5 (a b:Zn) (ha:sk_u32 a.Addr) (hb:sk_u32 b.Addr):Ok (Zh7 a b) λ_=>True:=by
 refine Wa (Zw4 _ hb) λr hr=>Lf ?_
 (with_reducible repeat' first|omega|omega|apply Wb|omega|omega|apply Wi|refine Wa (Zrj _ _ ha) λo ho=>?_|omega|omega|apply Wa (p:=λ_=>True)|omega|intro o|omega|grind)
def Z8z (a b:Zn) (ha:sk_u32 a.Addr) (hb:sk_u32 b.Addr):Ok (Zk0 a b) λ_=>True:=by
 unfold Zk0
 (with_reducible repeat' first|exact trivial|apply Lf|apply Wb|apply Waf|apply Wx|apply Wi|refine Wa (Zw5 _ _ ha hb) λo ho=>?_|refine Wa (Zw5 _ _ hb ha) λo ho=>?_|apply Ix|apply SIx|apply Wa (p:=λ_=>True)|intro o ho|intro o|dsimp only|(apply Ok.id;rcases(o:_⊕_)with o|o))
def band32 {x y:Nat} (hx:x<2^32) (hy:y<2^32):bAnd .u32 x y=x &&& y:=by
 have h:=Nat.and_lt_two_pow x hy;unfold bAnd
 have e:(BitVec.ofInt (IntKind.bits .u32) x &&& BitVec.ofInt (IntKind.bits .u32) y).toNat=x &&& y:=by
  show(BitVec.ofNat 32 x &&& BitVec.ofNat 32 y).toNat=_
  grind
 rw[e,wu32 om om]
def bor32 {x y:Nat} (hx:x<2^32) (hy:y<2^32):bOr .u32 x y=x ||| y:=by
 have h:=Nat.or_lt_two_pow hx hy;unfold bOr
 have e:(BitVec.ofInt (IntKind.bits .u32) x ||| BitVec.ofInt (IntKind.bits .u32) y).toNat=x ||| y:=by
  show(BitVec.ofNat 32 x ||| BitVec.ofNat 32 y).toNat=_
  grind
 rw[e,wu32 om om]
def bxor32 {x y:Nat} (hx:x<2^32) (hy:y<2^32):bXor .u32 x y=x ^^^ y:=by
 have h:=Nat.xor_lt_two_pow hx hy;unfold bXor
 have e:(BitVec.ofInt (IntKind.bits .u32) x ^^^ BitVec.ofInt (IntKind.bits .u32) y).toNat=x ^^^ y:=by
  show(BitVec.ofNat 32 x ^^^ BitVec.ofNat 32 y).toNat=_
  grind
 rw[e,wu32 om om]
def bandnot32 {x y:Nat} (hx:x<2^32) (hy:y<2^32):bAndNot .u32 x y=(x &&& (2^32-1-y):Nat):=by
 have h:x &&& (2^32-1-y)<2^32:=Nat.and_lt_two_pow x om;unfold bAndNot
 have e:(BitVec.ofInt (IntKind.bits .u32) x &&& ~~~ BitVec.ofInt (IntKind.bits .u32) y).toNat=x &&& (2^32-1-y):=by
  show(BitVec.ofNat 32 x &&& ~~~ BitVec.ofNat 32 y).toNat=_
  grind
 rw[e,wu32 om om]
def sz (b:Int):Nat:=2^(32-b).toNat
def msk (b:Int):Nat:=sz b*(2^(32-(32-b).toNat)-1)
def sz_pos (b:Int):0<sz b:=Nat.pow_pos om
def Wds:=@Nat.pow_dvd_pow
def sz_le {b:Int} (h:0≤b):sz b≤4294967296:=Nat.le_of_dvd dC (Wds 2 (show(32-b).toNat≤32 by omega))
def sz_msk {b:Int} (h:0≤b):msk b+sz b=4294967296:=by
 unfold msk sz;rw[Nat.mul_sub,←Nat.pow_add,show(32-b).toNat+(32-(32-b).toNat)=32 by omega];have:2^(32-b).toNat≤4294967296:=sz_le h;omega
def Z80 {b:Int} (h0:0≤b) (h1:b≤32):Zmu b=some (msk b:Int):=by
 have hs:=sz_msk h0;have hp:=sz_pos b;unfold Zmu;rw[wi (32-b) om om,wu64 om om,if_pos om]
 congr 1
 unfold bShl;rw[show min (32-b).toNat (IntKind.bits .u32)=(32-b).toNat from Wbp (show(32-b).toNat≤32 by omega),wrap_u .u32 32 rfl rfl]
 have e:2^(32-b).toNat=(sz b:Int):=by rfl
 omega
def Wib:=@Nat.testBit_two_pow_mul
def Wch:=@Nat.pow_le_pow_right
def Zai6 {b:Int} (h0:0≤b) {n:Nat} (hn:n<4294967296):n &&& msk b=sz b*(n / sz b):=by
 unfold msk sz;apply Nat.eq_of_testBit_eq;intro i;rw[Nat.testBit_and,Wib,Wib,Nat.testBit_div_two_pow]
 by_cases hi:(32-b).toNat≤i
 rw[show i-(32-b).toNat+(32-b).toNat=i by omega]
 have:n.testBit i=true→i<32:=λh=>by
  apply Wah;intro hc;rw[Nat.testBit_lt_two_pow (Nat.lt_of_lt_of_le hn (show 2^32≤2^i from Wch om om))]at h;cases h
 cases ht:n.testBit i;simp;have:=this ht;simp;omega
 grind
def Zai7 (b:Int) (n:Nat):n &&& (sz b-1)=n%sz b:=Nat.and_two_pow_sub_one_eq_mod n _
def pvB (p:Zn):Bool:=decide (0≤p.Bits)&&decide (p.Bits≤32)&&decide (p.Addr%(sz p.Bits:Int)=0)
def Zv7 {p:Zn}:pvB p=true↔0≤p.Bits∧p.Bits≤32∧p.Addr%sz p.Bits=0:=by unfold pvB;grind
def Wo:=@decide_eq_false
def Zv8 {p:Zn} (ha:Zbd p.Addr):Zew p=some (pvB p):=by
 unfold Zew pvB;obtain⟨n,hn⟩:∃ n:Nat,p.Addr=n:=⟨p.Addr.toNat,by have:=ha.1;omega⟩;have h2:=ha.2;simp only[Wc]
 by_cases h0:0≤p.Bits
 by_cases h1:p.Bits≤32
 have hs:=sz_msk h0;have hp:=sz_pos p.Bits;rw[Wf gD,Wf h1];simp;rw[Z80 h0 h1,hn];simp only[Wc];rw[bandnot32 om om,show 2^32-1-msk p.Bits=sz p.Bits-1 by omega,Zai7];simp only[Wn];rw[Wa8,Wct,W4,Int.natCast_emod];rw[Wo h1];simp
 grind
def Zaeg {b:Int} (h0:0≤b) (h1:b≤32):Zor b=some (sz b:Int):=by
 obtain⟨r,e,h⟩:=Zrz b;rw[e,h h0 h1];rfl
def Wga:=@Bool.true_and
def Wg8:=@Int.tmod_eq_emod_of_nonneg
def Z0q {p:Zn} (ha:Zbd p.Addr):Zcx p=some (pvB p):=by
 unfold Zcx pvB;have h2:=ha.2;simp only[Wc]
 by_cases h0:0≤p.Bits
 by_cases h1:p.Bits≤32
 have hp:=sz_pos p.Bits;rw[Wf gD,Wf h1];simp only[if_true,Wga];rw[Zaeg h0 h1];simp only[Wc];rw[if_pos om,wu64 ha.1 om,Wg8 ha.1];rfl;rw[Wo h1];simp
 grind
def We1:=@Int.dvd_of_emod_eq_zero
def We2:=@Int.natCast_dvd_natCast
def Wcs:=@Int.mul_le_mul_of_nonneg_left
def Zaeh {p:Zn} (ha:Zbd p.Addr) (h:pvB p=true):p.Addr+sz p.Bits≤4294967296:=by
 obtain⟨h0,h1,h2⟩:=Zv7.1 h;have hp:=sz_pos p.Bits;have hd:=We1 h2;have hd2:(sz p.Bits:Int)∣4294967296:=(We2 (n:=4294967296)).2 (Wds 2 (show(32-p.Bits).toNat≤32 by omega));obtain⟨x,hx⟩:=hd;obtain⟨y,hy⟩:=hd2;have hlt:=ha.2
 have hsp:(0:Int)<sz p.Bits:=om
 have hxy:x<y:=by
  simp_all
 have:=Wcs (show x+1≤y by omega) (Int.le_of_lt hsp)
 grind
def ofR (p:Zn):Za×Bool:=if pvB p=true then(⟨p.Addr,p.Addr+(sz p.Bits:Int)-1⟩,true)else(⟨0,0⟩,false)
def Z81 {p:Zn} (ha:Zbd p.Addr):Za7 p=some (ofR p):=by
 unfold Za7 ofR;rw[Z0q ha];cases h:pvB p;rfl;obtain⟨h0,h1,h2⟩:=Zv7.1 h;have hl:=Zaeh ha h;have hp:=sz_pos p.Bits;have:=ha.1;rw[Zaeg h0 h1];simp;rw[wu64 (x:=p.Addr) om om,wu64 (x:=p.Addr+_) om om,wu64 om om,wu32 om om]
def Wg3:=@Nat.div_add_mod
def pOf_eq {p:Zn} (ha:Zbd p.Addr):Zu3 p=some (ofR p):=by
 unfold Zu3 ofR;rw[Zv8 ha];cases h:pvB p;rfl;obtain⟨h0,h1,h2⟩:=Zv7.1 h;have hl:=Zaeh ha h;have hp:=sz_pos p.Bits;have hs:=sz_msk h0;obtain⟨n,hn⟩:∃ n:Nat,p.Addr=n:=⟨p.Addr.toNat,by have:=ha.1;omega⟩;rw[Z80 h0 h1];simp
 have e1:bXor .u32 4294967295 (msk p.Bits)=(sz p.Bits-1:Nat):=by
  have:=bxor32 (x:=4294967295) (y:=msk p.Bits) om om;rw[show(4294967295:Nat)=(4294967295:Int)from rfl]at this;rw[this]
  have h3:4294967295 ^^^ msk p.Bits=2^32-1-msk p.Bits:=by
   have q:=congrArg BitVec.toNat (BitVec.allOnes_xor (x:=BitVec.ofNat 32 (msk p.Bits)))
   grind
  grind
 rw[e1,hn]
 have hz:n%sz p.Bits=0:=gD
 have hd:n=sz p.Bits*(n / sz p.Bits):=by have:=Wg3 n (sz p.Bits);omega
 rw[bor32 om om]
 have e2:=by
  have q:=Nat.two_pow_add_eq_or_of_lt (i:=(32-p.Bits).toNat) (b:=sz p.Bits-1) (by have:sz p.Bits=2^(32-p.Bits).toNat:=rfl;omega) (n / sz p.Bits);rw[show 2^(32-p.Bits).toNat=sz p.Bits from rfl]at q;omega
 grind
def pcB (p:Zn) (a:Int):Bool:=pvB p&&(decide (p.Addr≤a)&&decide (a≤p.Addr+(sz p.Bits:Int)-1))
def Z30 {p:Zn} (ha:Zbd p.Addr) (a:Int):Zb2 p a=some (pcB p a):=by
 unfold Zb2 pcB;rw[Z81 ha];unfold ofR;cases h:pvB p;simp;simp
def Wgp:=@Nat.mul_comm
def Z31 {p:Zn} (ha:Zbd p.Addr) {a:Int} (h0:Zbd a):Ze1 p a=some (pcB p a):=by
 unfold Ze1 pcB;rw[Zv8 ha];cases h:pvB p;simp;obtain⟨b0,b1,b2⟩:=Zv7.1 h;have hp:=sz_pos p.Bits;have hs:=sz_msk b0;obtain⟨n,hn⟩:∃ n:Nat,p.Addr=n:=⟨p.Addr.toNat,by have:=ha.1;omega⟩;obtain⟨m,hm⟩:∃ m:Nat,a=m:=⟨a.toNat,by have:=h0.1;omega⟩;have hm2:=h0.2;rw[Z80 b0 b1,hm,hn];simp;rw[band32 om om,Zai6 b0 om];rw[Wa8,Wct,Wh,W4,W4]
 have hz:n%sz p.Bits=0:=gD
 have hd:=Wg3 n (sz p.Bits);have hd2:=Wg3 m (sz p.Bits);have hl:=Nat.mod_lt m hp;constructor;omega;rintro⟨g1,g2⟩
 have:m / sz p.Bits=n / sz p.Bits:=by
  apply Nat.le_antisymm;apply Nat.le_of_lt_succ;rw[Nat.div_lt_iff_lt_mul hp,Wcw,Wgp];omega;exact Nat.div_le_div_right g1
 grind
def cvB (p q:Zn):Bool:=pvB q&&(pcB p q.Addr&&pcB p (q.Addr+(sz q.Bits:Int)-1))
def Zaei {p q:Zn} (hp:Zbd p.Addr) (hq:Zbd q.Addr):Zh7 p q=some (cvB p q):=by
 unfold Zh7 cvB;rw[Z81 hq];unfold ofR;simp  [Z30 hp]
 grind
def Zai8 {a b:Int} (h:a≤b):sz b≤sz a:=Wch om om
def sz_dvd {a b:Int} (h:a≤b):sz b∣sz a:=Wds 2 om
def Zaej {p q:Zn} (hp:Zbd p.Addr) (hq:Zbd q.Addr):Zni p q=some (cvB p q):=by
 unfold Zni cvB;rw[Zv8 hq];simp only[Wc,Z31 hp hq];cases h:pvB q;simp;cases hc:pcB p q.Addr;simp;have g:=hc
 unfold pcB at g
 simp at g
 obtain⟨g0,g1,g2⟩:=g;obtain⟨p0,p1,p2⟩:=Zv7.1 g0;obtain⟨q0,q1,q2⟩:=Zv7.1 h;have sq:=sz_pos q.Bits;unfold pcB;rw[g0,Wga,Wf (show p.Addr≤q.Addr+sz q.Bits-1 by omega)]
 by_cases hb:p.Bits≤q.Bits
 rw[Wf hb];simp only[if_true];simp only[Wga,Wc,Wn]
 symm
 rw[W4];have d:=We2.2 (sz_dvd hb);have dp:=Int.dvd_trans d (We1 p2);have dq:=We1 q2;obtain⟨x,hx⟩:=Int.dvd_add dp d;obtain⟨y,hy⟩:=dq
 have hlt:y<x:=by
  apply Wah;intro hn;have:=Wcs (show x≤y by omega) (show(0:Int)≤sz q.Bits by omega);omega
 have:=Wcs (show y+1≤x by omega) (show(0:Int)≤sz q.Bits by omega);rw[Int.mul_add]at this;omega;rw[Wo hb];simp only[Wy,if_false];simp only[Wga,Wc,Wn]
 symm
 rw[Wht];have m:=Zai8 (show q.Bits≤p.Bits-1 by omega)
 have:sz (p.Bits-1)=2*sz p.Bits:=by
  unfold sz;rw[show(32-(p.Bits-1)).toNat=(32-p.Bits).toNat+1 by omega,Nat.pow_succ,Wgp]
 omega
def meB (p q:Zn):Bool:=cvB p q||cvB q p
def Zahx {p q:Zn} (hp:Zbd p.Addr) (hq:Zbd q.Addr):Zk0 p q=some (meB p q):=by
 unfold Zk0 meB;rw[Zaei hp hq,Zaei hq hp]
 grind
def Zabz {p q:Zn} (hp:Zbd p.Addr) (hq:Zbd q.Addr):Zir p q=some (meB p q):=by
 unfold Zir meB;rw[Zaej hp hq,Zaej hq hp]
 grind
def Z9v {ρ:Type} {L:Nat→Int→Option (Unit⊕ρ)} {bad:Int→Bool} {v:ρ}
  (step:∀ n k,0≤k→k<5→L (n+1) k=if bad k=true then some (.inr v)else L n (k+1)) (stop:∀ n,L (n+1) 5=some (.inl ())) :
  L fuel 0=some (if(bad 0||bad 1||bad 2||bad 3||bad 4)=true then .inr v else .inl ()):=by
 rw[fuel6]
 grind
def Z9w {σ ρ:Type} {L:Nat→σ→Int→Option ρ} {f:σ→Int→σ} {fin:σ→ρ}
  (step:∀ n s k,0≤k→k<5→L (n+1) s k=L n (f s k) (k+1)) (stop:∀ n s,L (n+1) s 5=some (fin s)) (s:σ) :
  L fuel s 0=some (fin (f (f (f (f (f s 0) 1) 2) 3) 4)):=by
 rw[fuel6];simp_all
def wsucc {i:Nat} (h:i<1000000000001):wrap .i64 (i+1)=(i+1:Nat):=by
 rw[wi64 om om];omega
def findI {α ρ:Type} (g:Nat→α→Option ρ):Nat→List α→Option ρ
 |_,[]=>none
 |i,x::xs=>match g i x with
  |some r=>some r
  |none=>findI g (i+1) xs
def orS {ρ:Type}:Option ρ→Unit⊕ρ
 |some r=>.inr r
 |none=>.inl ()
def War:=@List.drop_eq_getElem_cons
def Zns {α ρ:Type} {L:Nat→Int→Option (Unit⊕ρ)} (l:List α) (g:Nat→α→Option ρ) (hl:l.length≤1000000000000)
  (step:∀ n (i:Nat) h,L (n+1) i=match g i l[i]with
   |some r=>some (.inr r)
   |none=>L n (i+1:Nat))
  (stop:∀ n,L (n+1) l.length=some (.inl ())):L fuel 0=some (orS (findI g 0 l)):=by
 have key:∀ m n i,i+m=l.length→L (n+m+1) i=some (orS (findI g i (l.drop i))):=by
  intro m
  induction m with
  |zero=>
   intro n i h
   have hi:=om
   subst hi;rw[List.drop_length];exact stop _
  |succ m ih=>
   intro n i h
   have hi:i<l.length:=om
   rw[step _ i hi,War hi];simp  [findI]
   cases hg:g i l[i]with
   |some r=>rfl
   |none=>exact ih n (i+1) om
 obtain⟨f,hf⟩:=Z58 l.length hl;rw[hf];exact key l.length f 0 om
def foldI {α σ:Type} (f:σ→Nat→α→σ):σ→Nat→List α→σ
 |s,_,[]=>s
 |s,i,x::xs=>foldI f (f s i x) (i+1) xs
def Ztn {α σ ρ:Type} {L:Nat→σ→Int→Option ρ} (l:List α) (f:σ→Nat→α→σ) (fin:σ→ρ) (I:Nat→σ→Prop) (hl:l.length≤1000000000000)
  (step:∀ n s i h,I i s→L (n+1) s i=L n (f s i l[i]) (i+1:Nat)∧I (i+1) (f s i l[i]))
  (stop:∀ n s,I l.length s→L (n+1) s l.length=some (fin s)) (s:σ) (hs:I 0 s):L fuel s 0=some (fin (foldI f s 0 l))∧I l.length (foldI f s 0 l):=by
 have key:∀ m n i s,I i s→i+m=l.length→L (n+m+1) s i=some (fin (foldI f s i (l.drop i)))∧I l.length (foldI f s i (l.drop i)):=by
  intro m
  induction m with
  |zero=>
   intro n i s hs h
   have hi:=om
   subst hi;rw[List.drop_length];exact⟨stop _ _ hs,hs⟩
  |succ m ih=>
   intro n i s hs h
   have hi:i<l.length:=om
   obtain⟨h1,h2⟩:=step (n+m+1) s i hi hs;rw[show n+(m+1)+1=(n+m+1)+1 by omega,h1,War hi];exact ih n (i+1) _ h2 om
 obtain⟨g,hg⟩:=Z58 l.length hl;rw[hg];exact key l.length g 0 s hs om
def Zai9 {α σ ρ:Type} {L:Nat→σ→Int→Option ρ} (l:List α) (I:Nat→σ→Prop) {q:ρ→Prop} (hl:l.length≤1000000000000)
  (step:∀ n s i,i<l.length→I i s→(∀ s',I (i+1) s'→Ok (L n s' (i+1:Nat)) q)→Ok (L (n+1) s i) q)
  (stop:∀ n s,I l.length s→Ok (L (n+1) s l.length) q) (s:σ) (hs:I 0 s):Ok (L fuel s 0) q:=by
 have key:∀ m n i s,I i s→i+m=l.length→Ok (L (n+m+1) s i) q:=by
  intro m
  induction m with
  |zero=>
   grind
  |succ m ih=>
   intro n i s hs h
   exact step _ s i om hs λs' hs'=>ih n (i+1) s' hs' om
 obtain⟨g,hg⟩:=Z58 l.length hl;rw[hg];exact key l.length g 0 s hs om
def Zyc {α β:Type} (g:α→β):∀ l acc i,foldI (λs _ x=>s++[g x]) acc i l=acc++l.map g
 |[],acc,i=>by simp[foldI]
 |x::xs,acc,i=>by simp  [foldI];rw[Zyc g xs];simp
instance decRg:DecidableEq Za:=λa b=>
 if h:a.Lo=b.Lo∧a.Hi=b.Hi then .isTrue (by cases a;cases b;obtain⟨h1,h2⟩:=h;simp only at h1 h2;rw[h1,h2])else .isFalse λe=>h (by rw[e];exact⟨rfl,rfl⟩)
def inR (v:Int) (r:Za):Bool:=decide (r.Lo≤v)&&decide (v≤r.Hi)
def mB:List Za→List Int→Bool
 |[],[]=>true
 |r::b,v::p=>inR v r&&mB b p
 |_,_=>false
def mS (l:List Yc) (p:List Int):Bool:=l.any (mB · p)
def atv (l:List Yc) (v:Int):List Yc:=l.flatMap λb=>match b with
 |r::b'=>if inR v r then[b']else[]
 |[]=>[]
def vP:List Int→List Int→Prop
 |[],[]=>True
 |t::ts,v::p=>0≤v∧v≤t∧vP ts p
 |_,_=>False
def vR:List Int→List Za→Prop
 |[],[]=>True
 |t::ts,r::b=>0≤r.Lo∧r.Lo≤r.Hi∧r.Hi≤t∧vR ts b
 |_,_=>False
def Zr0 (l:List Yc) (v:Int) (p:List Int):mS l (v::p)=mS (atv l v) p:=by
 induction l with
 |nil=>rfl
 |cons b l ih=>
  have e:mS (b::l) (v::p)=(mB b (v::p)||mS l (v::p)):=rfl;rw[e,ih];cases b;rfl;rename_i r b;have e2:atv ((r::b)::l) v=(if inR v r then[b]else[])++atv l v:=rfl;unfold mS;simp  [mB]
  grind
def mS_app (a b:List Yc) (p:List Int):mS (a++b) p=(mS a p||mS b p):=by unfold mS;grind
theorem mS_nil (p:List Int):mS [] p=false:=rfl
def Zaja (a b:List Yc) (v:Int):atv (a++b) v=atv a v++atv b v:=by unfold atv;grind
abbrev Cell:=Za×List Yc
def gp (y x:Cell):Prop:=y.1.Hi<x.1.Lo∧(y.1.Hi+1=x.1.Lo→y.2≠x.2)
def lk (c:List Cell) (v:Int):List Yc:=c.flatMap λx=>if inR v x.1 then x.2 else[]
def flt (c:List Cell):List Yc:=c.flatMap λx=>x.2.map (x.1::·)
structure Ord (t:Int) (c:List Cell):Prop where
 pw:c.Pairwise gp
 ok:∀ x∈c,0≤x.1.Lo∧x.1.Lo≤x.1.Hi∧x.1.Hi≤t∧x.2≠[]
def CF:List Int→List Yc→Prop
 |[],l=>l=[]∨l=[[]]
 |t::ts,l=>∃ c,l=flt c∧Ord t c∧∀ x∈c,CF ts x.2
def lk_app (a b:List Cell) (v:Int):lk (a++b) v=lk a v++lk b v:=by unfold lk;grind
theorem Zuu (x:Cell) (b:List Cell) (v:Int):lk (x::b) v=(if inR v x.1 then x.2 else[])++lk b v:=rfl
def Zo4 (a b:List Cell):flt (a++b)=flt a++flt b:=by unfold flt;grind
theorem Zrk (x:Cell) (b:List Cell):flt (x::b)=x.2.map (x.1::·)++flt b:=rfl
def Zaek (r:Za) (v:Int):∀ l,atv (l.map (r::·)) v=if inR v r then l else[]
 |[]=>by simp[atv]
 |b::l=>by
  have e:atv ((b::l).map (r::·)) v=(if inR v r then[b]else[])++atv (l.map (r::·)) v:=rfl;rw[e,Zaek r v l]
  grind
def Zuv (c:List Cell) (v:Int):atv (flt c) v=lk c v:=by
 induction c with
 |nil=>rfl
 |cons x c ih=>rw[Zrk,Zuu,Zaja,Zaek,ih]
def Zd0 {v:Int} {r:Za}:inR v r=true↔r.Lo≤v∧v≤r.Hi:=by unfold inR;simp
def Z3k {c:List Cell} {v:Int} (h:∀ x∈c,¬(x.1.Lo≤v∧v≤x.1.Hi)):lk c v=[]:=by
 induction c with
 |nil=>rfl
 |cons x c ih=>
  rw[Zuu,ih λy hy=>h y gD,if_neg (by rw[Zd0];grind)];rfl
def Wa4:=@List.pairwise_cons
def Ord.tail {t:Int} {x:Cell} {c:List Cell} (h:Ord t (x::c)):Ord t c:=⟨(Wa4.1 h.pw).2,λy hy=>h.ok y gD⟩
def lk_mem {t:Int}:∀ {c:List Cell},Ord t c→∀ {x:Cell},x∈c→∀ {v:Int},x.1.Lo≤v→v≤x.1.Hi→lk c v=x.2
 |[],_,_,h,_,_,_=>(by cases h)
 |y::c,ho,x,hx,v,h1,h2=>by
  have hp:=Wa4.1 ho.pw;rw[Zuu]
  rcases W1.1 hx with rfl|hx
  rw[if_pos (Zd0.2 ⟨h1,h2⟩),Z3k,Wam];intro z hz;have:=(hp.1 z hz).1;omega;have:=(hp.1 x hx).1;rw[if_neg (by rw[Zd0];omega),lk_mem ho.tail hx h1 h2];rfl
def Zuw {c:List Cell} {v:Int} (h:lk c v≠[]):∃ x∈c,x.1.Lo≤v∧v≤x.1.Hi:=by
 apply Wah;intro hn;exact h (Z3k λx hx hv=>hn ⟨x,hx,hv⟩)
def Ord.inj {t:Int}:∀ {c c':List Cell},Ord t c→Ord t c'→(∀ v,lk c v=lk c' v)→c=c'
 |[],[],_,_,_=>rfl
 |[],y::c',_,h',h=>by
  have hy:=h'.ok y (Wz ..);have:=h y.1.Lo;rw[lk_mem h' (Wz ..) (Wbf _) hy.2.1]at this;exact absurd this.symm hy.2.2.2
 |x::c,[],h,_,he=>by
  have hy:=h.ok x (Wz ..);have:=he x.1.Lo;rw[lk_mem h (Wz ..) (Wbf _) hy.2.1]at this;exact absurd this hy.2.2.2
 |x::c,y::c',h,h',he=>by
  have hx:=h.ok x (Wz ..);have hy:=h'.ok y (Wz ..)
  have low:∀ {x:Cell} {c c':List Cell} {y:Cell},Ord t (x::c)→Ord t (y::c')→(∀ v,lk (x::c) v=lk (y::c') v)→y.1.Lo≤x.1.Lo:=by
   intro x c c' y h h' he;have hx:=h.ok x (Wz ..);have h1:=he x.1.Lo;rw[lk_mem h (Wz ..) (Wbf _) hx.2.1]at h1;obtain⟨z,hz,h2,h3⟩:=Zuw (c:=y::c') (v:=x.1.Lo) gD
   rcases W1.1 hz with rfl|hz
   exact h2;have:=((Wa4.1 h'.pw).1 z hz).1;have:=(h'.ok y (Wz ..)).2.1;omega
  have e1:x.1.Lo=y.1.Lo:=Int.le_antisymm gD (low h h' he)
  have e2:x.2=y.2:=by
   have h1:=he x.1.Lo;rw[lk_mem h (Wz ..) (Wbf _) hx.2.1,lk_mem h' (Wz ..) om om]at h1;exact h1
  have hi:∀ {x:Cell} {c c':List Cell} {y:Cell},Ord t (x::c)→Ord t (y::c')→(∀ v,lk (x::c) v=lk (y::c') v)→x.1.Lo=y.1.Lo→x.2=y.2→¬x.1.Hi<y.1.Hi:=by
   intro x c c' y h h' he e1 e2 hlt;have hx:=h.ok x (Wz ..);have h1:=he (x.1.Hi+1);rw[lk_mem h' (v:=x.1.Hi+1) (Wz ..) om om]at h1;obtain⟨z,hz,h2,h3⟩:=Zuw (c:=x::c) (v:=x.1.Hi+1) gD
   rcases W1.1 hz with rfl|hzc
   omega;have hg:=(Wa4.1 h.pw).1 z hzc;rw[lk_mem h hz h2 h3,←e2]at h1;exact hg.2 (by have:=hg.1;omega) h1.symm
  have e3:x.1.Hi=y.1.Hi:=by
   grind
  have exy:x=y:=by
   obtain⟨⟨a,b⟩,r⟩:=x;simp_all
  subst exy
  congr 1
  refine Ord.inj h.tail h'.tail λv=>?_
  have h1:=he v;exact List.append_cancel_left h1
def CF_nil:∀ ts,CF ts []
 |[]=>.inl rfl
 |_::_=>⟨[],rfl,⟨List.Pairwise.nil,λ_ h=>(by cases h)⟩,λ_ h=>(by cases h)⟩
def CF_lk {ts:List Int} {t:Int} {c:List Cell} (h:Ord t c) (hc:∀ x∈c,CF ts x.2) (v:Int):CF ts (lk c v):=by
 by_cases hv:lk c v=[]
 rw[hv];exact CF_nil ts;obtain⟨x,hx,h1,h2⟩:=Zuw hv;rw[lk_mem h hx h1 h2]
 grind
def lk_out {t:Int} {c:List Cell} (h:Ord t c) {v:Int} (hv:v<0∨t<v):lk c v=[]:=
 Z3k λx hx=>by have:=h.ok x hx;omega
def CF_inj:∀ ts {l l':List Yc},CF ts l→CF ts l'→(∀ p,vP ts p→mS l p=mS l' p)→l=l'
 |[],l,l',h,h',he=>by
  have:=he [] trivial
  rcases h with rfl|rfl<;>rcases h' with rfl|rfl
  rfl;simp[mS,mB]at this;simp[mS,mB]at this;rfl
 |t::ts,l,l',h,h',he=>by
  obtain⟨c,rfl,ho,hc⟩:=h;obtain⟨c',rfl,ho',hc'⟩:=h';rw[Ord.inj ho ho' λv=>?_]
  by_cases hv:0≤v∧v≤t
  refine CF_inj ts (CF_lk ho hc v) (CF_lk ho' hc' v) λp hp=>?_
  have:=he (v::p) ⟨hv.1,hv.2,hp⟩;rw[Zr0,Zr0,Zuv,Zuv]at this;exact this;rw[lk_out ho om,lk_out ho' om]
def joinC (c:List Cell) (lo hi:Int) (rest:List Yc):List Cell:=
 if rest=[]then c else match c.getLast? with
  |some y=>if y.1.Hi+1=lo∧y.2=rest then c.dropLast++[(⟨y.1.Lo,hi⟩,rest)]else c++[(⟨lo,hi⟩,rest)]
  |none=>c++[(⟨lo,hi⟩,rest)]
structure Upto (g:Int→List Yc) (p:Int) (c:List Cell):Prop where
 ord:Ord (p-1) c
 at_:∀ v,lk c v=if 0≤v∧v<p then g v else[]
def Ord.mono {t t':Int} (h:t≤t') {c:List Cell} (ho:Ord t c):Ord t' c:=⟨ho.pw,λx hx=>by have:=ho.ok x hx;grind⟩
def Upto.nil (g:Int→List Yc):Upto g 0 []:=⟨⟨List.Pairwise.nil,λ_ h=>(by cases h)⟩,λv=>by rw[if_neg om];rfl⟩
def lk_one (lo hi:Int) (rest:List Yc) (v:Int):lk [(⟨lo,hi⟩,rest)] v=if lo≤v∧v≤hi then rest else[]:=by
 rw[Zuu];show _++[]=_;rw[Wam]
 by_cases h:lo≤v∧v≤hi
 rw[if_pos h,if_pos (Zd0.2 h)];rw[if_neg h,if_neg (by rw[Zd0];exact h)]
def Whi:=@List.getLast?_eq_none_iff
def Wcd:=@List.getLast?_eq_some_iff
def Wd2:=@List.dropLast_concat
def Wb4:=@List.nil_append
def Upto.step {g:Int→List Yc} {p q:Int} {c:List Cell} (h:Upto g p c) (hp:0≤p) (hq:p<q) (hg:∀ v,p≤v→v<q→g v=g p):Upto g q (joinC c p (q-1) (g p)):=by
 unfold joinC
 by_cases hr:g p=[]
 rw[if_pos hr]
 refine⟨h.ord.mono om,λv=>?_⟩
 rw[h.at_]
 by_cases h1:0≤v∧v<p
 rw[if_pos h1,if_pos ⟨h1.1,om⟩];rw[if_neg h1];split;rw[hg v om om,hr];rfl;rw[if_neg hr]
 have snoc:∀(d:List Cell) (lo:Int),d.Pairwise gp→(∀ x∈d,0≤x.1.Lo∧x.1.Lo≤x.1.Hi∧x.1.Hi≤p-1∧x.2≠[])→(∀ y∈d,gp y (⟨lo,q-1⟩,g p))→0≤lo→lo≤p →
   Ord (q-1) (d++[(⟨lo,q-1⟩,g p)]):=by
  intro d lo h1 h2 h3 h4 h5
  refine⟨Wb7.2 ⟨h1,Wcp ..,λy hy x hx=>gD⟩,λx hx=>?_⟩
  grind
 have look:∀ v,lk c v++(if p≤v∧v≤q-1 then g p else[])=if 0≤v∧v<q then g v else[]:=by
  intro v;rw[h.at_]
  grind
 cases hl:c.getLast?;rw[Whi]at hl;subst hl
 refine⟨snoc [] p List.Pairwise.nil (λ_ h=>(by cases h)) (λ_ h=>(by cases h)) hp (Wbf _),λv=>?_⟩
 rw[lk_app,lk_one];exact look v;rename_i y;obtain⟨d,rfl⟩:=Wcd.1 hl;have hyo:=h.ord.ok y gD;have hpw:=Wb7.1 h.ord.pw
 have hbe:=λx hx=>hpw.2.2 x hx y (Wl.2 rfl)
 simp only
 by_cases hj:y.1.Hi+1=p∧y.2=g p
 rw[if_pos hj,Wd2]
 refine⟨snoc d y.1.Lo hpw.1 (λx hx=>h.ord.ok x gD) (λx hx=>⟨(hbe x hx).1,by rw[←hj.2];exact(hbe x hx).2⟩) hyo.1 om,λv=>?_⟩
 rw[lk_app,lk_one,←look v,lk_app,Wap]
 congr 1
 obtain⟨⟨ylo,yhi⟩,yr⟩:=y;rw[lk_one]
 simp only at hj hyo⊢
 obtain⟨h1,rfl⟩:=hj
 by_cases h2:ylo≤v∧v≤yhi
 rw[if_pos h2,if_neg (show ¬(p≤v∧v≤q-1) by omega),if_pos gD,Wam];rw[if_neg h2,Wb4]
 by_cases h3:p≤v∧v≤q-1
 rw[if_pos h3,if_pos gD];rw[if_neg h3,if_neg om];rw[if_neg hj]
 refine⟨snoc (d++[y]) p h.ord.pw h.ord.ok (λx hx=>⟨?_,λe1 e2=>?_⟩) hp (Wbf _),λv=>?_⟩
 have:=h.ord.ok x hx;show x.1.Hi<p;omega
 simp only at e1 e2
 rcases Wj.1 hx with hx|hx
 have:=(hbe x hx).1;omega;rw[Wl]at hx;subst hx;exact hj ⟨e1,e2⟩;rw[lk_app,lk_one];exact look v
def Upto.exists_ (g:Int→List Yc):∀ n:Nat,∃ c,Upto g n c
 |0=>⟨[],Upto.nil g⟩
 |n+1=>by
  obtain⟨c,h⟩:=Upto.exists_ g n
  refine⟨_,h.step (q:=(n+1:Nat)) om om λv h1 h2=>?_⟩
  grind
structure Is (op:Bool→Bool→Bool) (ts:List Int) (a b l:List Yc):Prop where
 cf:CF ts l
 mem:∀ p,vP ts p→mS l p=op (mS a p) (mS b p)
def Is.inj {op:Bool→Bool→Bool} {ts:List Int} {a b l l':List Yc} (h:Is op ts a b l) (h':Is op ts a b l'):l=l':=
 CF_inj ts h.cf h'.cf λp hp=>by rw[h.mem p hp,h'.mem p hp]
def Is.exists_ (op:Bool→Bool→Bool):∀ ts,(∀ t∈ts,0≤t)→∀ a b,∃ l,Is op ts a b l
 |[],_,a,b=>by
  by_cases h:op (mS a []) (mS b [])=true
  exact⟨[[]],.inr rfl,λp hp=>by cases p with|nil=>rw[h];rfl|cons _ _=>exact hp.elim⟩;exact⟨[],.inl rfl,λp hp=>by cases p with|nil=>rw[Wde]at h;rw[h];rfl|cons _ _=>exact hp.elim⟩
 |t::ts,ht,a,b=>by
  have ih:=λv=>Is.exists_ op ts gD (atv a v) (atv b v)
  have h0:=ht t (Wz ..);obtain⟨c,hc⟩:=Upto.exists_ (λv=>(ih v).choose) (t+1).toNat
  have hg:=λv=>(ih v).choose_spec
  refine⟨flt c,⟨c,rfl,hc.ord.mono om,λx hx=>?_⟩,λp hp=>?_⟩
  have hx2:=hc.ord.ok x hx;have:=hc.at_ x.1.Lo;rw[lk_mem hc.ord hx (Wbf _) hx2.2.1,if_pos om]at this;rw[this];exact(hg _).cf;cases p;exact hp.elim;rename_i v p;rw[Zr0,Zuv,hc.at_,if_pos (by have:=hp.1;have:=hp.2.1;omega),(hg v).mem p hp.2.2,Zr0,Zr0]
def Is.at_ {op:Bool→Bool→Bool} {t:Int} {ts:List Int} {a b:List Yc} {c:List Cell} (ho:Ord t c) (hc:∀ x∈c,CF ts x.2) (h:Is op (t::ts) a b (flt c)) {v:Int} (h0:0≤v) (h1:v≤t) :
  Is op ts (atv a v) (atv b v) (lk c v):=
 ⟨CF_lk ho hc v,λp hp=>by have:=h.mem (v::p) ⟨h0,h1,hp⟩;rw[Zr0,Zr0,Zr0,Zuv]at this;omega⟩
def runC (g:Int→List Yc):List Cell→List Int→List Cell
 |c,p::q::ps=>runC g (joinC c p (q-1) (g p)) (q::ps)
 |c,[_]=>c
 |c,[]=>c
def Zux (r:Za) (rest:List Yc):(flt [(r,rest)]).length=rest.length:=by
 simp[flt]
def Zagn (c:List Cell) (lo hi:Int) (rest:List Yc):(flt c).length≤(flt (joinC c lo hi rest)).length∧(flt (joinC c lo hi rest)).length≤(flt c).length+rest.length:=by
 unfold joinC;split;omega;split;rename_i y hl;obtain⟨d,rfl⟩:=Wcd.1 hl;split;rename_i hj;rw[Wd2,Zo4,Zo4,Wm,Wm,Zux];obtain⟨yr,yrest⟩:=y;rw[Zux];have:=congrArg List.length hj.2;omega;rw[Zo4 (d++[y]),Wm,Zux];omega;rw[Zo4,Wm,Zux];omega
def Z3l (g:Int→List Yc):∀ ps c,(flt c).length≤(flt (runC g c ps)).length
 |[],_=>Ws _
 |[_],_=>Ws _
 |p::q::ps,c=>Wbj (Zagn c p (q-1) (g p)).1 (Z3l g (q::ps) _)
def Steps (g:Int→List Yc):List Int→Prop
 |p::q::ps=>p<q∧(∀ v,p≤v→v<q→g v=g p)∧Steps g (q::ps)
 |[_]=>True
 |[]=>False
def Upto.run {g:Int→List Yc}:∀ {ps:List Int} {p:Int} {c:List Cell},0≤p→Steps g (p::ps)→Upto g p c→∃ q,(p::ps).getLast? = some q∧Upto g q (runC g c (p::ps))
 |[],p,c,_,_,h=>⟨p,rfl,h⟩
 |q::ps,p,c,h0,hs,h=>by
  obtain⟨h1,h2,h3⟩:=hs;obtain⟨z,hz,hu⟩:=Upto.run (ps:=ps) (p:=q) om h3 (h.step h0 h1 h2);exact⟨z,gD,hu⟩
def Zajb {g:Int→List Yc} {t:Int} {c:List Cell} {ps:List Int} (hs:Steps g (0::ps)) (hl:(0::ps).getLast? = some (t+1)) (ho:Ord t c) (hg:∀ v,0≤v→v≤t→lk c v=g v):runC g [] (0::ps)=c:=by
 obtain⟨q,h1,h2⟩:=Upto.run (Wbf 0) hs (Upto.nil g);rw[hl,Wn]at h1;subst h1
 refine Ord.inj (h2.ord.mono (t':=t) om) ho λv=>?_
 rw[h2.at_]
 by_cases hv:0≤v∧v<t+1
 rw[if_pos hv,hg v hv.1 om];rw[if_neg hv,lk_out ho om]
def Cut (ps:List Int) (l:List Yc):Prop:=∀ b∈l,∀ r b',b=r::b'→r.Lo∈ps∧r.Hi+1∈ps
def Zahy {l:List Yc} {p q:Int} (h:∀ b∈l,∀ r b',b=r::b'→¬(p<r.Lo∧r.Lo<q)∧¬(p<r.Hi+1∧r.Hi+1<q)) {v:Int} (h1:p≤v) (h2:v<q):atv l v=atv l p:=by
 unfold atv
 induction l with
 |nil=>rfl
 |cons b l ih=>
  rw[Wet,ih λx hx=>h x gD]
  congr 1
  cases b;rfl;rename_i r b;have hb:=h (r::b) (Wz ..) r b rfl
  have:inR v r=inR p r:=by
   rw[Wa8,Zd0,Zd0];omega
  grind
def Wax:=@List.getElem_of_mem
def Zaas:∀ {ps:List Int},ps.Pairwise (·<·)→∀ {i:Nat} (h:i+1<ps.length),∀ x∈ps,¬(ps[i]<x∧x<ps[i+1]):=by
 intro ps hp i h x hx hc;obtain⟨j,hj,rfl⟩:=Wax hx;have hm:=Wau.1 hp
 grind
def We7:=@List.cons_ne_nil
def Zab0 {g:Int→List Yc}:∀ {ps:List Int},ps≠[]→ps.Pairwise (·<·)→(∀ i (h:i+1<ps.length),∀ v,ps[i]≤v→v<ps[i+1]→g v=g ps[i])→Steps g ps
 |[],h,_,_=>h rfl
 |[_],_,_,_=>trivial
 |p::q::ps,_,hp,hg=>by
  refine⟨(Wa4.1 hp).1 q (Wz ..),λv h1 h2=>hg 0 sM v h1 h2,Zab0 (We7 _ _) (Wa4.1 hp).2 λi h v h1 h2=>?_⟩
  have:=hg (i+1) gD v
  grind
structure Nx (t:Int) (ts:List Int) (last:Option Cell) (c:List Cell):Prop where
 ord:Ord t c
 cf:∀ x∈c,CF ts x.2
 gap:∀ y∈last,∀ x∈c,gp y x
def Nx.nil (t:Int) (ts:List Int) (last:Option Cell):Nx t ts last []:=⟨⟨List.Pairwise.nil,λ_ h=>(by cases h)⟩,λ_ h=>((by cases h)),λ_ _ _ h=>(by cases h)⟩
def CF_iff {t:Int} {ts:List Int} {l:List Yc}:CF (t::ts) l↔∃ c,l=flt c∧Nx t ts none c:=
 ⟨λ⟨c,h1,h2,h3⟩=>⟨c,h1,h2,h3,λ_ h=>(by cases h)⟩,λ⟨c,h1,h2⟩=>⟨c,h1,h2.ord,h2.cf⟩⟩
def Nx.run {t:Int} {ts:List Int} {last:Option Cell} {r:Za} {run:List Yc} {l:List Yc} (hrun:run≠[]) (hl:∀ b,l.head? = some b→∃ r' b',b=r'::b'∧r'≠r) :
  (∃ c,run.map (r::·)++l=flt c∧Nx t ts last c)↔(0≤r.Lo∧r.Lo≤r.Hi∧r.Hi≤t)∧CF ts run∧(∀ y∈last,gp y (r,run))∧∃ c,l=flt c∧Nx t ts (some (r,run)) c:=by
 constructor;rintro⟨c,hc,hn⟩;cases c;have:run.map (r::·)=[]:=(List.append_eq_nil_iff.1 hc).1
 simp at this
 exact absurd this hrun;rename_i x c;rw[Zrk]at hc;have hx:=hn.ord.ok x (Wz ..);have hp:=Wa4.1 hn.ord.pw
 have key:∀(u w:List Yc) (l l':List Yc),u≠[]→w≠[]→(∀ b,l.head? = some b→∃ r' b',b=r'::b'∧r'≠r)→(∀ b,l'.head? = some b→∃ r' b',b=r'::b'∧r'≠x.1) →
   u.map (r::·)++l=w.map (x.1::·)++l'→r=x.1∧u=w∧l=l':=by
  intro u w l l' hu hw g1 g2 he
  have hr:r=x.1:=by
   cases u with
   |nil=>exact absurd rfl hu
   |cons b u=>cases w with
    |nil=>exact absurd rfl hw
    |cons d w=>
     grind
  refine⟨hr,?_⟩
  rw[←hr]at he g2;clear hu hw
  induction u generalizing w with
  |nil=>cases w with
   |nil=>exact⟨rfl,by simpa using he⟩
   |cons d w=>
    simp_all
  |cons b u ih=>cases w with
   |nil=>
    simp at he
    obtain⟨r',b',e1,e2⟩:=g2 (r::b) (by rw[←he];rfl)
    grind
   |cons d w=>
    grind
 have hnext:∀ b,(flt c).head? = some b→∃ r' b',b=r'::b'∧r'≠x.1:=by
  intro b hb;cases c;simp[flt]at hb;rename_i z c;have hz:=hn.ord.ok z gD;rw[Zrk]at hb
  cases hz2:z.2 with
  |nil=>exact absurd hz2 hz.2.2.2
  |cons d w=>
   rw[hz2]at hb
   simp at hb
   refine⟨z.1,d,hb.symm,λe=>?_⟩
   have:=(hp.1 z (Wz ..)).1;rw[e]at this;omega
 obtain⟨e1,e2,e3⟩:=key run x.2 l (flt c) hrun hx.2.2.2 hl hnext hc;subst e1 e2 e3
 exact⟨⟨hx.1,hx.2.1,hx.2.2.1⟩,hn.cf x (Wz ..),λy hy=>hn.gap y hy x (Wz ..),c,rfl,hn.ord.tail,λz hz=>hn.cf z (Wcf _ hz),λy hy z hz=>by
  grind⟩
 rintro⟨h1,h2,h3,c,rfl,hn⟩
 refine⟨(r,run)::c,rfl,⟨Wa4.2 ⟨λz hz=>hn.gap _ rfl z hz,hn.ord.pw⟩,λx hx=>?_⟩,λx hx=>?_,λy hy x hx=>?_⟩
 rcases W1.1 hx with rfl|hx
 exact⟨h1.1,h1.2.1,h1.2.2,hrun⟩;exact hn.ord.ok x hx
 rcases W1.1 hx with rfl|hx
 exact h2;exact hn.cf x hx
 rcases W1.1 hx with rfl|hx
 exact h3 y hy;have g1:=h3 y hy;have g2:=hn.gap _ rfl x hx;have g3:=g1.1;have g4:=g2.1
 simp only at g3 g4
 exact⟨om,λe=>om⟩
def allF (f:Int→Bool):Bool:=!(f 0||f 1||f 2||f 3||f 4)
def zb5:Arr5 Za:=⟨⟨0,0⟩,⟨0,0⟩,⟨0,0⟩,⟨0,0⟩,⟨0,0⟩⟩
def ixr (a b:Za):Za:=⟨iMax a.Lo b.Lo,iMin a.Hi b.Hi⟩
def isect (a b:Arr5 Za):Arr5 Za:=⟨ixr a.x0 b.x0,ixr a.x1 b.x1,ixr a.x2 b.x2,ixr a.x3 b.x3,ixr a.x4 b.x4⟩
def xB (a b:Arr5 Za):Arr5 Za×Bool:=if(vB a&&vB b&&vB (isect a b))=true then(isect a b,true)else(zb5,false)
theorem Z9x (z a b:Arr5 Za):(((((z.set 0 (ixr (a.get 0) (b.get 0))).set 1 (ixr (a.get 1) (b.get 1))).set 2 (ixr (a.get 2) (b.get 2))).set 3 (ixr (a.get 3) (b.get 3))).set 4 (ixr (a.get 4) (b.get 4)))=isect a b:=rfl
def Wbx:=@decide_true
def Z3m (a b:Arr5 Za):Znj a b=some (xB a b):=by
 unfold Znj xB;rw[Zp2,Zp2]
 have h1:Zf1 a b fuel Zfu 0=some (isect a b):=by
  rw[Z9w (L:=Zf1 a b) (f:=λs k=>Arr5.set s k (ixr (a.get k) (b.get k))) (fin:=id) (λn s k h0 h1=>by
   rw[Zf1];simp only[show k<5 from h1,Wbx,if_true,show 0≤k∧k<5 from⟨h0,h1⟩,and_self,wnext h0 (by omega:k<1000000)]
   rfl) (λn s=>by rw[Zf1];rfl)]
  rw[Z9x];rfl
 rw[h1];simp only[Wc];rw[Zp2];cases vB a<;>cases vB b<;>cases vB (isect a b)<;>rfl
def Z1k (a b:Arr5 Za):Zc7 a b=some (xB a b):=by
 unfold Zc7 xB
 have h1:Zce a b fuel Zfu 0=some (isect a b):=by
  rw[Z9w (L:=Zce a b) (f:=λs k=>Arr5.set s k (ixr (a.get k) (b.get k))) (fin:=id) (λn s k h0 h1=>by
   rw[Zce];simp only[show k<5 from h1,Wbx,if_true,show 0≤k∧k<5 from⟨h0,h1⟩,and_self,wnext h0 (by omega:k<1000000)]
   rfl) (λn s=>by rw[Zce];rfl)]
  rw[Z9x];rfl
 rw[h1];simp only[Wc];rw[Zg9,Zg9,Zg9];cases vB a<;>cases vB b<;>cases vB (isect a b)<;>rfl
def difM (m:Z9) (k:Int):Bool:=(wrap .u32 ((m.From.get k).Hi-(m.From.get k).Lo))!=(wrap .u32 ((m.To.get k).Hi-(m.To.get k).Lo))
def vM (m:Z9):Bool:=vB m.From&&vB m.To&&allF (difM m)
def Zab1 (m:Z9):Zme m=some (vM m):=by
 unfold Zme vM
 rw[Zp2,Zp2,Z9v (L:=Zfg m) (bad:=difM m) (λn k h0 h1=>by
  rw[Zfg];simp only[show k<5 from h1,Wbx,if_true,show 0≤k∧k<5 from⟨h0,h1⟩,and_self,wnext h0 (by omega:k<1000000)]
  rfl) (λn=>by rw[Zfg];rfl)]
 unfold allF;cases vB m.From<;>cases vB m.To<;>cases(difM m 0||difM m 1||difM m 2||difM m 3||difM m 4)<;>rfl
def Z1l (m:Z9):Zhw m=some (vM m):=by
 unfold Zhw vM
 rw[Zg9,Zg9,Z9v (L:=Zff m) (bad:=difM m) (λn k h0 h1=>by
  rw[Zff];simp only[show k<5 from h1,Wbx,if_true,show 0≤k∧k<5 from⟨h0,h1⟩,and_self,wnext h0 (by omega:k<1000000)]
  rfl) (λn=>by rw[Zff];rfl)]
 unfold allF;cases vB m.From<;>cases vB m.To<;>cases(difM m 0||difM m 1||difM m 2||difM m 3||difM m 4)<;>rfl
def orN (o:Option Int):Int:=match o with|some r=>r|none=>-1
def meetsB (m o:Z9):Bool:=(xB m.From o.From).2
def gV (l:List Z9) (i:Nat) (m:Z9):Option Bool:=if(!vM m||(l.take i).any (meetsB m))=true then some false else none
def orT (o:Option Bool):Bool:=match o with|some r=>r|none=>true
def vL (l:List Z9):Bool:=if l.length>64 then false else orT (findI (gV l) 0 l)
def Wgb:=@List.any_cons
def Wc7:=@Bool.false_or
def Z3n {α:Type} (p:α→Bool):∀(l:List α) (i:Nat),findI (λ_ x=>if p x=true then some false else none) i l=if l.any p=true then some false else none
 |[],_=>rfl
 |x::xs,i=>by
  simp only[findI,Wgb]
  by_cases hp:p x=true
  ·simp[hp]
  ·simp only[Wde]at hp
   simp only[hp,Wy,if_false,Wc7];exact Z3n p xs (i+1)
def Z7i {l:List Z9}:Znk l=some (vL l):=by
 unfold Znk vL
 by_cases h:l.length>64
 ·rw[if_pos h,if_pos sO]
 ·rw[if_neg h,if_neg sO]
  rw[Zns (L:=Zis l) l (gV l) om (λn i hi=>by
   rw[Zis]
   have h2:Zf2 l (i:Int) l[i] fuel 0=some (orS (if(l.take i).any (meetsB l[i])=true then some false else none)):=by
    have ht:List.drop (Int.toNat (0:Int)) (List.take (Int.toNat (i:Int)) l)=l.take i:=sM
    rw[Zns (L:=Zf2 l (i:Int) l[i]) (l.take i) (λ_ o=>if meetsB l[i] o=true then some false else none) sO (λn j hj=>by
     rw[Zf2,ht];simp only[show((j:Int)<((l.take i).length:Int))from by omega,Wbx,if_true,Zaq hj,Wc,Z3m,wsucc (by simp at hj;omega:j<1000000000001)];unfold meetsB
     cases(xB l[i].From (l.take i)[j].From).2<;>rfl) (λn=>by rw[Zf2,ht];simp),Z3n]
   simp only[show((i:Int)<(l.length:Int))from by omega,Wbx,if_true,Zaq hi,Wc,Zab1,wsucc (by omega:i<1000000000001),h2];rw[if_pos (c:=0≤(0:Int)∧(0:Int)≤(i:Int)∧(i:Int)≤(l.length:Int)) om];unfold gV
   cases vM l[i]<;>cases(l.take i).any (meetsB l[i])<;>rfl) (λn=>by rw[Zis];simp)]
  cases findI (gV l) 0 l<;>rfl
def Wgl:=@List.getElem_take
def Z42 {l:List Z9}:Zgu l=some (vL l):=by
 unfold Zgu vL
 by_cases h:l.length>64
 ·rw[if_pos h,if_pos sO]
 ·rw[if_neg h,if_neg sO]
  rw[Zns (L:=Zen l) l (gV l) om (λn i hi=>by
   rw[Zen]
   have h2:Zf0 l (i:Int) fuel 0=some (orS (if(l.take i).any (meetsB l[i])=true then some false else none)):=by
    have hlen:(l.take i).length=i:=by simp;omega
    rw[Zns (L:=Zf0 l (i:Int)) (l.take i) (λ_ o=>if meetsB l[i] o=true then some false else none) sO (λn j hj=>by
     have hji:j<i:=om
     have hjl:j<l.length:=om
     rw[Zf0];simp only[show((j:Int)<(i:Int))from by omega,Wbx,if_true,Zaq hi,Zaq hjl,Wc,Z1k,wsucc (by omega:j<1000000000001),Wgl];unfold meetsB
     cases(xB l[i].From l[j].From).2<;>rfl) (λn=>by rw[Zf0,hlen];simp),Z3n]
   simp only[show((i:Int)<(l.length:Int))from by omega,Wbx,if_true,Zaq hi,Wc,Z1l,wsucc (by omega:i<1000000000001),h2];unfold gV
   cases vM l[i]<;>cases(l.take i).any (meetsB l[i])<;>rfl) (λn=>by rw[Zen];simp)]
  cases findI (gV l) 0 l<;>rfl
def vB_get {b:Arr5 Za} (h:BIn b) (hv:vB b=true) {k:Int} (h0:0≤k) (h1:k<5):0≤(b.get k).Lo∧(b.get k).Lo≤(b.get k).Hi∧(b.get k).Hi≤topOf k:=by
 obtain⟨g0,g1,g2,g3,g4⟩:=vB_ok h hv
 rcases five h0 h1 with rfl|rfl|rfl|rfl|rfl
 ·exact⟨g0.h0,g0.h1,g0.h2⟩
 ·exact⟨g1.h0,g1.h1,g1.h2⟩
 ·exact⟨g2.h0,g2.h1,g2.h2⟩
 ·exact⟨g3.h0,g3.h1,g3.h2⟩
 ·exact⟨g4.h0,g4.h1,g4.h2⟩
def Zahz {k:Int} (h0:0≤k) (h1:k<5):0≤topOf k∧topOf k≤4294967295:=by
 rcases five h0 h1 with rfl|rfl|rfl|rfl|rfl<;>decide
abbrev Bx:=Arr5 Za
def toL (b:Bx):List Za:=[b.x0,b.x1,b.x2,b.x3,b.x4]
def sf (f:Nat) (b:Bx):List Za:=(toL b).drop f
def zr:Za:=⟨0,0⟩
def ofL:List Za→Bx
 |[a,b,c,d,e]=>⟨a,b,c,d,e⟩
 |_=>⟨zr,zr,zr,zr,zr⟩
def pad (f:Nat) (l:List Za):Bx:=ofL (List.replicate f zr++l)
def tops5:List Int:=[4294967295,4294967295,255,65535,65535]
def fiveN {f:Nat} (h:f<5):f=0∨f=1∨f=2∨f=3∨f=4:=om
def Zuy {f:Nat} (h:f<5) (b:Bx):sf f b=b.get (f:Int)::sf (f+1) b:=by
 rcases fiveN h with rfl|rfl|rfl|rfl|rfl<;>rfl
def Z9y {f:Nat} (h:f<5):tops5.drop f=topOf (f:Int)::tops5.drop (f+1):=by
 rcases fiveN h with rfl|rfl|rfl|rfl|rfl<;>rfl
def len4 {l:List Za} {n:Nat} (h:l.length=n):match n with
  |0=>l=[]
  |1=>∃ a,l=[a]
  |2=>∃ a b,l=[a,b]
  |3=>∃ a b c,l=[a,b,c]
  |4=>∃ a b c d,l=[a,b,c,d]
  |5=>∃ a b c d e,l=[a,b,c,d,e]
  |_=>True:=by
 subst h
 rcases l with _|⟨a,_|⟨b,_|⟨c,_|⟨d,_|⟨e,_|⟨g,l⟩⟩⟩⟩⟩⟩
 ·exact rfl
 ·exact⟨_,rfl⟩
 ·exact⟨_,_,rfl⟩
 ·exact⟨_,_,_,rfl⟩
 ·exact⟨_,_,_,_,rfl⟩
 ·exact⟨_,_,_,_,_,rfl⟩
 ·exact trivial
def Z82 {f:Nat} (h:f<5) {l:List Za} (hl:l.length=4-f) (r:Za):(pad (f+1) l).set (f:Int) r=pad f (r::l):=by
 have h1:=len4 hl
 rcases fiveN h with rfl|rfl|rfl|rfl|rfl
 ·obtain⟨a,b,c,d,rfl⟩:=h1;rfl
 ·obtain⟨a,b,c,rfl⟩:=h1;rfl
 ·obtain⟨a,b,rfl⟩:=h1;rfl
 ·obtain⟨a,rfl⟩:=h1;rfl
 ·cases h1;rfl
def Zael {l:List Za} (h:l.length=5):toL (ofL l)=l:=by
 obtain⟨a,b,c,d,e,rfl⟩:=len4 h;rfl
theorem Z32 (b:Bx):ofL (toL b)=b:=rfl
def sf_pad {f:Nat} (h:f≤5) {l:List Za} (hl:l.length=5-f):sf f (pad f l)=l:=by
 unfold sf pad;rw[Zael sO,Wc3 sM]
def Zajc {b b':Bx} (h:toL b=toL b'):b=b':=by rw[←Z32 b,h,Z32]
instance decBx:DecidableEq Bx:=λa b=>if h:toL a=toL b then .isTrue (Zajc h)else .isFalse λe=>h (by rw[e])
def eq_rg (a b:Za):Zbe a b=decide (a=b):=by
 obtain⟨a1,a2⟩:=a;obtain⟨b1,b2⟩:=b;simp only[Zbe,Wdo,Za.mk.injEq];rw[Wa8];simp
def eq_bx (a b:Bx):Ztp a b=decide (a=b):=by
 obtain⟨a0,a1,a2,a3,a4⟩:=a;obtain⟨b0,b1,b2,b3,b4⟩:=b;simp only[Ztp,Wdo,eq_rg,Arr5.mk.injEq];rw[Wa8];simp
def Wbv:=@List.length_singleton
def Zab2 {α:Type} [DecidableEq α]:∀(l pre b:List α),l.length+pre.length=b.length→findI (λi x=>if b[i]? = some x then none else some false) pre.length l=if l=b.drop pre.length then none else some false
 |[],pre,b,h=>by simp at h;rw[h];simp[findI]
 |x::l,pre,b,h=>by
  simp only[Wak]at h
  have hi:pre.length<b.length:=om
  rw[War hi];simp only[findI,Wr hi,Wai,Wn]
  by_cases e:b[pre.length]=x
  ·rw[if_pos e]
   simp only[e,true_and];have:=Zab2 l (pre++[x]) b sO;simp only[Wm,Wbv]at this;exact this
  ·rw[if_neg e,if_neg (λh=>e h.1.symm)]
def Zaem {a b:List Bx} (ha:a.length≤1000000000000):Zow a b=some (decide (a=b)):=by
 unfold Zow
 by_cases hl:a.length=b.length
 ·rw[if_neg (by simp[hl])]
  rw[Zns (L:=Zjw a b) a (λi x=>if b[i]? = some x then none else some false) ha (λn i hi=>by
   have hj:i<b.length:=om
   rw[Zjw];simp only[show((i:Int)<(a.length:Int))from by omega,Wbx,if_true,Zaq hi,Zaq hj,Wc,eq_bx,wsucc (by omega:i<1000000000001),Wr hj,Wn]
   by_cases e:a[i]=b[i]
   ·simp[e]
   ·rw[if_neg (show ¬b[i]=a[i]from λh=>e h.symm)];simp[e]) (λn=>by rw[Zjw];simp)]
  have:=Zab2 a [] b (by simpa using hl);simp only[Wdp,List.drop_zero]at this;rw[this]
  by_cases e:a=b
  ·simp[e,orS]
  ·simp[e,orS]
 ·rw[if_pos sO]
  rw[Wo (λe=>hl (by rw[e]))]
def cov (a:List Bx) (f v:Int):List Bx:=a.filter λb=>inR v (b.get f)
def Zw6 {α:Type} (p:α→Bool):∀(l acc:List α) (i:Nat),foldI (λs _ x=>if p x=true then s++[x]else s) acc i l=acc++l.filter p
 |[],acc,i=>by simp[foldI]
 |x::xs,acc,i=>by
  simp only[foldI,Wb6];rw[Zw6 p xs];cases p x<;>simp
theorem inR_eq (v:Int) (r:Za):inR v r=(decide (r.Lo≤v)&&decide (v≤r.Hi)):=rfl
def at_eq {a:List Bx} (ha:a.length≤2000000000) {f:Int} (h0:0≤f) (h1:f<5) (v:Int) (hin:∀ b∈a,BIn b):Zq8 a f v=some (cov a f v):=by
 unfold Zq8
 have:=Ztn (L:=Zm4 a f v) a (λs _ x=>if inR v (x.get f)=true then s++[x]else s) id (λi s=>s.length≤i) om (λn s i hi hs=>by
  rw[Zm4];have hb:=(hin _ (Wv hi)).get f;have e1:wrap .u64 ((a[i]).get f).Lo=((a[i]).get f).Lo:=wu64 hb.h0 (by have:=hb.h1;omega);have e2:wrap .u64 ((a[i]).get f).Hi=((a[i]).get f).Hi:=wu64 hb.h2 (by have:=hb.h3;omega);simp only[show((i:Int)<(a.length:Int))from by omega,Wbx,if_true,Zaq hi,Wc,wsucc (by omega:i<1000000000001),Wbv,e1,e2];rw[if_pos ⟨h0,h1⟩,inR_eq];rw[if_pos (show s.length+1≤lim by unfold lim;omega)]
  cases decide (((a[i]).get f).Lo≤v)<;>cases decide (v≤((a[i]).get f).Hi)<;>simp[h0,h1]<;>omega) (λn s hs=>by rw[Zm4];simp) [] (Ws _)
 rw[this.1,Zw6];rfl
def Zaen {f:Nat} (h:f<5) (a:List Bx) (v:Int):(cov a (f:Int) v).map (sf (f+1))=atv (a.map (sf f)) v:=by
 induction a with
 |nil=>rfl
 |cons b a ih=>
  have e:atv ((b::a).map (sf f)) v=(if inR v (b.get (f:Int))then[sf (f+1) b]else[])++atv (a.map (sf f)) v:=by
   rw[W0,Zuy h];rfl
  rw[e,←ih];unfold cov;rw[Wb6];cases inR v (b.get (f:Int))<;>simp
def Zaeo (a:List Bx) (f v:Int):(cov a f v).length≤a.length:=Wfb ..
def Zajd {a:List Bx} {f v:Int} {b:Bx} (h:b∈cov a f v):b∈a:=(Wab.1 h).1
def Zvg {a:List Bx} (ha:a.length≤2000000000):Zgm a=some (a.filter vB):=by
 unfold Zgm
 have:=Ztn (L:=Zik a) a (λs _ x=>if vB x=true then s++[x]else s) id (λi s=>s.length≤i) om (λn s i hi hs=>by
  rw[Zik];simp only[show((i:Int)<(a.length:Int))from by omega,Wbx,if_true,Zaq hi,Wc,wsucc (by omega:i<1000000000001),Wbv,Zg9];rw[if_pos (show s.length+1≤lim by unfold lim;omega)]
  cases vB a[i]<;>simp<;>omega) (λn s hs=>by rw[Zik];simp) [] (Ws _)
 rw[this.1,Zw6];rfl
def topN {f:Nat} (h:f<5):0≤topOf (f:Int)∧topOf (f:Int)≤4294967295:=Zahz om om
def BOk.at_ {b:Bx} (h:BOk b) {f:Nat} (hf:f<5):0≤(b.get (f:Int)).Lo∧(b.get (f:Int)).Lo≤(b.get (f:Int)).Hi∧(b.get (f:Int)).Hi≤topOf (f:Int):=
 vB_get h.bin (ok_vB h) om om
structure Pts (f:Nat) (l:List Bx) (ps:List Int):Prop where
 asc:ps.Pairwise (·<·)
 h0:∃ tl,ps=0::tl
 hl:ps.getLast? = some (topOf (f:Int)+1)
 cut:∀ b∈l,(b.get (f:Int)).Lo∈ps∧(b.get (f:Int)).Hi+1∈ps
 len:ps.length≤2*l.length+2
def Zah0 {ps:List Int} (ha:ps.Pairwise (·<·)) {z:Int} (hz:z∈ps) (hb:∀ x∈ps,z≤x):∃ tl,ps=z::tl:=by
 cases ps with
 |nil=>cases hz
 |cons p ps=>
  rcases W1.1 hz with rfl|h
  ·exact⟨ps,rfl⟩
  ·have:=(Wa4.1 ha).1 z h
   have:=hb p (Wz ..);omega
def Zago {f:Nat} (hf:f<5) {a b:List Bx} (hl:a.length+b.length≤400000):Zpf a b (f:Int)=some ((a++b).map λx=>x.get (f:Int)):=by
 unfold Zpf
 have h1:=Ztn (L:=Zht a (f:Int)) a (λs _ x=>s++[x.get (f:Int)]) id (λi s=>s.length≤i) om (λn s i hi hs=>by
  rw[Zht];simp only[show((i:Int)<(a.length:Int))from by omega,Wbx,if_true,Zaq hi,Wc,wsucc (by omega:i<1000000000001),Wbv];rw[if_pos ⟨om,om⟩,if_pos (show s.length+1≤lim by unfold lim;omega)]
  exact⟨rfl,sO⟩) (λn s hs=>by rw[Zht];simp) [] (Ws _)
 rw[h1.1,Zyc];simp only[id,Wb4,Wc]
 have h2:=Ztn (L:=Zhu b (f:Int)) b (λs _ x=>s++[x.get (f:Int)]) id (λi s=>s.length≤a.length+i) om (λn s i hi hs=>by
  rw[Zhu];simp only[show((i:Int)<(b.length:Int))from by omega,Wbx,if_true,Zaq hi,Wc,wsucc (by omega:i<1000000000001),Wbv];rw[if_pos ⟨om,om⟩,if_pos (show s.length+1≤lim by unfold lim;omega)]
  exact⟨rfl,sO⟩) (λn s hs=>by rw[Zhu];simp) (a.map λx=>x.get (f:Int)) sM
 rw[h2.1,Zyc,Wat];rfl
def Zaje {l:List Int} {v:Int} (hl:l.length≤1000000):∀(k i n:Nat),l.length-i=k→k<n→i≤l.length→(∀ x∈l.take i,x<v)→∃ j,Zd3 l v n (i:Int)=some ((j:Nat):Int)∧j≤l.length∧(∀ x∈l.take j,x<v)∧∀ h:j<l.length,v≤l[j]:=by
 intro k
 induction k with
 |zero=>
  intro i n hk hn hi hx
  cases n with
  |zero=>omega
  |succ n=>
  refine⟨i,?_,hi,hx,λh=>om⟩
  rw[Zd3]
  have:decide ((i:Int)<(l.length:Int))=false:=by simp;omega
  rw[this];rfl
 |succ k ih=>
  intro i n hk hn hi hx
  cases n with
  |zero=>omega
  |succ n=>
  have h1:i<l.length:=om
  rw[Zd3]
  have:decide ((i:Int)<(l.length:Int))=true:=by simp;omega
  rw[this];simp only[Wc,if_true,Zaq h1]
  by_cases hlt:l[i]<v
  ·rw[if_pos (Wf hlt),wsucc om]
   refine ih (i+1) n om om om λx hx'=>?_
   rw[Wbm,Wr h1]at hx'
   rcases Wj.1 hx' with h|h
   ·exact hx x h
   ·simp at h;rw[h];exact hlt
  ·rw[if_neg (by simpa using hlt)]
   exact⟨i,rfl,hi,hx,λ_=>om⟩
structure InsP (l:List Int) (v top:Int) (r:List Int):Prop where
 asc:r.Pairwise (·<·)
 mem:∀ x,x∈r↔x∈l∨(x=v∧v≤top)
 len:r.length≤l.length+1
def Z9z {l:List Int} {v top:Int} (hl:l.length≤1000000) (ha:l.Pairwise (·<·)) (h0:0≤top) (h1:top<4294967296):Ok (Zh5 l v top) (InsP l v top):=by
 unfold Zh5;rw[wu64 h0 om]
 by_cases hv:v>top
 ·rw[if_pos (Wf hv)]
  exact Wb ⟨ha,λx=>⟨Or.inl,λh=>h.elim id λh=>om⟩,om⟩
 ·rw[if_neg (by simpa using hv)]
  obtain⟨j,e,g1,g2,g3⟩:=Zaje (v:=v) hl l.length 0 fuel om (by unfold fuel;omega) om (λx h=>(by cases h));rw[show((0:Nat):Int)=0 from rfl]at e;rw[e];simp only[Wc]
  have tail:∀ x∈l.drop j,v≤x:=by
   intro x hx
   by_cases hj:j<l.length
   ·rw[War hj]at hx
    have hp:=ha.sublist (List.drop_sublist j l);rw[War hj]at hp;have:=g3 hj
    rcases W1.1 hx with rfl|hx
    ·exact this
    ·have:=(Wa4.1 hp).1 x hx;omega
   ·rw[Wca om]at hx;cases hx
  have fin:(¬∃ h:j<l.length,l[j]=v)→Ok (if 0≤(0:Int)∧(0:Int)≤(j:Int)∧(j:Int)≤(List.length l:Int)then
    if List.length ([]:Ya)+List.length (List.drop (Int.toNat (0:Int)) (List.take (Int.toNat (j:Int)) l))≤lim then
    if List.length (([]:Ya)++(List.drop (Int.toNat (0:Int)) (List.take (Int.toNat (j:Int)) l)))+List.length [v]≤lim then
    if 0≤(j:Int)∧(j:Int)≤(List.length l:Int)∧(List.length l:Int)≤(List.length l:Int)then
    if List.length ((([]:Ya)++(List.drop (Int.toNat (0:Int)) (List.take (Int.toNat (j:Int)) l)))++[v])+List.length (List.drop (Int.toNat (j:Int)) (List.take (Int.toNat (List.length l:Int)) l))≤lim then
    some (((([]:Ya)++(List.drop (Int.toNat (0:Int)) (List.take (Int.toNat (j:Int)) l)))++[v])++(List.drop (Int.toNat (j:Int)) (List.take (Int.toNat (List.length l:Int)) l)))
    else none
    else none
    else none
    else none
    else none) (InsP l v top):=by
   intro hne;have e1:List.drop (Int.toNat (0:Int)) (List.take (Int.toNat (j:Int)) l)=l.take j:=rfl
   have e2:List.drop (Int.toNat (j:Int)) (List.take (Int.toNat (List.length l:Int)) l)=l.drop j:=by rw[Wb3,Wb3,We6]
   rw[e1,e2,Wb4]
   have l1:(l.take j).length=j:=by rw[Wad];omega
   have l2:(l.drop j).length=l.length-j:=Wa2
   refine Waf ⟨om,om,om⟩ (Waf ?_ (Waf ?_ (Waf ⟨om,om,om⟩ (Waf ?_ (Wb ⟨?_,λx=>?_,?_⟩)))))
   ·rw[l1];unfold lim;simp;omega
   ·rw[l1];unfold lim;simp;omega
   ·rw[Wm,l1,l2];unfold lim;simp;omega
   ·have hp1:=ha.sublist (List.take_sublist j l)
    have hp2:=ha.sublist (List.drop_sublist j l)
    have hlt:∀ x∈l.drop j,v<x:=by
     intro x hx;have:=tail x hx
     rcases Int.lt_or_eq_of_le this with h|h
     ·exact h
     ·exfalso
      subst h
      by_cases hj:j<l.length
      ·have hv:=g3 hj
       rw[War hj]at hx hp2
       rcases W1.1 hx with h|h
       ·exact hne ⟨hj,h.symm⟩
       ·have:=(Wa4.1 hp2).1 _ h;omega
      ·rw[Wca om]at hx;cases hx
    rw[Wap,Wb7]
    refine⟨hp1,Wa4.2 ⟨hlt,hp2⟩,λx hx y hy=>?_⟩
    have:=g2 x hx
    rcases W1.1 hy with rfl|hy
    ·exact this
    ·have:=hlt y hy;omega
   ·have hm:x∈l↔x∈l.take j∨x∈l.drop j:=by rw[←Wj,Waz]
    simp only[Wj,W1,Wag,or_false,hm];constructor
    ·rintro((h|h)|h)
     ·exact Or.inl (Or.inl h)
     ·exact Or.inr ⟨h,om⟩
     ·exact Or.inl (Or.inr h)
    ·rintro((h|h)|h)
     ·exact Or.inl (Or.inl h)
     ·exact Or.inr h
     ·exact Or.inl (Or.inr h.1)
   ·rw[Wm,Wm,l1,l2];simp;omega
  by_cases hj:j<l.length
  ·have:decide ((j:Int)<(l.length:Int))=true:=by simp;omega
   rw[this];simp only[if_true,Zaq hj,Wc]
   by_cases he:l[j]=v
   ·rw[if_pos (by simpa using he)]
    refine Wb ⟨ha,λx=>⟨Or.inl,λh=>h.elim id λh=>?_⟩,om⟩
    rw[h.1,←he];exact Wv hj
   ·rw[if_neg (by simpa using he)]
    exact fin λ⟨_,h⟩=>he h
  ·have:decide ((j:Int)<(l.length:Int))=false:=by simp;omega
   rw[this];simp only[Wy,if_false,Wc]
   exact fin λ⟨h,_⟩=>hj h
structure StP (rs:List Za) (top:Int) (r:List Int):Prop where
 asc:r.Pairwise (·<·)
 z:0∈r
 rng:∀ x∈r,0≤x∧x≤top
 cut:∀ y∈rs,y.Lo∈r∧(y.Hi+1≤top→y.Hi+1∈r)
 len:r.length≤2*rs.length+1
def Z90 {rs:List Za} {top:Int} (hl:rs.length≤400000) (h0:0≤top) (h1:top<4294967296) (hr:∀ r∈rs,0≤r.Lo∧r.Lo≤r.Hi∧r.Hi≤top):Ok (Zh6 rs top) (StP rs top):=by
 unfold Zh6
 refine Wa (p:=StP rs top) ?_ λv hv=>Wb hv
 refine Zai9 (L:=Zd4 rs top) rs (λi s=>StP (rs.take i) top s) om (λn s i hi hs k=>?_) (λn s hs=>?_) _ ?_
 ·rw[Zd4]
  have hy:=hr _ (Wv hi)
  have ll:(rs.take i).length=i:=by rw[Wad];omega
  have hsl:=hs.len;simp only[show((i:Int)<(rs.length:Int))from by omega,Wbx,if_true,Zaq hi,Wc,wsucc (by omega:i<1000000000001)];rw[if_pos (Wf hy.2.1),wu64 (x:=(rs[i]).Lo) om om,wu64 (x:=(rs[i]).Hi) om om,wu64 om om]
  refine Wa (p:=StP (rs.take (i+1)) top) ?_ λv hv=>k v hv
  refine Wa (Z9z om hs.asc h0 h1) λr1 g1=>Wa (Z9z (by have:=g1.len;omega) g1.asc h0 h1) λr2 g2=>Wb ⟨g2.asc,?_,λx hx=>?_,λy hy'=>?_,?_⟩
  ·exact(g2.mem 0).2 (Or.inl ((g1.mem 0).2 (Or.inl hs.z)))
  ·rcases(g2.mem x).1 hx with h|h
   ·rcases(g1.mem x).1 h with h|h
    ·exact hs.rng x h
    ·omega
   ·omega
  ·rw[Wbm,Wr hi]at hy'
   rcases Wj.1 hy' with h|h
   ·have:=hs.cut y h
    exact⟨(g2.mem _).2 (Or.inl ((g1.mem _).2 (Or.inl this.1))),λhh=>(g2.mem _).2 (Or.inl ((g1.mem _).2 (Or.inl (this.2 hh))))⟩
   ·have h:y=rs[i]:=by simpa using h
    subst h;exact⟨(g2.mem _).2 (Or.inl ((g1.mem _).2 (Or.inr ⟨rfl,om⟩))),λhh=>(g2.mem _).2 (Or.inr ⟨rfl,hh⟩)⟩
  ·have:=g1.len
   have:=g2.len
   have:(rs.take (i+1)).length=i+1:=by rw[Wad];omega
   omega
 ·rw[Zd4,if_neg sM]
  rw[We6]at hs;exact Wb hs
 ·exact⟨Wcp ..,Wl.2 rfl,λx hx=>by rw[Wl]at hx;omega,λy hy=>((by cases hy)),sM⟩
def Wfn:=@List.getLast?_concat
def Zafg {f:Nat} (hf:f<5) {l:List Bx} (hb:∀ x∈l,BOk x) {ss:List Int} (h:StP (l.map λx=>x.get (f:Int)) (topOf (f:Int)) ss):Pts f l (ss++[topOf (f:Int)+1]):=by
 have ht:=topN hf
 refine⟨Wb7.2 ⟨h.asc,Wcp ..,λx hx y hy=>?_⟩,?_,Wfn,λb hb'=>?_,?_⟩
 ·rw[Wl]at hy
  have:=h.rng x hx;omega
 ·obtain⟨tl,e⟩:=Zah0 h.asc h.z λx hx=>(h.rng x hx).1
  exact⟨tl++[topOf (f:Int)+1],by rw[e];rfl⟩
 ·have hr:=(hb b hb').at_ hf
  have hc:=h.cut (b.get (f:Int)) (W9.2 ⟨b,hb',rfl⟩)
  refine⟨Wda _ hc.1,?_⟩
  by_cases hh:(b.get (f:Int)).Hi+1≤topOf (f:Int)
  ·exact Wda _ (hc.2 hh)
  ·refine Wcc _ (Wl.2 ?_)
   omega
 ·have:=h.len
  rw[Wt]at this;rw[Wm,Wbv];omega
abbrev RL:=List Za
def Waq:=@List.mem_flatMap
def CF_len:∀(ts:List Int) {l:List RL},CF ts l→∀ b∈l,b.length=ts.length
 |[],l,h,b,hb=>by
  rcases h with rfl|rfl
  ·cases hb
  ·rw[Wl]at hb;rw[hb];rfl
 |t::ts,l,⟨c,h1,h2,h3⟩,b,hb=>by
  subst h1;obtain⟨x,hx,hb⟩:=Waq.1 hb;obtain⟨b',hb',rfl⟩:=W9.1 hb;rw[Wak,Wak,CF_len ts (h3 x hx) b' hb']
def Ord.len {t:Int}:∀ {c:List Cell},Ord t c→c.length≤(flt c).length
 |[],_=>Ws _
 |x::c,h=>by
  have hx:=(h.ok x (Wz ..)).2.2.2;have:=Ord.len h.tail;rw[Zrk,Wm,Wt,Wak];have:0<x.2.length:=Wcn.2 hx;omega
def lk_le (c:List Cell) {t:Int} (h:Ord t c) (v:Int):(lk c v).length≤(flt c).length:=by
 by_cases hv:lk c v=[]
 ·rw[hv];simp
 ·obtain⟨x,hx,h1,h2⟩:=Zuw hv
  rw[lk_mem h hx h1 h2];obtain⟨a,b,rfl⟩:=List.append_of_mem hx;rw[Zo4,Zrk,Wm,Wm,Wt];omega
def Wfz:=@List.map_id
def Zadh {f:Nat} (h:f≤5) {l l':List RL} (hl:∀ b∈l,b.length=5-f) (hl':∀ b∈l',b.length=5-f):l.map (pad f)=l'.map (pad f)↔l=l':=by
 constructor
 ·intro e
  have:=congrArg (List.map (sf f)) e;rw[Wao,Wao]at this
  have h1:∀ {m:List RL},(∀ b∈m,b.length=5-f)→m.map (sf f∘pad f)=m:=λ{m} hm=>by
   conv=>rhs;rw[←Wfz m]
   exact Wbs λb hb=>sf_pad h (hm b hb)
  rw[h1 hl,h1 hl']at this;exact this
 ·rintro rfl;rfl
def Zagp (c:List Cell) (lo hi:Int) (rest:List RL):rest.length≤(flt (joinC c lo hi rest)).length:=by
 unfold joinC;split
 ·rename_i h;rw[h];simp
 ·split
  ·split
   ·rw[Zo4,Wm,Zux];omega
   ·rw[Zo4,Wm,Zux];omega
  ·rw[Zo4,Wm,Zux];omega
def mS5 (a:List Bx):mS (a.map (sf 5)) []=decide ((a.length:Int)>0):=by
 cases a with
 |nil=>rfl
 |cons b a=>
  have:decide (((b::a).length:Int)>0)=true:=sM
  rw[this];show(mB (sf 5 b) []||mS (a.map (sf 5)) [])=true;rfl
def BOk.all {a:List Bx} (h:∀ x∈a,BOk x) (f v:Int):∀ x∈cov a f v,BOk x:=λx hx=>h x (Zajd hx)
def level {op:Bool→Bool→Bool} {f:Nat} (hf:f<5) {a b:List Bx} {c:List Cell} {ps:List Int} (hps:Pts f (a++b) ps) (hL:Is op (topOf (f:Int)::tops5.drop (f+1)) (a.map (sf f)) (b.map (sf f)) (flt c)) (ho:Ord (topOf (f:Int)) c) (hc:∀ x∈c,CF (tops5.drop (f+1)) x.2) :
  (∃ tl,ps=0::tl∧Steps (lk c) (0::tl)∧runC (lk c) [] (0::tl)=c)∧(∀ v,∀ b∈lk c v,b.length=4-f) ∧
  ∀ v,0≤v→v≤topOf (f:Int)→Is op (tops5.drop (f+1)) ((cov a f v).map (sf (f+1))) ((cov b f v).map (sf (f+1))) (lk c v):=by
 have hat:∀ v,0≤v→v≤topOf (f:Int)→Is op (tops5.drop (f+1)) (atv (a.map (sf f)) v) (atv (b.map (sf f)) v) (lk c v):=λv h0 h1=>Is.at_ ho hc hL h0 h1
 obtain⟨tl,rfl⟩:=hps.h0
 have hrng:∀ x∈(0:Int)::tl,x≤topOf (f:Int)+1:=by
  obtain⟨ys,hy⟩:=Wcd.1 hps.hl;intro x hx;have hp:=hps.asc;rw[hy]at hx hp
  rcases Wj.1 hx with h|h
  ·have:=(Wb7.1 hp).2.2 x h _ (Wl.2 rfl);omega
  ·rw[Wl]at h;omega
 have hcut:∀ l:List Bx,(∀ x∈l,x∈a++b)→Cut ((0:Int)::tl) (l.map (sf f)):=by
  intro l hl x hx r b' e;obtain⟨z,hz,rfl⟩:=W9.1 hx;rw[Zuy hf,Wai]at e;rw[←e.1];exact hps.cut z (hl z hz)
 have hsteps:Steps (lk c) (0::tl):=by
  refine Zab0 (We7 _ _) hps.asc λi h v h1 h2=>?_
  have hx:=Zaas hps.asc h;have hm:=Wau.1 hps.asc
  have h0i:0≤((0:Int)::tl)[i]:=by
   rcases Nat.eq_zero_or_pos i with rfl|hi
   ·exact Wbf _
   ·exact Int.le_of_lt (hm 0 i sM om hi)
  have hti:=hrng _ (Wv h)
  have key:∀ {l:List RL},Cut ((0:Int)::tl) l→atv l v=atv l ((0:Int)::tl)[i]:=λhl=>
   Zahy (λb hb r b' e=>⟨hx _ (hl b hb r b' e).1,hx _ (hl b hb r b' e).2⟩) h1 h2
  have g1:=hat v om om;rw[key (hcut a λx hx=>Wda _ hx),key (hcut b λx hx=>Wcc _ hx)]at g1;exact g1.inj (hat _ h0i om)
 refine⟨⟨tl,rfl,hsteps,Zajb hsteps hps.hl ho λv _ _=>rfl⟩,λv b' hb'=>?_,λv h0 h1=>by rw[Zaen hf,Zaen hf];exact hat v h0 h1⟩
 have:=CF_len _ (CF_lk ho hc v) b' hb';rw[this,Wa2];show 5-(f+1)=4-f;omega
def opc (k:Int) (x y:Bool):Bool:=if k=0 then x||y else if k=1 then x&&y else if k=2 then x&&!y else !(x==y)
def Zah1 (k:Int) (x y:Bool):Zqn k x y=some (opc k x y):=by
 unfold Zqn opc
 grind
def opc_ff (k:Int):opc k false false=false:=by
 unfold opc
 grind
def Zajf (k:Int) (x y:Bool):∃ r,Zro k x y=some r∧(r=true→∀ u w,(x=false→u=false)→(y=false→w=false)→opc k u w=false):=by
 unfold Zro opc;simp only[Wct]
 by_cases h1:k=1
 subst h1
 refine⟨_,if_pos rfl,λh u w hu hw=>?_⟩
 cases x;rw[hu rfl];rfl;cases y;rw[hw rfl];simp;cases h;rw[if_neg h1]
 by_cases h2:k=2
 subst h2
 refine⟨_,if_pos rfl,λh u w hu _=>?_⟩
 cases x;rw[hu rfl];rfl;cases h;simp_all
def Zadi {f:Nat} (hf:f<5) {e:Int} (h0:0≤e) (h1:e<4294967296):∀ k j n (v:List Bx),v.length-j=k→k<n→j≤v.length→v.length≤2000000000 →
  Zil f e n v j=some (v.take j++(v.drop j).map λx=>x.set f {(x.get f)with Hi:=e}):=by
 intro k
 induction k with
 |zero=>
  intro j n v hk hn hj hl;cases n;omega;rw[Zil,if_neg gD,Wbe om,Wca om];simp
 |succ k ih=>
  intro j n v hk hn hj hl;cases n;omega;rename_i n
  have hjl:j<v.length:=om
  rw[Zil,if_pos gD,Zaq hjl];simp only[Wc,Wb3];rw[if_pos ⟨om,om⟩,wu32 h0 h1,wsucc om,ih (j+1) n _ gD om gD gD];rw[Wfv om,Wbm,Wr gD,List.getElem_set_self,List.take_set_of_le (Ws _),War hjl,Wap];rfl
def Z43 {f:Nat} (hf:f<5) {r10:List Int} {i:Nat} {p e:Int} (hp:idx r10 i=some p) (hp0:0≤p) (hp1:p<4294967296) (h0:0≤e) (h1:e<4294967296) (rest:List RL) (hr:∀ b∈rest,b.length=4-f) (acc:List Bx) (hl:acc.length+rest.length≤2000000000) :
  Zfw f r10 i e (rest.map (pad (f+1))) fuel acc 0=some (acc++(rest.map (⟨p,e⟩::·)).map (pad f)):=by
 have hlen:(rest.map (pad (f+1))).length=rest.length:=Wt _
 have:=Ztn (L:=Zfw f r10 i e (rest.map (pad (f+1)))) (rest.map (pad (f+1))) (λs _ y=>s++[Arr5.set y f ⟨p,e⟩]) id (λi s=>s.length≤acc.length+i) om (λn s j hj hs=>by
  rw[Zfw];simp only[show((j:Int)<(rest.map (pad (f+1))).length)from by omega,Wbx,if_true,Zaq hj,hp,Wc,wsucc (by omega:j<1000000000001),Wbv,wu32 hp0 hp1,wu32 h0 h1];rw[if_pos ⟨om,om⟩,if_pos (show s.length+1≤lim by unfold lim;omega)]
  grind) (λn s hs=>by rw[Zfw];simp) acc om
 rw[this.1,Zyc,Wao,Wao];simp only[id]
 congr 2
 exact Wbs λb hb=>Z82 hf (hr b hb) _
def Zagq {g:Int→List RL} {p q:Int} {c:List Cell} (hu:Upto g p c) (hg0:g p≠[]):joinC c p q (g p) =
  if 0<p∧g (p-1)=g p then match c.getLast? with
   |some y=>c.dropLast++[(⟨y.1.Lo,q⟩,g p)]
   |none=>c++[(⟨p,q⟩,g p)]
  else c++[(⟨p,q⟩,g p)]:=by
 unfold joinC;rw[if_neg hg0];cases hl:c.getLast?;simp;rename_i y;obtain⟨d,rfl⟩:=Wcd.1 hl;have hy:=hu.ord.ok y gD;simp
 by_cases hj:y.1.Hi+1=p∧y.2=g p
 rw[if_pos hj];have h1:=hu.at_ y.1.Hi;rw[lk_mem hu.ord gD hy.2.1 (Wbf _)]at h1;rw[if_pos ⟨om,gD⟩];rw[if_neg hj,if_neg];rintro⟨h1,h2⟩;have h3:=hu.at_ (p-1);obtain⟨x,hx,h4,h5⟩:=Zuw (c:=d++[y]) (v:=p-1) gD;rw[lk_mem hu.ord hx h4 h5]at h3
 rcases Wj.1 hx with hxd|hxd
 have:=((Wb7.1 hu.ord.pw).2.2 x hxd y (Wl.2 rfl)).1;omega
 grind
def set_set {f:Nat} (b:Bx) (r s:Za):(b.set f r).set f s=b.set f s:=by
 unfold Arr5.set
 grind
def Zajg (c:List Cell) (p q:Int) (g:Int→List RL):(g p).length≤(flt (joinC c p (q-1) (g p))).length:=Zagp c p (q-1) (g p)
def Zadj {f:Nat} (hf:f<5) {a b:List Bx} (ha:a.length≤2000000000) (hb:b.length≤2000000000) (hai:∀ x∈a,BIn x) (hbi:∀ x∈b,BIn x) {k:Int}
  {z0:List Bx→List Bx→Int→Int→Option (List Bx)} {ss:List Int} (hss:ss.length≤1000000) {g:Int→List RL} (hg:∀ v,∀ b∈g v,b.length=5-(f+1))
  (hz:∀ v,0≤v→v≤topOf (f:Int)→z0 (cov a f v) (cov b f v) k ((f+1:Nat):Int)=some ((g v).map (pad (f+1)))) :
  ∀(rem:List Int) (p:Int) (i n:Nat) (c:List Cell) (last:List Bx),(ss++[topOf (f:Int)+1]).drop i=p::rem→rem.length<n→Upto g p c→Steps g (p::rem)→0≤p→(i=0↔p=0)→(0<p→last=(g (p-1)).map (pad (f+1)))→(flt (runC g c (p::rem))).length≤2000000000 →
  Zim a b k (f:Int) z0 ss n ((flt c).map (pad f)) last (i:Int)=some ((flt (runC g c (p::rem))).map (pad f)):=by
 intro rem
 induction rem with
 |nil=>
  intro p i n c last hd hn hu hs hp hi0 hlast hc
  cases n with
  |zero=>simp at hn
  |succ n=>
  have hi:ss.length=i:=by
   have h1:=congrArg List.length hd;rw[Wa2,Wm]at h1
   simp at h1;omega
  rw[Zim,if_neg sO];rfl
 |cons q rem ih=>
  intro p i n c last hd hn hu hs hp hi0 hlast hc
  cases n with
  |zero=>simp at hn
  |succ n=>
  obtain⟨hpq,hgc,hs'⟩:=hs;have htop:=topN hf
  have hlen:i+1≤ss.length:=by
   have h1:=congrArg List.length hd;rw[Wa2,Wm]at h1
   simp at h1;omega
  have gi:∀ j,((ss++[topOf (f:Int)+1]).drop i)[j]? = (ss++[topOf (f:Int)+1])[i+j]?:=λj=>Wej
  have h0:idx ss (i:Int)=some p:=by
   have h1:=gi 0;rw[hd,Wdg,Wac om]at h1;simp only[Wdr]at h1;rw[Zaq om,←Wr,←h1]
  have hd':(ss++[topOf (f:Int)+1]).drop (i+1)=q::rem:=by rw[←Wep,hd];rfl
  have hasc:∀(l:List Int) (x:Int),Steps g (x::l)→∀ y,(x::l).getLast? = some y→x≤y:=by
   intro l
   induction l with
   |nil=>intro x _ y hy;simp at hy;omega
   |cons z l ih2=>
    intro x hx y hy;rw[List.getLast?_cons_cons]at hy;have:=ih2 z hx.2.2 y hy;have:=hx.1;omega
  have hqt:q≤topOf (f:Int)+1:=by
   refine hasc rem q hs' _ ?_
   rw[←hd',List.getLast?_drop,if_neg (by rw[Wm];simp;omega),Wfn]
  have hpt:p≤topOf (f:Int):=om
  have hend:(if(decide ((wrap .i64 ((i:Int)+(1:Int)))<(List.length ss:Int)))=true then
    (idx ss (wrap .i64 ((i:Int)+(1:Int)))).bind λ(x486:Int)=>
    some (wrap .u64 (x486-(1:Int)))
   else
    some (wrap .u64 (topOf (f:Int))))=some (q-1):=by
   rw[wsucc om];have h1:=gi 1;rw[hd]at h1;simp only[Wh5,Wdr]at h1
   by_cases hi2:i+1<ss.length
   rw[if_pos sO];rw[Wac hi2,Wr hi2,Wn]at h1;rw[Zaq hi2,←h1];simp only[Wc];rw[wu64 om om];rw[if_neg sO];rw[Wa6 om,show i+1-ss.length=0 by omega]at h1;simp only[Wdr,Wn]at h1;rw[wu64 om om,h1]
   congr 1
   omega
  have e1:wrap .u32 p=p:=wu32 hp om;have hu':=hu.step hp hpq hgc;have hq1:g (q-1)=g p:=hgc _ om om;have hrun:runC g c (p::q::rem)=runC g (joinC c p (q-1) (g p)) (q::rem):=rfl;rw[hrun]at hc⊢;have hfin:=Z3l g (q::rem) (joinC c p (q-1) (g p));have key:=ih q (i+1) n (joinC c p (q-1) (g p)) ((g p).map (pad (f+1))) hd' (by simp at hn;omega) hu' hs' om om (λ_=>by rw[hq1]) hc;rw[Zim,if_pos sO,Top_eq _ om om];simp only[Wc,hend,h0];rw[at_eq ha om om _ hai,at_eq hb om om _ hbi];simp only[Wc];rw[wsucc (i:=f) om,hz p hp hpt];simp only[Wc,Wt]
  by_cases hg0:g p=[]
  have ej:joinC c p (q-1) (g p)=c:=by unfold joinC;rw[if_pos hg0]
  rw[ej]at key⊢;rw[hg0]
  have h3:=Z43 hf h0 hp om (e:=q-1) om om [] (λ_ h=>(by cases h)) ((flt c).map (pad f)) (by
   have:=Z3l g (q::rem) c;rw[ej]at hfin hc
   rw[Wt];simp;omega)
  simp only[Wbu,Wam]at h3
  have hb2:(decide ((i:Int)>0)&&decide (((([]:List RL).length:Nat):Int)>0))=false:=sM
  rw[hb2];simp only[Wy,if_false,Wc,Wbu,h3];rw[wsucc om];rw[hg0]at key;exact key;have hgl:0<(g p).length:=Wcn.2 hg0;have hj:=Zagq (q:=q-1) hu hg0
  have hb2:(decide ((i:Int)>0)&&decide (((g p).length:Int)>0))=decide (0<p):=by
   rw[Wa8];simp;omega
  rw[hb2]
  by_cases hjj:0<p∧g (p-1)=g p
  rw[if_pos hjj]at hj;rw[hlast hjj.1,hjj.2,Wf hjj.1];simp only[if_true];rw[Zaem (by rw[Wt];have:=Zajg c p q g;omega)];simp only[Wbx,Wc,if_true];have h3:=hu.at_ (p-1);rw[if_pos om,hjj.2]at h3
  cases hl:c.getLast? with
  |none=>
   rw[Whi]at hl;subst hl;exact absurd h3.symm hg0
  |some y=>
   rw[hl]at hj;obtain⟨d,rfl⟩:=Wcd.1 hl;simp only[Wd2]at hj;rw[hj]at key hfin hc⊢
   have hy2:y.2=g p:=by
    have hjo:=hj
    unfold joinC at hjo
    rw[if_neg hg0,Wfn]at hjo;simp only[Wd2]at hjo
    split at hjo
    rename_i hh;exact hh.2;have:=congrArg List.length hjo
    simp at this
   have hyr:∀ b∈y.2,b.length=4-f:=λb hb=>by rw[hy2]at hb;have:=hg p b hb;omega
   have hfl:flt (d++[y])=flt d++y.2.map (y.1::·):=by rw[Zo4];simp[flt]
   have hfl2:flt (d++[((⟨y.1.Lo,q-1⟩:Za),g p)])=flt d++(g p).map ((⟨y.1.Lo,q-1⟩:Za)::·):=by rw[Zo4];simp[flt]
   have hlen2:(flt (d++[y])).length=(flt d).length+(g p).length:=by rw[hfl,Wm,Wt,hy2]
   have hlen3:(flt (d++[((⟨y.1.Lo,q-1⟩:Za),g p)])).length=(flt d).length+(g p).length:=by rw[hfl2,Wm,Wt]
   rw[hlen3]at hfin;rw[hlen2,wi64 om om,show(((flt d).length+(g p).length:Nat):Int)-((g p).length:Int)=(((flt d).length:Nat):Int) by omega];rw[Zadi hf om om _ _ fuel _ rfl (by rw[Wt,hlen2];unfold fuel;omega) (by rw[Wt,hlen2];omega) (by rw[Wt,hlen2];omega)];simp only[Wc];rw[wsucc om]
   have e9:((flt (d++[y])).map (pad f)).take (flt d).length++(((flt (d++[y])).map (pad f)).drop (flt d).length).map (λx=>x.set (f:Int) ({(x.get (f:Int))with Hi:=q-1}:Za))=(flt (d++[((⟨y.1.Lo,q-1⟩:Za),g p)])).map (pad f):=by
    rw[hfl,hfl2,Wat,Wc0 (by rw[Wt]),Wc3 (by rw[Wt]),Wat,hy2,Wao,Wao,Wao]
    congr 1
    refine Wbs λb hb=>?_
    have hb4:b.length=4-f:=hyr b (by rw[hy2];exact hb);have hsf:sf f (pad f (y.1::b))=y.1::b:=sf_pad om (by rw[Wak];omega);show(pad f (y.1::b)).set (f:Int) ({((pad f (y.1::b)).get (f:Int))with Hi:=q-1}:Za)=pad f (⟨y.1.Lo,q-1⟩::b)
    have hget:(pad f (y.1::b)).get (f:Int)=y.1:=by
     rw[Zuy hf,Wai]at hsf;exact hsf.1
    rw[hget,←Z82 hf hb4 y.1,set_set,Z82 hf hb4]
   rw[e9];have:=key;exact this
  rw[if_neg hjj]at hj;rw[hj]at key hfin hc⊢
  have hfl2:flt (c++[((⟨p,q-1⟩:Za),g p)])=flt c++(g p).map ((⟨p,q-1⟩:Za)::·):=by rw[Zo4];simp[flt]
  have hlen3:(flt (c++[((⟨p,q-1⟩:Za),g p)])).length=(flt c).length+(g p).length:=by rw[hfl2,Wm,Wt]
  rw[hlen3]at hfin
  have hcond:(if decide (0<p)=true then(Zow ((g p).map (pad (f+1))) last).bind λ(r503:Bool)=>some r503 else some false)=some false:=by
   by_cases h3:0<p
   rw[if_pos (Wf h3),hlast h3,Zaem (by rw[Wt];omega)];simp only[Wc];rw[Wo];intro he;exact hjj ⟨h3,((Zadh om (hg p) (hg (p-1))).1 he).symm⟩;rw[if_neg (by simpa using h3)]
  rw[hcond];simp only[Wc,Wy,if_false];rw[Z43 hf h0 hp om (e:=q-1) om om (g p) (λb hb=>by have:=hg p b hb;omega) ((flt c).map (pad f)) (by rw[Wt];omega)];simp only[Wc];rw[wsucc om];rw[hfl2,Wat]at key;exact key
def We3:=@List.length_eq_zero_iff
def Zah2 {k:Int}:∀(j f nr:Nat) (a b:List Bx) (l:List RL),f+j=5→j<nr→a.length+b.length≤400000→(∀ x∈a,BOk x)→(∀ x∈b,BOk x) →
  Is (opc k) (tops5.drop f) (a.map (sf f)) (b.map (sf f)) l→l.length≤2000000000→Zch nr a b k (f:Int)=some (l.map (pad f)):=by
 intro j
 induction j with
 |zero=>
  intro f nr a b l hf hn hl ha hb hL hlen
  have hf:f=5:=om
  subst hf
  cases nr with
  |zero=>omega
  |succ nr=>
  have h1:=hL.mem [] trivial;rw[mS5,mS5]at h1;rw[show((5:Nat):Int)=5 from rfl,Zch,if_pos dC,Zah1];simp only[Wc];rw[←h1]
  rcases hL.cf with rfl|rfl
  ·rfl
  ·rfl
 |succ j ih=>
  intro f nr a b l hf hn hl ha hb hL hlen
  have hf5:f<5:=om
  cases nr with
  |zero=>omega
  |succ nr=>
  rw[Z9y hf5]at hL;rw[Zch,if_neg sO];obtain⟨r,hr1,hr2⟩:=Zajf k (decide ((a.length:Int)>0)) (decide ((b.length:Int)>0));rw[hr1];simp only[Wc]
  cases r with
  |true=>
   rw[if_pos rfl]
   have:l=[]:=by
    refine hL.inj ⟨CF_nil _,λp hp=>?_⟩
    rw[mS_nil]
    refine(hr2 rfl _ _ (λh=>?_) (λh=>?_)).symm
    ·have:a=[]:=We3.1 (by simp at h;simp[h])
     subst this;rfl
    ·have:b=[]:=We3.1 (by simp at h;simp[h])
     subst this;rfl
   rw[this];rfl
  |false=>
   rw[if_neg sM];rw[Zago hf5 hl];simp only[Wc];rw[Top_eq _ om om];simp only[Wc]
   have hab:∀ x∈a++b,BOk x:=λx hx=>(Wj.1 hx).elim (ha x) (hb x)
   obtain⟨ss,hs1,hs2⟩:=Z90 (rs:=(a++b).map λx=>x.get (f:Int)) (top:=topOf (f:Int)) (by rw[Wt,Wm];exact hl) (topN hf5).1 (by have:=topN hf5;omega) (λy hy=>by
    obtain⟨x,hx,rfl⟩:=W9.1 hy
    exact(hab x hx).at_ hf5)
   rw[hs1];simp only[Wc];have hps:=Zafg hf5 hab hs2;obtain⟨c,rfl,ho,hc⟩:=hL.cf;obtain⟨⟨tl,he,hst,hr⟩,hg,hz⟩:=level hf5 hps hL ho hc;have hlen2:=hs2.len;rw[Wt,Wm]at hlen2
   have hmain:=Zadj hf5 (a:=a) (b:=b) om om (λx hx=>(ha x hx).bin) (λx hx=>(hb x hx).bin) (k:=k) (z0:=Zch nr) (ss:=ss) om (g:=lk c) (λv b' hb'=>by rw[hg v b' hb'];omega) (λv h0 h1=>by
    refine ih (f+1) nr _ _ _ om om ?_ (BOk.all ha _ _) (BOk.all hb _ _) (hz v h0 h1) ?_
    ·have:=Zaeo a (f:Int) v
     have:=Zaeo b (f:Int) v;omega
    ·have:=lk_le c ho v;omega) tl 0 0 fuel [] [] (by rw[he];rfl) (by
     have:=congrArg List.length he;rw[Wm]at this
     simp at this
     unfold fuel;omega) (Upto.nil _) hst (Wbf _) sM (λh=>om) (by rw[hr];exact hlen)
   rw[hr]at hmain;rw[show((0:Nat):Int)=0 from rfl]at hmain;rw[show(flt []).map (pad f)=[]from rfl]at hmain;rw[hmain];rfl
def mem (l:List Bx) (p:List Int):Bool:=mS (l.map toL) p
def CFb (l:List Bx):Prop:=CF tops5 (l.map toL)
def CF_vR:∀(ts:List Int) {l:List RL},CF ts l→∀ b∈l,vR ts b
 |[],l,h,b,hb=>by
  rcases h with rfl|rfl
  ·cases hb
  ·rw[Wl]at hb;rw[hb];trivial
 |t::ts,l,⟨c,h1,h2,h3⟩,b,hb=>by
  subst h1;obtain⟨x,hx,hb⟩:=Waq.1 hb;obtain⟨b',hb',rfl⟩:=W9.1 hb;have:=h2.ok x hx;exact⟨this.1,this.2.1,this.2.2.1,CF_vR ts (h3 x hx) b' hb'⟩
def vR_ok {b:Bx} (h:vR tops5 (toL b)):BOk b:=by
 obtain⟨a0,a1,a2,b0,b1,b2,c0,c1,c2,d0,d1,d2,e0,e1,e2,_⟩:=h;exact⟨⟨a0,a1,a2⟩,⟨b0,b1,b2⟩,⟨c0,c1,c2⟩,⟨d0,d1,d2⟩,⟨e0,e1,e2⟩⟩
def CFb.ok {l:List Bx} (h:CFb l):∀ b∈l,BOk b:=λb hb=>vR_ok (CF_vR _ h _ (Wcm hb))
def Zadk {l:List RL} (h:∀ b∈l,b.length=5):(l.map (pad 0)).map toL=l:=by
 rw[Wao]
 conv=>rhs;rw[←Wfz l]
 exact Wbs λb hb=>Zael (h b hb)
def Zah3:∀ t∈tops5,0≤t:=by unfold tops5;simp
def Zafh (op:Bool→Bool→Bool) (a b:List Bx):∃ l:List Bx,Is op tops5 (a.map toL) (b.map toL) (l.map toL):=by
 obtain⟨l,h⟩:=Is.exists_ op tops5 Zah3 (a.map toL) (b.map toL)
 refine⟨l.map (pad 0),?_⟩
 rw[Zadk (λb hb=>CF_len _ h.cf b hb)];exact h
structure Can (op:Bool→Bool→Bool) (a b l:List Bx):Prop where
 cf:CFb l
 mem:∀ p,vP tops5 p→mem l p=op (mem a p) (mem b p)
def Can.is {op:Bool→Bool→Bool} {a b l:List Bx} (h:Can op a b l):Is op tops5 (a.map toL) (b.map toL) (l.map toL):=⟨h.cf,h.mem⟩
def Zadl {l l':List Bx} (h:l.map toL=l'.map toL):l=l':=by
 have:=congrArg (List.map ofL) h;rw[Wao,Wao]at this
 have e:(ofL∘toL)=id:=funext λb=>Z32 b
 rw[e,Wfz,Wfz]at this;exact this
def CFb.inj {l l':List Bx} (h:CFb l) (h':CFb l') (e:∀ p,vP tops5 p→mem l p=mem l' p):l=l':=Zadl (CF_inj _ h h' e)
def Can.ex (op:Bool→Bool→Bool) (a b:List Bx):∃ l,Can op a b l:=by
 obtain⟨l,h⟩:=Zafh op a b;exact⟨l,h.cf,h.mem⟩
def CFb.nil:CFb []:=CF_nil _
theorem Z83 (p:List Int):mem [] p=false:=rfl
def Zajh (l:List Bx):(l.map toL).map (pad 0)=l:=by
 rw[Wao]
 have e:(pad 0∘toL)=id:=funext λb=>Z32 b
 rw[e,Wfz]
def Zyd {k:Int} {a b l:List Bx} (hl:a.length+b.length≤400000) (ha:∀ x∈a,BOk x) (hb:∀ x∈b,BOk x) (h:Can (opc k) a b l) (hlen:l.length≤2000000000):Zch fuel a b k 0=some l:=by
 have:=Zah2 (k:=k) 5 0 fuel a b (l.map toL) om (by unfold fuel;omega) hl ha hb h.is (by rw[Wt];exact hlen);rw[show((0:Nat):Int)=0 from rfl]at this;rw[this,Zajh]
def capB (l:List Bx):List Bx×Int:=if l.length≤4096 then(l,0)else([],3)
def Z7j (l:List Bx):Zjx l=some (capB l):=by
 unfold Zjx capB
 by_cases h:l.length≤4096
 ·rw[if_neg sO,if_pos h]
 ·rw[if_pos sO,if_neg h]
def Z91 {a b:Za}:Zbe a b=true↔a=b:=by rw[eq_rg];simp
structure RunTo (f:Nat) (l:List Bx) (r:Za) (n:Nat):Prop where
 h1:n≤l.length
 eq:∀ i (h:i<l.length),i<n→(l[i]).get (f:Int)=r
 ne:∀(h:n<l.length),(l[n]).get (f:Int)≠r
def Zagr {f:Nat} (hf:f<5) {l:List Bx} {r:Za} {n:Nat} (hn:1≤n) (h:RunTo f l r n) (hl:l≠[]) :
  l.map (sf f)=((l.take n).map (sf (f+1))).map (r::·)++(l.drop n).map (sf f)∧(l.take n).map (sf (f+1))≠[]∧∀ b,((l.drop n).map (sf f)).head? = some b→∃ r' b',b=r'::b'∧r'≠r:=by
 refine⟨?_,?_,?_⟩
 ·conv=>lhs;rw[←Waz n l,Wat]
  congr 1
  rw[Wao]
  refine Wbs λb hb=>?_
  obtain⟨i,hi,rfl⟩:=Wax hb
  have hi2:i<n∧i<l.length:=by rw[Wad]at hi;omega
  rw[Wgl,Zuy hf,h.eq i hi2.2 hi2.1];rfl
 ·intro e
  have:=congrArg List.length e;simp only[Wt,Wad,Wdp]at this;have:0<l.length:=Wcn.2 hl;omega
 ·intro b hb
  by_cases hnl:n<l.length
  ·rw[War hnl]at hb
   simp only[W0,List.head?_cons,Wn]at hb;exact⟨_,_,by rw[←hb,Zuy hf],h.ne hnl⟩
  ·rw[Wca om]at hb
   simp at hb
structure VS (l:List Bx):Prop where
 len:l.length≤4096
 ok:∀ x∈l,BOk x
 cf:CFb l
def VS.of {l:List Bx} (h:CFb l) (hl:l.length≤4096):VS l:=⟨hl,h.ok,h⟩
def Z92 {l:List Bx} (hin:∀ x∈l,BIn x):(l.filter vB).length=l.length↔∀ x∈l,BOk x:=by
 rw[Wce];exact⟨λh x hx=>vB_ok (hin x hx) (h x hx),λh x hx=>ok_vB (h x hx)⟩
def Zags {a b:List Bx} {i:Nat} {x y:Bx} (hx:idx a i=some x) (hy:idx b i=some y):∀(k f n:Nat),f+k=5→k<n→Zin a b i n f=some (if sf f x=sf f y then .inl ()else .inr false):=by
 intro k
 induction k with
 |zero=>
  intro f n hf hn;cases n;omega
  have:f=5:=om
  subst this;rw[Zin,if_neg dC,if_pos (show sf 5 x=sf 5 y from rfl)]
 |succ k ih=>
  intro f n hf hn;cases n;omega
  have hf5:f<5:=om
  rw[Zin,hx,hy];simp;rw[wsucc om,eq_rg];rw[Zuy hf5 x,Zuy hf5 y]
  grind
def Z93 {α β:Type} [DecidableEq β] (g:α→β):∀(l pre b:List α),l.length+pre.length=b.length→findI (λi x=>if(b[i]?).map g=some (g x)then none else some false) pre.length l=if l.map g=(b.drop pre.length).map g then none else some false
 |[],pre,b,h=>by simp at h;rw[h];simp[findI]
 |x::l,pre,b,h=>by
  simp at h
  have hi:pre.length<b.length:=om
  rw[War hi];simp only[findI,Wr hi,Wck,W0,Wai,Wn]
  by_cases e:g b[pre.length]=g x
  simp only[e,true_and];have:=Z93 g l (pre++[x]) b gD;simp only[Wm]at this;exact this
  grind
def Zah4 {a b:List Bx} (ha:a.length≤1000000000000) {f:Nat} (hf:f≤5):Zm5 a b f=some (decide (a.map (sf f)=b.map (sf f))):=by
 unfold Zm5
 by_cases hl:a.length=b.length
 rw[if_neg gD]
 rw[Zns (L:=Zio a b f) a (λi x=>if(b[i]?).map (sf f)=some (sf f x)then none else some false) ha (λn i hi=>by
  have hj:i<b.length:=om
  rw[Zio,Zags (Zaq hi) (Zaq hj) (5-f) f fuel om (by unfold fuel;omega)];simp only[Wc,wsucc (by omega:i<1000000000001)]
  grind) (λn=>by rw[Zio];simp)]
 have:=Z93 (sf f) a [] b om;simp only[Wdp]at this;rw[this]
 by_cases e:a.map (sf f)=b.map (sf f)
 simp[e,orS];simp[e,orS];rw[if_pos gD];rw[Wo (λe=>hl (by have:=congrArg List.length e;grind))]
def Zaji {f:Nat} (hf:f<5) {a0 l:List Bx} {from_:Nat} (hd:a0.drop from_=l) (hle:from_≤a0.length) (hl:a0.length≤1000000) {b0:Bx} (h0:l[0]? = some b0):∀ k j n,l.length-j=k→k<n→j≤l.length→(∀ i h,i<j→(l[i]).get f=b0.get f) →
  ∃ N:Nat,Zfe a0 f from_ n ((from_+j:Nat):Int)=some ((from_+N:Nat):Int)∧j≤N∧RunTo f l (b0.get f) N:=by
 have hlen:l.length=a0.length-from_:=gD
 have gi:∀ j,l[j]? = a0[from_+j]?:=λj=>gD
 have gx:∀ j h,idx a0 ((from_+j:Nat):Int)=some l[j]:=λj h=>by
  rw[Zaq om,←Wr,←gi,Wr h]
 have i0:idx a0 from_=some b0:=by
  grind
 intro k
 induction k with
 |zero=>
  intro j n hk hn hj he;cases n;omega;rename_i n
  have hd:decide (((from_+j:Nat):Int)<a0.length)=false:=by simp;omega
  rw[Zfe,hd];exact⟨j,rfl,Ws _,hj,he,λh=>om⟩
 |succ k ih=>
  intro j n hk hn hj he;cases n;omega;rename_i n
  have hjl:j<l.length:=om
  have hd:decide (((from_+j:Nat):Int)<a0.length)=true:=by simp;omega
  rw[Zfe,hd];simp only[Wc,if_true,gx j hjl,i0];rw[if_pos ⟨om,om⟩,if_pos ⟨om,om⟩];simp only[Wc]
  by_cases hq:(l[j]).get (f:Int)=b0.get (f:Int)
  rw[if_pos (Z91.2 hq),wsucc om];obtain⟨N,e,g1,g2⟩:=ih (j+1) n om om om gD;exact⟨N,e,om,g2⟩;rw[if_neg (λh=>hq (Z91.1 h))];exact⟨j,rfl,Ws _,hj,he,λ_=>hq⟩
def LastR (f:Nat) (pre v:List Bx):Option Cell→Prop
 |none=>pre=[]
 |some y=>v.map (sf (f+1))=y.2∧∃ p0 b,pre=p0++[b]∧b.get (f:Int)=y.1
def Wdt:=@Bool.not_true
def Z7k {f:Nat} (hf:f<5) {a0:List Bx} (hal:a0.length≤1000000) (hok:∀ x∈a0,BOk x) {z0:List Bx→Int→Option Bool}
  (hz:∀ l:List Bx,l≠[]→l.length≤1000000→(∀ x∈l,BOk x)→∃ r,z0 l ((f+1:Nat):Int)=some r∧(r=true↔CF (tops5.drop (f+1)) (l.map (sf (f+1))))) :
  ∀(K n:Nat) (pre l v:List Bx) (last:Option Cell),l.length≤K→K<n→a0=pre++l→LastR f pre v last→(∀ y∈last,y.2≠[]∧0≤y.1.Hi∧y.1.Hi<4294967296)→v.length≤1000000 →
  ∃ o,Zdx a0 (f:Int) z0 n v (pre.length:Int)=some o∧((∃ c,l.map (sf f)=flt c∧Nx (topOf (f:Int)) (tops5.drop (f+1)) last c)→o=.inl ())∧(¬(∃ c,l.map (sf f)=flt c∧Nx (topOf (f:Int)) (tops5.drop (f+1)) last c)→o=.inr false):=by
 intro K
 induction K with
 |zero=>
  intro n pre l v last hlK hn ha hl hlast hv;have:l=[]:=We3.1 om;subst this
  cases n with
  |zero=>omega
  |succ n=>
  rw[Zdx,if_neg (by rw[ha];simp)];exact⟨_,rfl,λ_=>rfl,λh=>absurd ⟨[],rfl,Nx.nil ..⟩ h⟩
 |succ K ih=>
  intro n pre l v last hlK hn ha hl hlast hv
  cases n with
  |zero=>omega
  |succ n=>
  cases hll:l with
  |nil=>
   rw[Zdx,if_neg (by rw[ha,hll];simp)];exact⟨_,rfl,λ_=>rfl,λh=>absurd ⟨[],rfl,Nx.nil ..⟩ h⟩
  |cons b0 l'=>
  have hne:l≠[]:=by rw[hll];exact We7 _ _
  have hpos:0<l.length:=Wcn.2 hne
  have halen:a0.length=pre.length+l.length:=by rw[ha,Wm]
  have h0:l[0]? = some b0:=by rw[hll];rfl
  have hdrop:a0.drop pre.length=l:=by rw[ha,Wc3 rfl]
  have i0:idx a0 (pre.length:Int)=some b0:=by
   rw[Zaq om,←Wr,←Wdg pre.length,←Wej,hdrop,h0]
  obtain⟨N,e1,_,g2⟩:=Zaji hf hdrop om hal h0 l.length 0 fuel rfl (by unfold fuel;omega) om (λi h hi=>om)
  have g1:1≤N:=by
   rcases Nat.eq_zero_or_pos N with h|h
   subst h;have:=g2.ne hpos;rw[Wr hpos,Wn]at h0;rw[h0]at this;exact absurd rfl this;exact h
  rw[←hll];obtain⟨s1,s2,s3⟩:=Zagr hf g1 g2 hne
  have hlok:∀ x∈l,BOk x:=λx hx=>hok x (by rw[ha];exact Wcc _ hx)
  have hb0:BOk b0:=hlok b0 (by rw[hll];exact Wz ..);have hb0r:=hb0.at_ hf;have htop:=topN hf;have hN:=g2.h1
  have hpart:List.drop pre.length (List.take (pre.length+N) a0)=l.take N:=by rw[ha,Wc1,Wc3 rfl]
  rw[Zdx,if_pos sO];rw[Wdg]at e1;rw[e1];simp only[Wc,i0,Wb3,hpart];rw[if_pos ⟨om,om,om⟩]
  have htl:(l.take N).length≤1000000:=by rw[Wad];omega
  rw[wsucc (i:=f) om];have hrun:=Nx.run (t:=topOf (f:Int)) (ts:=tops5.drop (f+1)) (last:=last) (r:=b0.get (f:Int)) s2 s3;rw[s1,hrun]
  have hgap:∃ og:Unit⊕Bool,(if decide ((pre.length:Int)>0)=true then
     (idx a0 (wrap .i64 ((pre.length:Int)-(1:Int)))).bind λ(x312:Bx)=>
     if 0≤(f:Int)∧(f:Int)<5 then
     if 0≤(f:Int)∧(f:Int)<5 then
     (if decide ((b0.get (f:Int)).Lo≤(x312.get (f:Int)).Hi)=true then some true else
      (if((b0.get (f:Int)).Lo==(wrap .u32 ((x312.get (f:Int)).Hi+(1:Int))))=true then
       (Zm5 v (l.take N) ((f+1:Nat):Int)).bind λ(r322:Bool)=>
       some r322
       else some false).bind λ(v324:Bool)=>
      some v324
      ).bind λ(v326:Bool)=>
     if v326=true then
      (some (.inr false):Option Yb)
     else
      some (.inl ())
     else none
     else none
    else
     some (.inl ()))=some og∧((∀ y∈last,gp y (b0.get (f:Int),(l.take N).map (sf (f+1))))→og=.inl ())∧(¬(∀ y∈last,gp y (b0.get (f:Int),(l.take N).map (sf (f+1))))→og=.inr false):=by
   cases last with
   |none=>
    have hp:pre=[]:=hl;rw[hp,if_neg dC];exact⟨_,rfl,λ_=>rfl,λh=>absurd (λy hy=>by cases hy) h⟩
   |some y=>
    obtain⟨hv2,p0,b,hp,hbr⟩:=hl;obtain⟨y1,y3,y4⟩:=hlast y rfl;have hall:(∀ z∈some y,gp z (b0.get (f:Int),(l.take N).map (sf (f+1))))↔gp y (b0.get (f:Int),(l.take N).map (sf (f+1))):=⟨λh=>h y rfl,λh z hz=>by cases hz;exact h⟩
    have hplen:pre.length=p0.length+1:=by rw[hp,Wm];rfl
    have ib:idx a0 (wrap .i64 ((pre.length:Int)-(1:Int)))=some b:=by
     rw[wi64 om om,hplen,show((p0.length+1:Nat):Int)-1=((p0.length:Nat):Int) by omega,Zaq om,←Wr,ha,hp];rw[Wap,Wa6 (Ws _),Nat.sub_self];rfl
    rw[if_pos sO,ib];simp only[Wc];rw[if_pos ⟨om,om⟩,if_pos ⟨om,om⟩,hbr,hall];unfold gp
    by_cases c1:(b0.get (f:Int)).Lo≤y.1.Hi
    rw[if_pos (Wf c1)];simp only[Wc,if_true];exact⟨_,rfl,λh=>by have:=h.1;omega,λ_=>rfl⟩;rw[if_neg (by simpa using c1)];rw[wu32 (x:=y.1.Hi+1) om om]
    by_cases c2:(b0.get (f:Int)).Lo=y.1.Hi+1
    rw[if_pos (by simpa using c2),Zah4 om om,hv2];simp only[Wc,W4]
    by_cases c3:y.2=(l.take N).map (sf (f+1))
    rw[if_pos c3];exact⟨_,rfl,λh=>absurd c3 (h.2 om),λ_=>rfl⟩;rw[if_neg c3];exact⟨_,rfl,λ_=>rfl,λh=>absurd ⟨om,λ_=>c3⟩ h⟩;rw[if_neg (by simpa using c2)];simp only[Wc,Wy,if_false];exact⟨_,rfl,λ_=>rfl,λh=>absurd ⟨om,λh=>absurd h.symm c2⟩ h⟩
  obtain⟨og,og1,og2,og3⟩:=hgap;rw[og1]
  by_cases hg:∀ y∈last,gp y (b0.get (f:Int),(l.take N).map (sf (f+1)))
  rw[og2 hg];simp only[Wc];obtain⟨rv,z1,z2⟩:=hz (l.take N) (λh=>s2 (by rw[h];rfl)) htl (λx hx=>hlok x (Wbc hx));rw[z1];simp only[Wc]
  cases rv with
  |false=>
   grind
  |true=>
   simp only[Wdt,Wy,if_false,Wc];have hcf:=z2.1 rfl
   have hN2:(l.take N).length=N:=by rw[Wad];omega
   have hpl:(pre++l.take N).length=pre.length+N:=by rw[Wm,hN2]
   rw[hN2,wi64 om om,show(pre.length:Int)+(N:Int)=(((pre++l.take N).length:Nat):Int) by rw[hpl];omega]
   have hlr:LastR f (pre++l.take N) (l.take N) (some (b0.get (f:Int),(l.take N).map (sf (f+1)))):=by
    refine⟨rfl,pre++l.take (N-1),(l[N-1]'om),?_,g2.eq (N-1) om om⟩
    rw[Wap]
    congr 1
    obtain⟨M,rfl⟩:∃ M,N=M+1:=⟨N-1,om⟩;rw[Wbm,Wr om];rfl
   obtain⟨o,o1,o2,o3⟩:=ih n (pre++l.take N) (l.drop N) (l.take N) (some (b0.get (f:Int),(l.take N).map (sf (f+1)))) (by rw[Wa2];omega) om (by rw[Wap,Waz,ha]) hlr (λy hy=>by
    cases hy
    exact⟨s2,by show 0≤(b0.get (f:Int)).Hi;omega,by show(b0.get (f:Int)).Hi<4294967296;omega⟩) htl
   refine⟨o,o1,λh=>o2 h.2.2.2,λh=>o3 λh2=>h ⟨⟨om,om,om⟩,hcf,hg,h2⟩⟩
  rw[og3 hg];simp only[Wc];exact⟨_,rfl,λh=>absurd h.2.2.1 hg,λ_=>rfl⟩
def Zab3:∀(k f nr:Nat) (l:List Bx),f+k=5→k<nr→(f=5→l≠[])→l.length≤1000000→(∀ x∈l,BOk x)→∃ r,Zd5 nr l f=some r∧(r=true↔CF (tops5.drop f) (l.map (sf f))):=by
 intro k
 induction k with
 |zero=>
  intro f nr l hf hn hne hl hok
  have:f=5:=om
  subst this;cases nr;omega;rename_i nr
  refine⟨_,rfl,?_⟩
  show _↔(l.map (sf 5)=[]∨l.map (sf 5)=[[]])
  rcases l with _|⟨x,_|⟨y,l⟩⟩
  exact absurd rfl (hne rfl);exact⟨λ_=>Or.inr rfl,λ_=>sM⟩
  grind
 |succ k ih=>
  intro f nr l hf hn hne hl hok
  have hf5:f<5:=om
  cases nr;omega;rename_i nr;rw[Zd5,if_neg gD,Z9y hf5,CF_iff];obtain⟨o,o1,o2,o3⟩:=Z7k hf5 hl hok (z0:=Zd5 nr) (λl hne hl hok=>ih (f+1) nr l om om (λ_=>hne) hl hok) l.length fuel [] l [] none (Ws _) (by unfold fuel;omega) rfl rfl (λy hy=>(by cases hy)) sM;rw[show([].length:Int)=0 from rfl]at o1;rw[o1]
  by_cases h:∃ c,l.map (sf f)=flt c∧Nx (topOf f) (tops5.drop (f+1)) none c
  rw[o2 h];exact⟨true,rfl,λ_=>h,λ_=>rfl⟩;simp_all
def Zafi {l:List Bx} (hl:l.length≤1000000) (hin:∀ x∈l,BIn x):∃ r,Zea l=some r∧(r=true↔VS l):=by
 unfold Zea
 by_cases h1:l.length≤4096
 have hd:decide ((l.length:Int)≤4096)=true:=gD
 rw[hd];rw[Zvg om];simp only[Wc]
 by_cases h2:∀ x∈l,BOk x
 have he:(((l.filter vB).length:Int)==l.length)=true:=by rw[(Z92 hin).2 h2];simp
 rw[he];obtain⟨r,e,g⟩:=Zab3 5 0 fuel l om (by unfold fuel;omega) om hl h2;rw[show((0:Nat):Int)=0 from rfl]at e;rw[e]
 refine⟨r,rfl,g.trans ⟨λh=>⟨h1,h2,h⟩,λh=>h.cf⟩⟩
 have he:(((l.filter vB).length:Int)==l.length)=false:=by
  have h3:=λh=>h2 ((Z92 hin).1 h)
  grind
 rw[he];exact⟨false,rfl,λh=>((by cases h)),λh=>absurd h.ok h2⟩
 have hd:decide ((l.length:Int)≤4096)=false:=gD
 rw[hd];exact⟨false,rfl,λh=>((by cases h)),λh=>absurd h.len h1⟩
def sumL {α:Type} (f:α→Nat) (l:List α):Nat:=l.foldr (λx n=>f x+n) 0
theorem Zf9 {α:Type} (f:α→Nat) (x:α) (l:List α):sumL f (x::l)=f x+sumL f l:=rfl
def Z0r {α:Type} (f g:α→Nat) (l:List α):sumL (λx=>f x+g x) l=sumL f l+sumL g l:=by
 induction l with
 |nil=>rfl
 |cons x l ih=>rw[Zf9,Zf9,Zf9];omega
def Zajj {α:Type} {f g:α→Nat} {l:List α} (h:∀ x∈l,f x≤g x):sumL f l≤sumL g l:=by
 induction l with
 |nil=>exact Ws _
 |cons x l ih=>
  rw[Zf9,Zf9]
  grind
def Z59 {α:Type} (k:Nat) (f:α→Nat) (l:List α):sumL (λx=>k*f x) l=k*sumL f l:=by
 induction l with
 |nil=>rfl
 |cons x l ih=>rw[Zf9,Zf9,ih,Nat.mul_add]
def Zaep {α:Type} (p:α→Bool) (f:α→Nat) (l:List α):sumL (λx=>if p x=true then f x else 0) l=sumL f (l.filter p):=by
 induction l with
 |nil=>rfl
 |cons x l ih=>
  rw[Zf9,ih,Wb6];cases p x;simp;simp[Zf9]
def Z7l {α:Type} (k:Nat) (l:List α):sumL (λ_=>k) l=l.length*k:=by
 induction l with
 |nil=>simp[sumL]
 |cons x l ih=>rw[Zf9,Wak,Wcw];omega
def Zajk (c:List Cell):(flt c).length=sumL (λx=>x.2.length) c:=by
 induction c with
 |nil=>rfl
 |cons x c ih=>rw[Zrk,Wm,Wt,ih,Zf9]
def Z44 (x:Cell) (d:List Cell) (v:Int):(lk (x::d) v).length=(if inR v x.1=true then x.2.length else 0)+(lk d v).length:=by
 rw[Zuu]
 grind
def sum_lk {M:Nat} (vs:List Int):∀ d,(∀ x∈d,(vs.filter (inR · x.1)).length≤M)→sumL (λv=>(lk d v).length) vs≤M*(flt d).length
 |[],_=>by
  have:sumL (λv=>(lk [] v).length) vs=0:=by
   rw[show(λv=>(lk [] v).length)=λ_=>0 from rfl,Z7l];simp
  omega
 |x::d,h=>by
  have e:=funext λv=>Z44 x d v
  have ih:=sum_lk vs d λy hy=>h y gD
  rw[e,Z0r,Zaep (λv=>inR v x.1),Z7l,Zrk,Wm,Wt,Nat.mul_add];have:=W8 x.2.length (h x (Wz ..));omega
def Zaeq (vs:List Int) (d':List Cell):∀ d,(∀ x∈d,∀ y∈d',((vs.filter (inR · x.1)).filter (inR · y.1)).length≤1)→sumL (λv=>(lk d v).length*(lk d' v).length) vs≤(flt d).length*(flt d').length
 |[],_=>by
  have:sumL (λv=>(lk [] v).length*(lk d' v).length) vs=0:=by
   rw[show(λv=>(lk [] v).length*(lk d' v).length)=λv=>0*(lk d' v).length from rfl,Z59];simp
  omega
 |x::d,h=>by
  have e:(λv=>(lk (x::d) v).length*(lk d' v).length)=λv=>(if inR v x.1=true then x.2.length*(lk d' v).length else 0)+(lk d v).length*(lk d' v).length:=funext λv=>by
   rw[Z44]
   grind
  have ih:=Zaeq vs d' d λy hy=>h y gD
  rw[e,Z0r,Zaep (λv=>inR v x.1) (λv=>x.2.length*(lk d' v).length),Z59,Zrk,Wm];have:=Wfw x.2.length (sum_lk (M:=1) (vs.filter (inR · x.1)) d' λy hy=>h x (Wz ..) y hy)
  grind
def Z94 {l:List Int} (h:l.Pairwise (·<·)):l.Nodup:=h.imp λh=>om
def ends2 (c:List Cell):List Int:=c.flatMap λx=>[x.1.Lo,x.1.Hi+1]
def Zagt (c:List Cell):(ends2 c).length=2*c.length:=by
 induction c with
 |nil=>rfl
 |cons x c ih=>unfold ends2 at *;grind
def Z6a {t:Int} {c:List Cell} (h:Ord t c) {x:Cell} (hx:x∈c) {v:Int} (hv:v∈ends2 c) (hr:inR v x.1=true):v=x.1.Lo:=by
 rw[Zd0]at hr;obtain⟨y,hy,hvy⟩:=Waq.1 hv;have hyo:=h.ok y hy;obtain⟨i,hi,rfl⟩:=Wax hx;obtain⟨j,hj,rfl⟩:=Wax hy;have hp:=Wau.1 h.pw
 simp at hvy
 rcases Wc5 i j with h1|h1|h1
 have:=(hp i j hi hj h1).1;omega;subst h1;omega;have:=(hp j i hj hi h1).1;omega
def Zaer {t:Int} {c:List Cell} (h:Ord t c) {v:Int} (hv:¬v∈ends2 c):lk c v=lk c (v-1):=by
 have key:∀ x∈c,x.1.Lo≠v∧x.1.Hi+1≠v:=λx hx=>⟨λe=>hv (Waq.2 ⟨x,hx,gD⟩),λe=>hv (Waq.2 ⟨x,hx,gD⟩)⟩
 clear h hv
 induction c with
 |nil=>rfl
 |cons x c ih=>
  rw[Zuu,Zuu,ih λy hy=>key y gD];have:=key x (Wz ..)
  have e:inR v x.1=inR (v-1) x.1:=by rw[Wa8,Zd0,Zd0];omega
  rw[e]
def Wdu:=@List.pairwise_map
def Weu:=@List.Pairwise.imp_of_mem
def Wb5:=@List.Nodup.length_le_of_subset
def We4:=@Nat.mul_assoc
def Z7m {op:Bool→Bool→Bool} (hff:op false false=false):∀(ts:List Int) {a b l:List RL},CF ts a→CF ts b→Is op ts a b l→l.length≤4*ts.length*(a.length*b.length)+a.length+b.length
 |[],a,b,l,ha,hb,h=>by
  have hm:=h.mem [] trivial
  rcases ha with rfl|rfl<;>rcases hb with rfl|rfl<;>rcases h.cf with rfl|rfl<;>simp[mS,mB,hff]at hm⊢
 |t::ts,a,b,l,ha,hb,h=>by
  obtain⟨ca,rfl,hao,hac⟩:=ha;obtain⟨cb,rfl,hbo,hbc⟩:=hb;obtain⟨c,rfl,ho,hc⟩:=h.cf
  have hat:∀ v,0≤v→v≤t→Is op ts (lk ca v) (lk cb v) (lk c v):=λv h0 h1=>by
   have:=Is.at_ ho hc h h0 h1;rw[Zuv,Zuv]at this;exact this
  have hvs:(c.map (·.1.Lo)).Pairwise (·<·):=by
   rw[Wdu]
   refine Weu ?_ ho.pw
   intro x y hx _ hg;have:=ho.ok x hx;have:=hg.1;omega
  have hin:∀ v∈c.map (·.1.Lo),v∈ends2 ca∨v∈ends2 cb:=by
   intro v hv;obtain⟨x,hx,rfl⟩:=W9.1 hv;have hxo:=ho.ok x hx;apply Wah;intro hn
   have h1:¬x.1.Lo∈ends2 ca:=λh=>hn (Or.inl h)
   have h2:¬x.1.Lo∈ends2 cb:=λh=>hn (Or.inr h)
   have e1:=Zaer hao h1;have e2:=Zaer hbo h2;have hx1:lk c x.1.Lo=x.2:=lk_mem ho hx (Wbf _) hxo.2.1;have g1:=hat x.1.Lo hxo.1 om
   by_cases h0:x.1.Lo=0
   rw[e1,e2,lk_out hao om,lk_out hbo om]at g1;have:lk c x.1.Lo=[]:=g1.inj ⟨CF_nil _,λp _=>by rw[mS_nil,hff]⟩;rw[hx1]at this;exact hxo.2.2.2 this;have g2:=hat (x.1.Lo-1) om om;rw[e1,e2]at g1;have e3:=g1.inj g2;rw[hx1]at e3;obtain⟨y,hy,h3,h4⟩:=Zuw (c:=c) (v:=x.1.Lo-1) (by rw[←e3];exact hxo.2.2.2);rw[lk_mem ho hy h3 h4]at e3;obtain⟨i,hi,rfl⟩:=Wax hx;obtain⟨j,hj,rfl⟩:=Wax hy;have hp:=Wau.1 ho.pw
   rcases Wc5 i j with h5|h5|h5
   have:=(hp i j hi hj h5).1;omega;subst h5;omega;have hg:=hp j i hj hi h5;have:=hg.1;exact hg.2 om e3.symm
  generalize hV:c.map (·.1.Lo)=vs at hvs hin
  have cnt:∀ {d d':List Cell},Ord t d→(∀ v∈vs,v∈ends2 d∨v∈ends2 d')→∀ x∈d,(vs.filter (inR · x.1)).length≤2*d'.length+1:=by
   intro d d' hd hdv x hx
   have hs:(vs.filter (inR · x.1)) ⊆ x.1.Lo::ends2 d':=by
    intro v hv;obtain⟨h1,h2⟩:=Wab.1 hv
    rcases hdv v h1 with h3|h3
    rw[Z6a hd hx h3 h2];exact Wz ..;exact Wcf _ h3
   have:=Wb5 (Z94 (hvs.filter _)) hs;rw[Wak,Zagt]at this;exact this
  have s1:=sum_lk vs ca (cnt hao hin);have s2:=sum_lk vs cb (cnt hbo λv hv=>(hin v hv).symm)
  have s3:=Zaeq vs cb ca (λx hx y hy=>by
   have hs:((vs.filter (inR · x.1)).filter (inR · y.1)) ⊆ [max x.1.Lo y.1.Lo]:=by
    intro v hv;obtain⟨h1,h2⟩:=Wab.1 hv;obtain⟨h3,h4⟩:=Wab.1 h1;have h2':=Zd0.1 h2;have h4':=Zd0.1 h4;rw[Wl]
    rcases hin v h3 with h5|h5
    have:=Z6a hao hx h5 h4;omega;have:=Z6a hbo hy h5 h2;omega
   have:=Wb5 (Z94 ((hvs.filter _).filter _)) hs
   simpa using this)
  have total:(flt c).length≤sumL (λv=>4*ts.length*((lk ca v).length*(lk cb v).length)+(lk ca v).length+(lk cb v).length) vs:=by
   rw[Zajk,←hV]
   have e:∀(d:List Cell) (f:Int→Nat),sumL f (d.map (·.1.Lo))=sumL (λx=>f x.1.Lo) d:=by
    intro d f
    induction d with
    |nil=>rfl
    |cons x d ih=>rw[W0,Zf9,Zf9,ih]
   rw[e]
   refine Zajj λx hx=>?_
   have hxo:=ho.ok x hx;have g1:=hat x.1.Lo hxo.1 om;rw[lk_mem ho hx (Wbf _) hxo.2.1]at g1;exact Z7m hff ts (CF_lk hao hac _) (CF_lk hbo hbc _) g1
  rw[Z0r,Z0r,Z59]at total;have la:=hao.len;have lb:=hbo.len;have m3:=Wfw (4*ts.length) s3;have n1:(2*cb.length+1)*(flt ca).length≤(2*(flt cb).length+1)*(flt ca).length:=W8 _ om;have n2:(2*ca.length+1)*(flt cb).length≤(2*(flt ca).length+1)*(flt cb).length:=W8 _ om;rw[Way,Nat.one_mul]at n1 n2
  have c1:2*(flt cb).length*(flt ca).length=2*((flt ca).length*(flt cb).length):=by rw[We4,Wgp (flt cb).length]
  have c2:2*(flt ca).length*(flt cb).length=2*((flt ca).length*(flt cb).length):=by rw[We4]
  have n1':(2*cb.length+1)*(flt ca).length≤(2*(flt cb).length)*(flt ca).length+(flt ca).length:=by
   grind
  have n2':(2*ca.length+1)*(flt cb).length≤(2*(flt ca).length)*(flt cb).length+(flt cb).length:=by
   grind
  rw[c1]at n1';rw[c2]at n2'
  have fin:4*(t::ts).length*((flt ca).length*(flt cb).length)=4*ts.length*((flt ca).length*(flt cb).length)+4*((flt ca).length*(flt cb).length):=by
   rw[Wak,Nat.mul_add,Way]
  omega
def Can.size {op:Bool→Bool→Bool} (hff:op false false=false) {a b l:List Bx} (ha:CFb a) (hb:CFb b) (h:Can op a b l):l.length≤20*(a.length*b.length)+a.length+b.length:=by
 have:=Z7m hff tops5 ha hb h.is;rw[Wt,Wt,Wt]at this;exact this
def Can.size2 {op:Bool→Bool→Bool} (hff:op false false=false) {a b l:List Bx} (ha:CFb a) (hb:CFb b) (h:Can op a b l) (h1:a.length≤4096) (h2:b.length≤4096):l.length≤2000000000:=by
 have:=h.size hff ha hb;have:=Wdy h1 h2;omega
noncomputable def can (op:Bool→Bool→Bool) (a b:List Bx):List Bx:=(Can.ex op a b).choose
def Zrl (op:Bool→Bool→Bool) (a b:List Bx):Can op a b (can op a b):=(Can.ex op a b).choose_spec
def oO (x y:Bool):Bool:=x||y
def oA (x y:Bool):Bool:=x&&y
def oW (x y:Bool):Bool:=x&&!y
def opc0:opc 0=oO:=funext λx=>funext λy=>rfl
def opc1:opc 1=oA:=funext λx=>funext λy=>rfl
def opc2:opc 2=oW:=funext λx=>funext λy=>rfl
def Z95:∀(ts:List Int) {b:RL},vR ts b→CF ts [b]
 |[],b,h=>by
  cases b with
  |nil=>exact .inr rfl
  |cons _ _=>exact h.elim
 |t::ts,b,h=>by
  cases b with
  |nil=>exact h.elim
  |cons r b=>
   obtain⟨h0,h1,h2,h3⟩:=h
   refine⟨[(r,[b])],rfl,⟨Wcp ..,λx hx=>?_⟩,λx hx=>?_⟩
   ·rw[Wl]at hx;subst hx;exact⟨h0,h1,h2,We7 _ _⟩
   ·rw[Wl]at hx;subst hx;exact Z95 ts h3
def ok_vR {b:Bx} (h:BOk b):vR tops5 (toL b):=
 ⟨h.h0.h0,h.h0.h1,h.h0.h2,h.h1.h0,h.h1.h1,h.h1.h2,h.h2.h0,h.h2.h1,h.h2.h2,h.h3.h0,h.h3.h1,h.h3.h2,h.h4.h0,h.h4.h1,h.h4.h2,trivial⟩
def CFb.single {b:Bx} (h:BOk b):CFb [b]:=Z95 tops5 (ok_vR h)
noncomputable def mkF:List Bx→List Bx→List Bx×Int
 |s,[]=>(s,0)
 |s,b::l=>if(can oO s [b]).length≤4096 then mkF (can oO s [b]) l else([],3)
noncomputable def mk (l:List Bx):List Bx×Int:=mkF [] (l.filter vB)
def VS.nil:VS []:=⟨sM,λ_ h=>((by cases h)),CFb.nil⟩
def We8:=@VS.nil
def Wfq:=@Bool.not_false
def Zajl (r:List Bx) (hr:r.length≤300000) (hin:∀ x∈r,BIn x):∀(K i n:Nat) (s:List Bx),r.length-i=K→K<n→VS s→i≤r.length→∃ o,Zjy r n s (i:Int)=some o∧mkF s ((r.drop i).filter vB)=match o with
   |.inl v=>(v,0)
   |.inr z=>z:=by
 intro K
 induction K with
 |zero=>
  intro i n s hK hn hs hi
  cases n with
  |zero=>omega
  |succ n=>
  rw[Zjy,if_neg sO,Wca om];exact⟨_,rfl,rfl⟩
 |succ K ih=>
  intro i n s hK hn hs hi
  cases n with
  |zero=>omega
  |succ n=>
  have hil:i<r.length:=om
  have hsl:=hs.len
  have hpart:List.drop i (List.take (i+1) r)=[r[i]]:=by
   rw[Wdb,show i+1-i=1 by omega,War hil];rfl
  rw[Zjy,if_pos sO,Zaq hil];simp only[Wc,Zg9];rw[wsucc om,War hil,Wb6];simp only[Wb3,hpart]
  by_cases hv:vB r[i]=true
  ·have hb:BOk r[i]:=vB_ok (hin _ (Wv hil)) hv
   rw[hv];simp only[Wdt,Wy,if_false,if_true];rw[if_pos ⟨om,om,om⟩];have hC:=Zrl oO s [r[i]];rw[Zyd (k:=0) sO hs.ok (λx hx=>by rw[Wl]at hx;rw[hx];exact hb) (by rw[opc0];exact hC) (hC.size2 rfl hs.cf (CFb.single hb) hs.len sM)];simp only[Wc,Z7j,capB,mkF]
   by_cases h:(can oO s [r[i]]).length≤4096
   ·rw[if_pos h,if_pos h]
    simp only[bne_self_eq_false,Wy,if_false,Wc];exact ih (i+1) n _ om om (VS.of (Zrl oO s [r[i]]).cf h) om
   ·rw[if_neg h,if_neg h]
    exact⟨_,rfl,rfl⟩
  ·rw[Wde]at hv
   rw[hv];simp only[Wfq,if_true,Wc,Wy,if_false];exact ih (i+1) n _ om om hs om
def Z6b {l:List Bx} (hl:l.length≤300000) (hin:∀ x∈l,BIn x):Zeu l=some (mk l):=by
 unfold Zeu;obtain⟨o,e,g⟩:=Zajl l hl hin _ 0 fuel [] rfl (by unfold fuel;omega) We8 om;rw[show((0:Nat):Int)=0 from rfl]at e;rw[e];rw[List.drop_zero]at g;unfold mk;rw[g];cases o<;>rfl
noncomputable def vSb (l:List Bx):Bool:=@decide (VS l) (Classical.propDecidable _)
def Z84 {l:List Bx}:vSb l=true↔VS l:=by unfold vSb;exact @decide_eq_true_iff _ (Classical.propDecidable _)
def Zajm {r:Bool} {p:Prop} {q:Bool} (h1:r=true↔p) (h2:q=true↔p):r=q:=by
 rw[Wa8,h1,h2]
def rVal {l:List Bx} (hl:l.length≤300000) (hin:∀ x∈l,BIn x):Zea l=some (vSb l):=by
 obtain⟨r,e,g⟩:=Zafi om hin;rw[e,Zajm g Z84]
noncomputable def st (l:List Bx):List Bx×Int:=if vSb l=true then(l,0)else mk l
def Z96 {l:List Bx} (hl:l.length≤300000) (hin:∀ x∈l,BIn x):Zm6 l=some (st l):=by
 unfold Zm6 st;rw[rVal hl hin];simp only[Wc];split
 ·rfl
 ·rw[Z6b om hin];rfl
def memF (l:List Bx) (p:List Int):mem l p=l.any λb=>mB (toL b) p:=by unfold mem mS;rw[List.any_map];rfl
def Zaes (a b:List Bx) (p:List Int):mem (a++b) p=(mem a p||mem b p):=by unfold mem;rw[Wat,mS_app]
structure SetOr (r:List Bx×Int):Prop where
 vs:VS r.1
 err:r.2=0∨r=([],3)
def mkF_ok:∀(l s:List Bx),VS s→SetOr (mkF s l)∧((mkF s l).2=0→∀ p,vP tops5 p→mem (mkF s l).1 p=(mem s p||mem l p))
 |[],s,hs=>⟨⟨hs,Or.inl rfl⟩,λ_ p _=>by rw[Z83,Bool.or_false];rfl⟩
 |b::l,s,hs=>by
  simp only[mkF]
  by_cases h:(can oO s [b]).length≤4096
  ·rw[if_pos h]
   have hC:=Zrl oO s [b];obtain⟨g1,g2⟩:=mkF_ok l (can oO s [b]) (VS.of hC.cf h)
   refine⟨g1,λh0 p hp=>?_⟩
   rw[g2 h0 p hp,hC.mem p hp,show b::l=[b]++l from rfl,Zaes [b] l,oO,Bool.or_assoc]
  ·rw[if_neg h]
   exact⟨⟨We8,Or.inr rfl⟩,λh=>by cases h⟩
def st_ok (l:List Bx):SetOr (st l)∧((st l).2=0→∀ p,vP tops5 p→mem (st l).1 p=mem (l.filter vB) p):=by
 unfold st
 by_cases h:vSb l=true
 ·rw[if_pos h]
  have hv:=Z84.1 h
  refine⟨⟨hv,Or.inl rfl⟩,λ_ p _=>?_⟩
  rw[Wbr.2 λx hx=>ok_vB (hv.ok x hx)]
 ·rw[if_neg h]
  obtain⟨g1,g2⟩:=mkF_ok (l.filter vB) [] We8;exact⟨g1,λh0 p hp=>by unfold mk;rw[g2 h0 p hp,Z83,Wc7]⟩
noncomputable def cmb (op:Bool→Bool→Bool) (a b:List Bx):List Bx×Int:=
 if(st a).2≠0 then([],(st a).2)else if(st b).2≠0 then([],(st b).2)else capB (can op (st a).1 (st b).1)
def Zajn {op:Bool→Bool→Bool} {a b:List Bx}:SetOr (capB (can op a b)):=by
 unfold capB
 by_cases h:(can op a b).length≤4096
 ·rw[if_pos h];exact⟨VS.of (Zrl op a b).cf h,Or.inl rfl⟩
 ·rw[if_neg h];exact⟨We8,Or.inr rfl⟩
def SetOr.three {r:List Bx×Int} (h:SetOr r) (hr:r.2≠0):r=([],3):=h.err.resolve_left hr
def cmb_ok (op:Bool→Bool→Bool) (a b:List Bx):SetOr (cmb op a b)∧((cmb op a b).2=0→∀ p,vP tops5 p→mem (cmb op a b).1 p=op (mem (a.filter vB) p) (mem (b.filter vB) p)):=by
 have ha:=st_ok a;have hb:=st_ok b;unfold cmb
 by_cases h1:(st a).2≠0
 ·rw[if_pos h1,ha.1.three h1];exact⟨⟨We8,Or.inr rfl⟩,λh=>by cases h⟩
 ·rw[if_neg h1]
  by_cases h2:(st b).2≠0
  ·rw[if_pos h2,hb.1.three h2];exact⟨⟨We8,Or.inr rfl⟩,λh=>by cases h⟩
  ·rw[if_neg h2]
   refine⟨Zajn,λh0 p hp=>?_⟩
   have hc:=Zrl op (st a).1 (st b).1
   unfold capB at h0⊢
   split at h0
   ·rename_i h
    rw[if_pos h];show mem (can op (st a).1 (st b).1) p=_;rw[hc.mem p hp,ha.2 (by simpa using h1) p hp,hb.2 (by simpa using h2) p hp]
   ·cases h0
def Zyx {k:Int} {a b:List Bx} (ha:a.length≤300000) (hb:b.length≤300000) (hai:∀ x∈a,BIn x) (hbi:∀ x∈b,BIn x):Zg3 a b k=some (cmb (opc k) a b):=by
 have sa:=(st_ok a).1.vs;have sb:=(st_ok b).1.vs;have la:=sa.len;have lb:=sb.len;unfold Zg3 cmb;rw[Z96 ha hai];simp only[Wc,bne_iff_ne];split
 ·rfl
 ·rw[Z96 hb hbi]
  simp only[Wc];split
  ·rfl
  ·have hC:=Zrl (opc k) (st a).1 (st b).1
   rw[Zyd om sa.ok sb.ok hC (hC.size2 (opc_ff k) sa.cf sb.cf sa.len sb.len)];simp only[Wc,Z7j]
def Zagu {a b:List Bx} (ha:a.length≤300000) (hb:b.length≤300000) (hai:∀ x∈a,BIn x) (hbi:∀ x∈b,BIn x):Ze5 a b=some (cmb oO a b):=by
 unfold Ze5;rw[Zyx ha hb hai hbi,opc0];rfl
def Zzr {a b:List Bx} (ha:a.length≤300000) (hb:b.length≤300000) (hai:∀ x∈a,BIn x) (hbi:∀ x∈b,BIn x):Zb3 a b=some (cmb oA a b):=by
 unfold Zb3;rw[Zyx ha hb hai hbi,opc1];rfl
def Zaat {a b:List Bx} (ha:a.length≤300000) (hb:b.length≤300000) (hai:∀ x∈a,BIn x) (hbi:∀ x∈b,BIn x):Zfx a b=some (cmb oW a b):=by
 unfold Zfx;rw[Zyx ha hb hai hbi,opc2];rfl
def CFb.nil_iff {l:List Bx} (h:CFb l):l=[]↔∀ p,vP tops5 p→mem l p=false:=
 ⟨λe p _=>by rw[e];rfl,λe=>h.inj CFb.nil λp hp=>by rw[e p hp];rfl⟩
def Z7n {a b:List Bx} (ha:VS a) (hb:VS b):∃ r,Zdn a b=some r∧(r=true↔∀ p,vP tops5 p→mem a p=true→mem b p=true):=by
 have la:=ha.len;have lb:=hb.len;have hC:=Zrl oW a b;unfold Zdn;rw[Zvg om,Zvg om];simp only[Wc];rw[Wbr.2 λx hx=>ok_vB (ha.ok x hx),Wbr.2 λx hx=>ok_vB (hb.ok x hx)];rw[Zyd (k:=2) om ha.ok hb.ok (by rw[opc2];exact hC) (hC.size2 rfl ha.cf hb.cf ha.len hb.len)]
 refine⟨_,rfl,?_⟩
 have e:(((can oW a b).length:Int)==(0:Int))=true↔can oW a b=[]:=sM
 rw[e,hC.cf.nil_iff];constructor
 ·intro h p hp hm
  have:=h p hp;rw[hC.mem p hp,oW,hm]at this
  simpa using this
 ·intro h p hp
  rw[hC.mem p hp,oW]
  cases hm:mem a p with
  |false=>rfl
  |true=>rw[h p hp hm];rfl
def dn (i:Nat) (q:List Int):List Int:=q.set i (q.getD i 0-1)
def Chg (i:Nat) (C:List Int→Prop) (m:List Int→Bool):Prop:=∀ q,vP tops5 q→vP tops5 (dn i q)→m q≠m (dn i q)→C q
def Chg.op {i:Nat} {C:List Int→Prop} {m n r:List Int→Bool} (o:Bool→Bool→Bool) (h1:Chg i C m) (h2:Chg i C n) (e:∀ q,vP tops5 q→r q=o (m q) (n q)):Chg i C r:=by
 intro q hq hd hne
 by_cases g1:m q=m (dn i q)
 by_cases g2:n q=n (dn i q)
 rw[e q hq,e _ hd,g1,g2]at hne;exact absurd rfl hne;exact h2 q hq hd g2;exact h1 q hq hd g1
def Chg.eq {i:Nat} {C:List Int→Prop} {m r:List Int→Bool} (h1:Chg i C m) (e:∀ q,vP tops5 q→r q=m q):Chg i C r:=λq hq hd hne=>h1 q hq hd gD
def Chg.nil {i:Nat} {C:List Int→Prop}:Chg i C (mem []):=λq _ _ h=>absurd rfl h
def Wic:=@Chg.nil
def Chg.cons {i:Nat} {C:List Int→Prop} {b:Bx} {l:List Bx} (h1:Chg i C (mem [b])) (h2:Chg i C (mem l)):Chg i C (mem (b::l)):=Chg.op (·||·) h1 h2 λq _=>Zaes [b] l q
def Chg.all {i:Nat} {C:List Int→Prop}:∀ {l:List Bx},(∀ b∈l,Chg i C (mem [b]))→Chg i C (mem l)
 |[],_=>Wic
 |b::l,h=>Chg.cons gD (Chg.all λc hc=>h c gD)
def fiveP {q:List Int} (h:vP tops5 q):∃ a b c d e,q=[a,b,c,d,e]:=by
 match q,h with
 |[a,b,c,d,e],_=>grind
def Zzs {v:Int} {r:Za} (h:inR v r≠inR (v-1) r):v=r.Lo∨v=r.Hi+1:=by
 cases h1:inR v r with
 |true=>
  cases h2:inR (v-1) r with
  |true=>grind
  |false=>
   have g:=Zd0.1 h1
   have:¬(r.Lo≤v-1∧v-1≤r.Hi):=λk=>by rw[Zd0.2 k]at h2;grind
   omega
 |false=>
  cases h2:inR (v-1) r with
  |true=>
   have g:=Zd0.1 h2
   have:¬(r.Lo≤v∧v≤r.Hi):=λk=>by rw[Zd0.2 k]at h1;grind
   omega
  |false=>grind
def mem1 (b:Bx) (a c d e f:Int):mem [b] [a,c,d,e,f]=(inR a b.x0&&(inR c b.x1&&(inR d b.x2&&(inR e b.x3&&inR f b.x4)))):=by
 unfold mem mS toL;simp[mB]
def bC (b:Bx):Nat→List Int→Prop
 |0,[a,_,_,_,_]=>a=b.x0.Lo∨a=b.x0.Hi+1
 |1,[_,c,_,_,_]=>c=b.x1.Lo∨c=b.x1.Hi+1
 |2,[_,_,d,_,_]=>d=b.x2.Lo∨d=b.x2.Hi+1
 |3,[_,_,d,e,_]=>inR d b.x2=true∧(e=b.x3.Lo∨e=b.x3.Hi+1)
 |4,[_,_,d,_,f]=>inR d b.x2=true∧(f=b.x4.Lo∨f=b.x4.Hi+1)
 |_,_=>False
def and_ne {x y z:Bool} (h:(x&&y)≠(x&&z)):x=true∧y≠z:=gD
def Z85 {x y z:Bool} (h:(x&&z)≠(y&&z)):x≠y:=gD
def Chg.box (b:Bx) (i:Nat) (hi:i<5):Chg i (bC b i) (mem [b]):=by
 intro q hq hd hne;obtain⟨a,c,d,e,f,rfl⟩:=fiveP hq
 rcases(by omega:i=0∨i=1∨i=2∨i=3∨i=4)with rfl|rfl|rfl|rfl|rfl<;>simp  [dn,List.set,mem1]at hne<;>simp  [bC]
 exact Zzs (Z85 hne);exact Zzs (Z85 (and_ne hne).2);exact Zzs gD;have h:=and_ne (and_ne (and_ne hne).2).2;exact⟨h.1,Zzs (Z85 h.2)⟩;have h:=and_ne (and_ne (and_ne hne).2).2;exact⟨h.1,Zzs (and_ne h.2).2⟩
def Chg.mono {i:Nat} {C D:List Int→Prop} {m:List Int→Bool} (h:Chg i C m) (k:∀ q,vP tops5 q→vP tops5 (dn i q)→C q→D q):Chg i D m:=λq hq hd hne=>k q hq hd (h q hq hd hne)
def lowsL (b:List Za):List Int:=b.map (·.Lo)
def Zab4:∀ ts {b:List Za},vR ts b→vP ts (lowsL b)
 |[],[],_=>trivial
 |t::ts,r::b,h=>⟨h.1,by have:=h.2.1;have:=h.2.2.1;grind,Zab4 ts h.2.2.2⟩
 |[],_::_,h=>h.elim
 |_::_,[],h=>h.elim
def mS_flt (c:List Cell) (v:Int) (p:List Int):mS (flt c) (v::p)=mS (lk c v) p:=by rw[Zr0,Zuv]
def Zajo {t:Int} {c:List Cell} (ho:Ord t c) {x:Cell} (hx:x∈c):lk c (x.1.Lo-1)≠x.2:=by
 intro h;have hxo:=ho.ok x hx;obtain⟨y,hy,h1,h2⟩:=Zuw (c:=c) (v:=x.1.Lo-1) gD;rw[lk_mem ho hy h1 h2]at h;obtain⟨i,hi,rfl⟩:=Wax hx;obtain⟨j,hj,rfl⟩:=Wax hy;have hp:=Wau.1 ho.pw
 rcases Wc5 i j with h5|h5|h5
 have:=(hp i j hi hj h5).1;omega;subst h5;omega;have g:=hp j i hj hi h5;exact g.2 (by have:=g.1;omega) h
def cornerL:∀ ts {l:List RL},CF ts l→∀ b∈l,mS l (lowsL b)=true∧∀ i,i<ts.length→(lowsL b).getD i 0=0∨∃ q,vP ts q∧vP ts (dn i q)∧q.take (i+1)=(lowsL b).take (i+1)∧mS l q≠mS l (dn i q)
 |[],l,h,b,hb=>by
  rcases h with rfl|rfl
  cases hb;rw[Wl.1 hb];exact⟨rfl,λi hi=>absurd hi sM⟩
 |t::ts,l,h,b,hb=>by
  obtain⟨c,rfl,ho,hc⟩:=h;obtain⟨x,hx,hb⟩:=Waq.1 hb;obtain⟨b',hb',rfl⟩:=W9.1 hb;have hxo:=ho.ok x hx;have ih:=cornerL ts (hc x hx) b' hb';have el:=lk_mem ho hx (Wbf _) hxo.2.1
  refine⟨?_,λi hi=>?_⟩
  show mS (flt c) (x.1.Lo::lowsL b')=true;rw[mS_flt,el];exact ih.1;cases i
  by_cases h0:x.1.Lo=0
  exact .inl h0
  refine .inr ?_
  apply Wah;intro hn
  refine Zajo ho hx (CF_inj ts (CF_lk ho hc _) (hc x hx) λp hp=>?_)
  apply Wah;intro hne
  refine hn ⟨x.1.Lo::p,⟨hxo.1,om,hp⟩,⟨gD,gD,hp⟩,rfl,?_⟩
  show mS (flt c) (x.1.Lo::p)≠mS (flt c) ((x.1.Lo-1)::p);rw[mS_flt,mS_flt,el]
  exact λe=>hne e.symm
  rename_i i
  rcases ih.2 i gD with h|⟨q,h1,h2,h3,h4⟩
  exact .inl h
  refine .inr ⟨x.1.Lo::q,⟨hxo.1,gD,h1⟩,⟨hxo.1,gD,h2⟩,?_,?_⟩
  show x.1.Lo::q.take (i+1)=x.1.Lo::(lowsL b').take (i+1);rw[h3];show mS (flt c) (x.1.Lo::q)≠mS (flt c) (x.1.Lo::dn i q);rw[mS_flt,mS_flt,el];omega
def Z7o:∀ ts {l:List RL},CF ts l→(l.map lowsL).Nodup
 |[],l,h=>by
  rcases h with rfl|rfl<;>simp
 |t::ts,l,h=>by
  obtain⟨c,rfl,ho,hc⟩:=h;unfold flt;rw[List.map_flatMap];unfold List.Nodup;rw[List.pairwise_flatMap]
  refine⟨λx hx=>?_,?_⟩
  rw[Wao,Wdu];have ih:=Z7o ts (hc x hx)
  unfold List.Nodup at ih
  rw[Wdu]at ih
  exact ih.imp λh e=>h (List.cons.inj e).2
  refine Weu ?_ ho.pw
  intro x y hx hy hg u hu w hw e;obtain⟨u',hu',rfl⟩:=W9.1 hu;obtain⟨w',hw',rfl⟩:=W9.1 hw;obtain⟨u2,_,rfl⟩:=W9.1 hu';obtain⟨w2,_,rfl⟩:=W9.1 hw';have:=(List.cons.inj e).1;have hxo:=ho.ok x hx;have:=hg.1
  grind
structure GS (K:Nat→List Int→Prop) (l:List Bx):Prop where
 v:VS l
 c:∀ i,i<5→Chg i (K i) (mem l)
def GS.nil {K:Nat→List Int→Prop}:GS K []:=⟨We8,λ_ _=>Wic⟩
def Wev:=@GS.nil
def flt_vB {b:List Bx} (h:∀ x∈b,BOk x):b.filter vB=b:=Wbr.2 λx hx=>ok_vB (h x hx)
def GS.cmb {K:Nat→List Int→Prop} (op:Bool→Bool→Bool) {a b:List Bx} (ha:∀ i,i<5→Chg i (K i) (mem (a.filter vB))) (hb:∀ i,i<5→Chg i (K i) (mem (b.filter vB))):GS K (cmb op a b).1:=by
 have h:=cmb_ok op a b
 refine⟨h.1.vs,λi hi=>?_⟩
 rcases h.1.err with e|e
 exact Chg.op op (ha i hi) (hb i hi) (h.2 e);rw[e];exact Wic
def GS.f {K:Nat→List Int→Prop} {a:List Bx} (h:GS K a):∀ i,i<5→Chg i (K i) (mem (a.filter vB)):=by rw[flt_vB h.v.ok];exact h.c
def GS.make {K:Nat→List Int→Prop} {a:List Bx} (h:∀ i,i<5→Chg i (K i) (mem (a.filter vB))):GS K (AM.mk a).1:=by
 have g:=mkF_ok (a.filter vB) [] We8
 refine⟨g.1.vs,λi hi=>?_⟩
 rcases g.1.err with e|e
 exact(h i hi).eq λq hq=>by rw[show AM.mk a=mkF [] (a.filter vB)from rfl,g.2 e q hq,Z83,Wc7]
 rw[show AM.mk a=mkF [] (a.filter vB)from rfl,e];exact Wic
def Zadm (a:ByteArray) (c:Int) (hb:a.size≤1000) (n:Nat):∀ l (j i:Int),0≤j→j≤i→i≤a.size+1→l.length≤i→(i=a.size+1→1≤l.length)→(∀ s,s∈l→s.size≤1000)→(a.size+1-i).toNat<n→Ok (Zq7 a c n l j i) λr=>1≤r.length∧r.length≤1001∧∀ s,s∈r→s.size≤1000:=by
 induction n with
 |zero=>omega
 |succ n ih=>
  intro l j i h0 h1 h2 h3 h4 h5 hn;have hl:=lim_eq
  refine Wx (λhc=>?_) λhc=>Wb ⟨h4 om,om,h5⟩
  rw[wi (i+1) om om]
  refine Wa (p:=λo=>0≤o.2∧o.2≤i+1∧o.1.length≤i+1∧(i+1=a.size+1→1≤o.1.length)∧∀ s,s∈o.1→s.size≤1000) ?_ λ⟨m,k⟩ ⟨g0,g1,g2,g3,g4⟩=>ih _ _ _ g0 g1 om g2 g3 g4 om
  refine Lf (Wa (p:=λv=>i=a.size→v=true) (Wi (λ_=>Wb λ_=>rfl) λh=>?_) λv hv=>Wi (λh=>Waf ⟨h0,h1,hc⟩ (Ap gD (Wb ⟨om,gD,gD,sM,?_⟩))) λh=>Wb ⟨h0,om,gD,λe=>?_,h5⟩)
  simp at h
  exact SIx om om λx=>Wb λe=>absurd e h
  intro s hs
  rcases Wj.1 hs with hs|hs
  exact h5 s hs;rw[Wl.1 hs,ByteArray.size_extract];omega
  grind
def Zye (a:ByteArray) (c:Int) (hb:a.size≤1000):Ok (Zqg a c) λr=>1≤r.length∧r.length≤1001∧∀ s,s∈r→s.size≤1000:=by
 have hf:=Z6
 exact Wa (Zadm a c hb _ [] 0 0 om om om sM om sM om) λv hv=>Wb hv
def Zagv (a:ByteArray) (l:List ByteArray) (hb:l.length≤1000) (n:Nat):∀ i:Int,0≤i→i≤l.length→(l.length-i).toNat<n→Ok (Zpb a l n i) (Ri λr=>0≤r∧r<l.length):=by
 induction n with
 |zero=>omega
 |succ n ih=>
  intro i h0 h1 hn;unfold Zpb
  (with_reducible repeat' first|omega|omega|apply Wb|omega|simp_all|apply Wi|(rw[wn h0 om om];grind)|apply Ix|omega|omega|omega|intro o|omega|omega)<;>first|omega|with_reducible exact Ri.l|with_reducible exact Wg7 ⟨om,om⟩
def Z1m (a:ByteArray):Ok (Zsj a) λr=>-1≤r∧r<7:=by
 have hf:=Z6
 refine Lf (Wa (Zagv a _ dC _ 0 om dC gD) λo ho=>?_)
 rcases o with o|o
 exact Wb om;exact Wb ⟨by have:=ho.1;omega,ho.2⟩
def Z86 (a:ByteArray) (hb:a.size≤1000):Ok (Zul a) λr=>-1≤r.1∧r.2<7∧(0≤r.1→r.1≤r.2):=by
 refine Wa (Zye a _ hb) λl ⟨h0,h1,h2⟩=>Wx (λ_=>Wb dC) λ_=>?_
 rw[wi (l.length-1) om om]
 refine Ix om om λx hx=>Wa (Z1m x) λr hr=>Ix om om λy hy=>Wa (Z1m y) λs hs=>Lf (Wi (λ_=>Wb dC) λh=>Wb ?_)
 grind
def Z1n (a:ByteArray):Ok (Zsk a) λr=>-1≤r∧r≤2805:=by
 refine Lf (Wa (p:=λv=>v=false→a.size=2) (Wi (λ_=>Wb sM) λh=>?_) λv hv=>?_)
 simp at h
 exact SIx om om λx=>Wb λ_=>om
 refine Lf (Wa (p:=λv=>v=false→a.size=2) (Wi (λ_=>Wb sM) λh=>?_) λv hv=>?_)
 have h:=hv gD
 exact SIx om om λx=>Wb λ_=>h
 refine Lf (Wa (p:=λv=>v=false→a.size=2) (Wi (λ_=>Wb sM) λh=>?_) λv hv=>?_)
 have h:=hv gD
 exact SIx om om λx=>Wb λ_=>h
 refine Lf (Wa (p:=λv=>v=false→a.size=2) (Wi (λ_=>Wb sM) λh=>?_) λv hv=>?_)
 have h:=hv gD
 exact SIx om om λx=>Wb λ_=>h
 refine Wi (λ_=>Wb dC) λh=>?_
 have h:=hv gD
 refine SIx om om λx=>SIx om om λy=>Wb ?_
 have h1:=Z9t (x-48);have h2:=Z9t (y-48);rw[wi (wrap .u8 (x-48)) om om,wi (wrap .u8 (y-48)) om om,wi (_*_) om om,wi _ om om];omega
def Zyf (a:ByteArray):Ok (Zqh a) λr=>-1≤r∧r≤1440:=by
 refine Wi (λ_=>Wb dC) λ_=>?_
 refine Lf (Wa (p:=λv=>v=false→a.size=5) (Wi (λ_=>Wb sM) λh=>?_) λv hv=>?_)
 simp at h
 exact SIx om om λx=>Wb λ_=>om
 refine Wi (λ_=>Wb dC) λh=>?_
 have h:=hv gD
 refine Waf om (Wa (Z1n _) λr hr=>Waf om (Wa (Z1n _) λs hs=>Lf (Lf (Lf (Wi (λ_=>Wb dC) λg=>Wb ?_)))))
 simp at g
 rw[wi (60*r) om om,wi _ om om];omega
def Z7p (a:ByteArray) (hb:a.size≤1000):Ok (Ztq a) λr=>-1≤r.1∧-1≤r.2∧r.2≤1440:=by
 refine Wa (Zye a _ hb) λl ⟨h0,h1,h2⟩=>Wi (λ_=>Wb dC) λh=>?_
 simp at h
 refine Ix om om λx hx=>Wa (Zyf x) λr hr=>Ix om om λy hy=>Wa (Zyf y) λs hs=>Lf (Wi (λ_=>Wb dC) λh=>Wb ⟨hr.1,hs.1,hs.2⟩)
def Zab5 (l:List Int) (a:Int) (hb:l.length≤3000000) (n:Nat):∀ i:Int,0≤i→i≤l.length→(l.length-i).toNat<n→Ok (Zd3 l a n i) λr=>0≤r∧r≤l.length:=by
 induction n with
 |zero=>omega
 |succ n ih=>
  intro i h0 h1 hn;unfold Zd3;rw[wi (i+1) om om]
  refine Lf (Wa (p:=λv=>v=true→i<l.length) (Wi (λh=>?_) λ_=>Wb sM) λv hv=>Wi gD λ_=>Wb ⟨h0,h1⟩)
  have h:=Wb9 h
  exact Ix h0 h λx _=>Wb λ_=>h
def Zw7 (l:List Int) (a b:Int) (hb:l.length≤3000000):Ok (Zh5 l a b) λr=>r.length≤l.length+1∧∀ x,x∈r→x∈l∨(x=a∧a≤wrap .u64 b):=by
 have hf:=Z6;have hl:=lim_eq
 refine Wx (λ_=>Wb ⟨om,λx hx=>.inl hx⟩) λhle=>Wa (Zab5 l a hb _ 0 om om om) λv ⟨hv0,hv1⟩=>Lf ?_
 refine Wa (p:=λ_=>True) (Wi (λh=>Ix hv0 (Wb9 h) λx _=>Wb trivial) λ_=>Wb trivial) λw _=>Wi (λ_=>Wb ⟨om,λx hx=>.inl hx⟩) λ_=>?_
 refine Waf om (Waf gD (Waf gD (Waf om (Waf gD (Wb ⟨gD,λx hx=>?_⟩)))))
 grind
def Cp (l:List Za) (t v:Int):Prop:=v=0∨(v≤wrap .u64 t∧∃ z,z∈l∧(v=wrap .u64 z.Lo∨v=wrap .u64 (wrap .u64 z.Hi+1)))
def Zab6 (l:List Za) (a:Int) (hb:l.length≤1000000) (n:Nat):∀ m (i:Int),0≤i→i≤l.length→m.length≤1+2*i→(∀ v,v∈m→Cp l a v)→(l.length-i).toNat<n→Ok (Zd4 l a n m i) λr=>r.length≤1+2*l.length∧∀ v,v∈r→Cp l a v:=by
 induction n with
 |zero=>grind
 |succ n ih=>
  intro m i h0 h1 hm hcp hn;unfold Zd4;rw[wi (i+1) om om]
  refine Wx (λhc=>Wa (p:=λv=>v.length≤1+2*(i+1)∧∀ x,x∈v→Cp l a x) ?_ λv hv=>ih _ _ om om hv.1 hv.2 om) λhc=>Wb ⟨om,hcp⟩
  refine Ix h0 hc λx _=>Ix h0 hc λy _=>Wi (λ_=>Ix h0 hc λz hz=>Wa (Zw7 m _ _ om) λr hr=>Ix h0 hc λu hu=>Wa (Zw7 r _ _ om) λs hs=>Wb ⟨om,λv hv=>?_⟩) λ_=>Wb ⟨om,hcp⟩
  rcases hs.2 v hv with h|⟨e,g⟩
  rcases hr.2 v h with h2|⟨e,g⟩
  exact hcp v h2;exact .inr ⟨e▸g,z,hz,.inl e⟩;exact .inr ⟨e▸g,u,hu,.inr e⟩
def Z6c (l:List Za) (a:Int) (hb:l.length≤1000000):Ok (Zh6 l a) λr=>r.length≤1+2*l.length∧∀ v,v∈r→Cp l a v:=by
 have hf:=Z6
 exact Wa (Zab6 l a hb _ [0] 0 om om sM (λv hv=>.inl (Wl.1 hv)) om) λv hv=>Wb hv
def Z87 (l:List Za) (a:Int) (hb:l.length≤1000000) (n:Nat):∀ i:Int,0≤i→i≤l.length→(l.length-i).toNat<n→Ok (Zi1 l a n i) λ_=>True:=by
 induction n with
 |zero=>omega
 |succ n ih=>
  intro i h0 h1 hn;unfold Zi1
  (with_reducible repeat' first|omega|apply Lf|apply Wb|omega|apply Wx|apply Wi|(rw[wn h0 om om];grind)|apply Ix|omega|apply Wa (p:=λ_=>True)|omega|intro o|grind|omega)<;>omega
def Ziw (l:List Za) (a:Int) (hb:l.length≤1000000):Ok (Zfv l a) λ_=>True:=by
 have hf:=Z6;unfold Zfv
 (with_reducible repeat' first|omega|omega|apply Wb|omega|grind|grind|refine Wa (Z87 l a hb _ 0 om om om) λo ho=>?_|grind|omega|grind|omega|intro o|omega|(rcases o with o|o))<;>omega
structure CtR (s:List Int) (t:Int) (y:Za):Prop where
 sk:Zbg y
 lo:∃ v,v∈s∧y.Lo=wrap .u32 v
 hi:y.Hi=wrap .u32 (wrap .u64 t)∨∃ v,v∈s∧y.Hi=wrap .u32 (wrap .u64 (v-1))
def Zafj (l m:List Za) (a b:Int) (s:List Int) (hl:l.length≤400000) (hm:m.length≤400000) (hs:s.length≤2000000) (n:Nat):∀ w (i:Int),0≤i→i≤s.length→w.length≤i→(∀ y∈w,CtR s b y)→(s.length-i).toNat<n→Ok (Zg1 l m a b s n w i) λr=>r.length≤s.length∧∀ y∈r,CtR s b y:=by
 have hlim:=lim_eq
 induction n with
 |zero=>omega
 |succ n ih=>
  intro w i h0 h1 hw hy hn;unfold Zg1;rw[wi (i+1) om om,wi (w.length-1) om om]
  refine Wx (λhc=>?_) λhc=>Wb ⟨om,hy⟩
  refine Wa (p:=λv=>v.length≤i+1∧∀ y∈v,CtR s b y) ?_ λv ⟨hv,hvy⟩=>ih _ _ om om hv hvy om
  refine Wa (p:=λv=>v=wrap .u64 b∨∃ x,x∈s∧v=wrap .u64 (x-1)) (Wx (λh=>Ix om h λx hx=>Wb (.inr ⟨x,hx,rfl⟩)) λ_=>Wb (.inl rfl)) λv he=>Ix h0 hc λx _=>Wa (Ziw _ _ om) λr _=>Ix h0 hc λy _=>Wa (Ziw _ _ om) λr2 _=>Lf ?_
  refine Wa (p:=λ_=>True) (by(with_reducible repeat' first|omega|apply Lf|apply Wb|omega|omega|apply Wi|apply Ix|apply SIx|grind|intro o ho|intro o|dsimp only|grind)) λv2 _=>Wi (λ_=>Wb ⟨om,hy⟩) λ_=>Lf ?_
  refine Wa (p:=λv=>v=true→0<w.length) (Wi (λh=>?_) λ_=>Wb sM) λv3 hv3=>Wi (λh=>Ix gD om λx hx=>Wb ⟨sO,λy hyy=>?_⟩) λ_=>Ix h0 hc λx hxs=>Ap sO (Wb ⟨sO,λy hyy=>?_⟩)
  have h:0<w.length:=gD
  exact Ix om om λx _=>Ix h0 hc λy _=>Wb λ_=>h
  rcases Wae hyy with g|g
  exact hy y g;have q:=hy x hx;rw[g];exact⟨⟨q.sk.1,Zc2 _,trivial⟩,q.lo,he.elim gD λ⟨z,hz,e⟩=>.inr ⟨z,hz,by rw[e]⟩⟩
  rcases Wj.1 hyy with g|g
  exact hy y g;rw[Wl.1 g];exact⟨⟨Zc2 _,Zc2 _,trivial⟩,⟨x,hxs,rfl⟩,he.elim gD λ⟨z,hz,e⟩=>.inr ⟨z,hz,by rw[e]⟩⟩
def Zab7 (l m:List Za) (a b:Int) (hl:l.length≤400000) (hm:m.length≤400000):Ok (Zkz l m a b) λr=>r.length≤1+2*(l.length+m.length)∧∀ y∈r,∃ s,(∀ v,v∈s→Cp (l++m) b v)∧CtR s b y:=by
 have hf:=Z6;have hlim:=lim_eq
 refine Waf gD (Waf gD (Wa (Z6c _ _ gD) λs hs=>Wa (Zafj l m a b s hl hm gD _ [] 0 om om sM sM gD) λv hv=>Wb ⟨?_,λy hy=>⟨s,hs.2,hv.2 y hy⟩⟩))
 grind
def Zzt (l m:List Za) (a b:Int) (hl:l.length≤400000) (hm:m.length≤400000):Ok (Zkz l m a b) λr=>r.length≤1+2*(l.length+m.length)∧∀ y∈r,Zbg y:=
 (Zab7 l m a b hl hm).mono λr hr=>⟨hr.1,λy hy=>by obtain⟨_,_,h⟩:=hr.2 y hy;exact h.sk⟩
structure Ct0 (C:List Int) (y:Za):Prop where
 sk:Zbg y
 lo:y.Lo=0∨y.Lo∈C
 hi:y.Hi=4294967295∨y.Hi+1∈C
def Zagw {C:List Int} {l:List Za} (hl:l.length≤400000) (h:∀ y,y∈l→Ct0 C y):Ok (Zd8 l []) λr=>r.length≤1+2*l.length∧∀ y,y∈r→Ct0 C y:=by
 refine Wa (Zab7 l [] _ _ hl sM) λr hr=>Wb ⟨gD,λy hy=>?_⟩
 obtain⟨s,h1,h2⟩:=hr.2 y hy
 have key:∀ v,v∈s→v=0∨(0<v∧v≤4294967295∧v∈C):=by
  intro v hv
  rcases h1 v hv with e|⟨e,z,hz,g⟩
  exact .inl e;rw[Wam]at hz;have q:=h z hz;obtain⟨⟨a1,a2⟩,⟨a3,a4⟩,_⟩:=q.sk;rw[wu64 (x:=4294967295) om om]at e
  rcases g with g|g
  rw[wu64 a1 om]at g
  rcases q.lo with k|k
  exact .inl om
  by_cases h0:v=0
  exact .inl h0;exact .inr ⟨om,e,g▸k⟩;rw[wu64 (x:=z.Hi) a3 om,wu64 om om]at g
  rcases q.hi with k|k
  omega
  grind
 refine⟨h2.sk,?_,?_⟩
 obtain⟨v,hv,e⟩:=h2.lo
 rcases key v hv with k|⟨k1,k2,k3⟩
 rw[k]at e;exact .inl (by rw[e];rfl);rw[wu32 om om]at e;exact .inr (e▸k3)
 rcases h2.hi with e|⟨v,hv,e⟩
 exact .inl (by rw[e,wu64 om om,wu32 om om])
 rcases key v hv with k|⟨k1,k2,k3⟩
 rw[k]at e;exact .inl (by rw[e];kernel_rfl);rw[wu64 om om,wu32 om om]at e
 grind
def Z7q (l m:List Za) (hl:l.length≤400000) (hm:m.length≤400000):Ok (Zd8 l m) λr=>r.length≤1+2*(l.length+m.length)∧∀ y∈r,Zbg y:=Wa (Zzt l m _ _ hl hm) λv hv=>Wb hv
def Z17 (l m:List Za) (hl:l.length≤400000) (hm:m.length≤400000):Ok (Zp9 l m) λr=>r.length≤1+2*(l.length+m.length)∧∀ y∈r,Zbg y:=Wa (Zzt l m _ _ hl hm) λv hv=>Wb hv
def keep_v {l m:List Za} (a:Int) {s:List Int} (hl:l.length≤1000000) (hm:m.length≤1000000) (hs:s.length≤2000000) (ha:s.Pairwise (·<·)) (hr:∀ v∈s,0≤v∧v≤4294967295) (n:Nat):∀(w:List Za) (i:Int),0≤i→i≤s.length→w.length≤i→(∀ y∈w,Zbg y∧y.Lo≤y.Hi)→(s.length-i).toNat<n→Ok (Zg1 l m a 4294967295 s n w i) λr=>∀ y∈r,Zbg y∧y.Lo≤y.Hi:=by
 have hlim:=lim_eq;have hp:=Wau.1 ha
 induction n with
 |zero=>intro w i _ _ _ _ h;omega
 |succ n ih=>
  intro w i h0 h1 hw hy hn;unfold Zg1;rw[wi (i+1) om om,wi (w.length-1) om om]
  refine Wx (λhc=>?_) λhc=>Wb hy
  have hi:i.toNat<s.length:=om
  have hsi:=hr _ (Wv hi)
  refine Wa (p:=λv:List Za=>(v.length:Int)≤i+1∧∀ y∈v,Zbg y∧y.Lo≤y.Hi) ?_ λv ⟨hv,hvy⟩=>ih _ _ om om hv hvy om
  refine Wa (p:=λv=>s[i.toNat]≤v∧v≤4294967295) (Wx (λh=>IxN om h λx hx=>Wb ?_) λ_=>Wb (by rw[wu64 om om];omega)) λv he=>Ix h0 hc λx _=>Wa (Ziw _ _ om) λr _=>Ix h0 hc λy _=>Wa (Ziw _ _ om) λr2 _=>Lf ?_
  have h2:(i+1).toNat<s.length:=om
  rw[Wr h2]at hx;have hx:=Waw hx;have h3:=hp i.toNat (i+1).toNat hi h2 om;have h4:=hr _ (Wv h2);rw[wu64 om om];omega;have eu:wrap .u32 v=v:=wu32 om om
  refine Wa (p:=λ_=>True) (by(with_reducible repeat' first|exact trivial|apply Lf|apply Wb|apply Waf|apply Wx|apply Wi|apply Ix|apply SIx|apply Wa (p:=λ_=>True)|intro o ho|intro o|dsimp only|omega)) λv2 _=>Wi (λ_=>Wb ⟨om,hy⟩) λ_=>Lf ?_
  refine Wa (p:=λv=>v=true→0<w.length∧∃ x,w[((w.length:Int)-1).toNat]? = some x∧wrap .u64 (wrap .u64 x.Hi+1)=s[i.toNat]) (Wi (λh=>?_) λ_=>Wb sM) λv3 hv3=>Wi (λh=>IxN (by have:=(hv3 h).1;omega) om λx hx=>Wb ⟨sO,λy hyy=>?_⟩) λ_=>IxN h0 hc λx hx=>Ap sO (Wb ⟨sO,λy hyy=>?_⟩)
  have h:0<w.length:=by have:=Wb9 h;omega
  refine IxN om om λx hx=>IxN h0 hc λy hy=>Wb λe=>⟨h,x,hx,?_⟩
  rw[Wr hi]at hy;rw[Waw hy];exact Wct.1 e
  rcases Wae hyy with g|g
  exact hy y g;obtain⟨_,x',hx',e⟩:=hv3 h;rw[hx]at hx';cases hx';have q:=hy x (Wq hx);obtain⟨⟨q1,q2⟩,⟨q3,q4⟩,_⟩:=q.1;rw[wu64 (x:=x.Hi) q3 om,wu64 om om]at e;rw[g,eu];exact⟨⟨⟨q1,q2⟩,⟨by dsimp only;omega,by dsimp only;omega⟩,trivial⟩,by have:=q.2;dsimp only;omega⟩
  rcases Wj.1 hyy with g|g
  exact hy y g;rw[Wr hi]at hx;have hx:=Waw hx;rw[Wl.1 g,eu,wu32 om om]
  grind
def Zajp {l:List Za} (hl:l.length≤400000) (h:∀ y∈l,Zbg y∧y.Lo≤y.Hi):Ok (Zd8 l []) λr=>∀ y∈r,Zbg y∧y.Lo≤y.Hi:=by
 have hf:=Z6;have hlim:=lim_eq;unfold Zd8 Zkz;rw[Wb4,Wam]
 refine Wa (Waf gD (Waf gD (Wa (Z90 hl om om λr hr=>?_) λs hs=>Wa (keep_v 0 om (Wec _) (by have:=hs.len;omega) hs.asc hs.rng fuel [] 0 om om sM sM (by have:=hs.len;omega)) λv hv=>Wb hv))) λv hv=>Wb hv
 grind
structure Ct (C:List Int) (y:Za):Prop where
 sk:Zbg y
 lo:y.Lo=0∨y.Lo∈C
 hi:y.Hi=4294967295∨y.Hi+1∈C
 ok:y.Lo≤y.Hi
def Ct.rok {C:List Int} {y:Za} (h:Ct C y):ROk 4294967295 y:=⟨h.sk.1.1,h.ok,by have:=h.sk.2.1.2;omega⟩
def Zab8 {C:List Int} {l:List Za} (hl:l.length≤400000) (h:∀ y,y∈l→Ct C y):Ok (Zd8 l []) λr=>r.length≤1+2*l.length∧∀ y,y∈r→Ct C y:=by
 obtain⟨r,e,h1,h2⟩:=Zagw (C:=C) hl λy hy=>⟨(h y hy).sk,(h y hy).lo,(h y hy).hi⟩
 exact⟨r,e,h1,λy hy=>⟨(h2 y hy).sk,(h2 y hy).lo,(h2 y hy).hi,((Zajp hl λy hy=>⟨(h y hy).sk,(h y hy).ok⟩).get e y hy).2⟩⟩
def Of_v {p:Zn} (ha:sk_u32 p.Addr) (h0:0≤p.Bits) (h1:p.Bits≤32):Ok (Za7 p) λr=>ROk 4294967295 r.1:=by
 obtain⟨s,hs,e⟩:=Zrz p.Bits
 have hk:(32-p.Bits).toNat≤32:=om
 have pw:=Wds 2 hk;unfold Za7 Zcx;rw[hs];simp only[Wc];rw[wu64 (x:=p.Addr) ha.1 gD];have c1:=Wf h0;have c2:=Wf h1;rw[c1,c2];simp only[Wf6,if_true];rw[if_pos om];simp only[Wc]
 by_cases hz:(Int.tmod p.Addr s==0)=true
 rw[hz];have hd:=Int.dvd_of_tmod_eq_zero (Wct.1 hz)
 have hd2:s∣4294967296:=by rw[e h0 h1];exact(We2 (n:=4294967296)).2 pw
 have hsp:0<s:=gD
 obtain⟨x,hx⟩:=hd;obtain⟨y,hy⟩:=hd2
 have hlt:p.Addr+s≤4294967296:=by
  have h2:=ha.2
  have:x<y:=by
   simp_all
  have:=Wcs (show x+1≤y by omega) (Int.le_of_lt hsp)
  grind
 refine Wb ⟨ha.1,?_,?_⟩<;>dsimp only<;>rw[wu64 (x:=p.Addr+s) om om,wu64 om om,wu32 om om]<;>omega
 have hz:(Int.tmod p.Addr s==0)=false:=gD
 rw[hz];exact Wb ⟨dC,dC,dC⟩
def Zyg (x:Int):(strOf [x]).size=1:=by simp[strOf]
def Wg9:=@Int.tdiv_eq_ediv_of_nonneg
def Z45 (k:Nat):∀ n a,k≤17→-9223372036854775808≤a→a<10^(k+1)→k<n→Ok (Zh9 n a) λr=>r.size≤k+1:=by
 induction k with
 |zero=>
  intro n a _ h0 h1 hn;obtain⟨n,rfl⟩:∃ m,n=m+1:=⟨n-1,om⟩
  exact Wx (λ_=>Wb (by rw[Zyg];omega)) λh=>absurd om h
 |succ k ih=>
  intro n a hk h0 h1 hn;obtain⟨n,rfl⟩:∃ m,n=m+1:=⟨n-1,om⟩
  refine Wx (λ_=>Wb (by rw[Zyg];omega)) λh=>?_
  have hp:(10:Int)^(k+1)≤10^18:=by
   have:=Wch (n:=10) om om
   grind
  have ht:Int.tdiv a 10=a / 10:=Wg9 om;rw[ht,wi (a / 10) om om]
  refine Wa (ih n (a / 10) om om om om) λr hr=>Waf (by rw[Zyg];omega) (Wb ?_)
  rw[ByteArray.size_append,Zyg];omega
def pad_ok (a:Int) (h0:-9223372036854775808≤a) (h1:a<10000000000):Ok (Zsl a) λr=>r.size≤11:=by
 have hf:=Z6
 refine Wx (λ_=>Wa (Z45 9 fuel a om h0 om om) λr hr=>Waf ?_ (Wb ?_)) λ_=>Wa (Z45 9 fuel a om h0 gD om) λr hr=>Wb om
 have:(⟨#[48]⟩:ByteArray).size=1:=rfl;omega;have:(⟨#[48]⟩:ByteArray).size=1:=rfl
 grind
def Zaet (a:Int) (h0:-9223372036854775808≤a) (h1:a<10000000000):Ok (Zot a) λr=>r.size≤23:=by
 unfold Zot;have e:(⟨#[58]⟩:ByteArray).size=1:=rfl;have h2:=Int.tmod_lt_of_pos a (show 0<60 by omega)
 have h3:-60<Int.tmod a 60:=by
  grind
 have h4:-9223372036854775808≤Int.tdiv a 60∧Int.tdiv a 60<10000000000:=by
  grind
 rw[wi (Int.tdiv a 60) h4.1 om]
 refine Wa (pad_ok _ h4.1 h4.2) λr hr=>Waf om (Wa (pad_ok _ om om) λs hs=>Waf gD (Wb gD))
def Zab9 (d:Int) (h0:0≤d) (h1:d<7) (l:List Za) (hl:l.length≤100000) (n:Nat):∀ w (i:Int),0≤i→i≤l.length→w.length+3*(l.length-i)≤10000000→(l.length-i).toNat<n→Ok (Zli d l n w i) λr=>r.length≤w.length+3*(l.length-i):=by
 have hlim:=lim_eq
 induction n with
 |zero=>grind
 |succ n ih=>
  intro w i hi0 hi1 hw hn;unfold Zli;rw[wi (i+1) om om]
  refine Wx (λhc=>?_) λhc=>Wb om
  refine Wa (p:=λv=>v.length≤w.length+3) ?_ λv hv=>(ih _ _ om om om om).mono λr hr=>om
  refine Wa (p:=λv=>v.length≤w.length+1) (Wx (λ_=>Ap gD (Wb sM)) λ_=>Wb om) λv hv=>?_
  refine Lf (Ix h0 gD λx _=>Ix hi0 hc λy _=>?_)
  have g1:=Zc2 (y.Lo-wrap .u32 (wrap .i64 (1440*d)));have e:(⟨#[45]⟩:ByteArray).size=1:=rfl;rw[wi (wrap .u32 (y.Lo-wrap .u32 (wrap .i64 (1440*d)))) om om]
  refine Wa (Zaet _ om om) λr hr=>Waf om (Ix hi0 hc λz _=>?_)
  have g3:=Zc2 (z.Hi-wrap .u32 (wrap .i64 (1440*d)));rw[wi (wrap .u32 (z.Hi-wrap .u32 (wrap .i64 (1440*d)))) om om,wi (wrap .u32 (z.Hi-wrap .u32 (wrap .i64 (1440*d)))+1) om om]
  refine Wa (Zaet _ om om) λs hs=>Waf gD (Ap gD (Wb gD))
def Zaca (l:List Za) (hl:l.length≤10000) (n:Nat):∀ w (d:Int),0≤d→d≤7→w.length≤100000*d→(7-d).toNat<n→Ok (Zqa l n w d) λr=>r.length≤700000:=by
 induction n with
 |zero=>omega
 |succ n ih=>
  intro w d h0 h1 hw hn;have hf:=Z6
  refine Wx (λhc=>?_) λhc=>Wb om
  rw[wi (d+1) om om]
  refine Wa (Z17 l _ om sM) λr hr=>?_
  have hr1:=hr.1
  simp at hr1
  exact Wa (Zab9 d h0 hc r om fuel w 0 om om om om) λv hv=>ih _ _ om om om om
def Zaau (l:List Za) (a:Int) (hb:l.length≤1000000) (n:Nat):∀ i:Int,0≤i→i≤l.length→(l.length-i).toNat<n→Ok (Zm0 l a n i) λ_=>True:=by
 induction n with
 |zero=>omega
 |succ n ih=>
  intro i h0 h1 hn;unfold Zm0;rw[wi (i-1) om om]
  (with_reducible repeat' first|omega|apply Lf|apply Wb|omega|apply Wx|apply Wi|(rw[wn h0 om om])|apply Ix|omega|apply Wa (p:=λ_=>True)|omega|intro o|omega|grind)<;>omega
def Z7r (l:List Za) (a:Int) (hb:l.length≤1000000):Ok (Zqi l a) λ_=>True:=by
 have hf:=Z6;unfold Zqi
 (with_reducible repeat' first|omega|omega|apply Wb|omega|grind|grind|refine Wa (Zaau l a hb _ 0 om om om) λo ho=>?_|grind|omega|grind|omega|intro o|omega|(rcases o with o|o))<;>omega
def Z3o (l:List Za) (hl:l.length≤10000):Ok (Zm1 l) λ_=>True:=by
 have hf:=Z6;unfold Zm1 Zk9 Zsv Zk9
 (with_reducible repeat' first|omega|omega|apply Wb|omega|omega|apply Wi|refine Wa (Z7r l _ om) λo ho=>?_|refine Wa (Zaca l hl fuel [] 0 om om sM om) λo ho=>?_|omega|omega|apply Wa (p:=λ_=>True)|omega|intro o|omega|grind)
def Z4q {γ:Type} {l:List (Zl)} {i:Int} {f:Zl→Option γ} {q:γ→Prop} (h:Zcb l) (h0:0≤i) (h1:i<l.length) (k:∀ x,x∈l→Zop x→sk_str x.Name→Zvm x.Items→Ok (f x) q):Ok ((AM.idx l i).bind f) q:=Wa (Wd0 h0 h1 λ_ h=>h) λx g=>have h:=h.2 x g;k x g h h.1 h.2.1
def Zaav {γ:Type} {l:List (Z5)} {i:Int} {f:Z5→Option γ} {q:γ→Prop} (h:Zq2 l) (h0:0≤i) (h1:i<l.length) (k:∀ x,x∈l→Z1h x→sk_str x.Name→sk_i64 x.Capacity→sk_str x.Class→Ok (f x) q):Ok ((AM.idx l i).bind f) q:=Wa (Wd0 h0 h1 λ_ h=>h) λx g=>have h:=h.2 x g;k x g h h.1 h.2.1 h.2.2.2.2.1
def Zyy {γ:Type} {l:List (Z2)} {i:Int} {f:Z2→Option γ} {q:γ→Prop} (h:Z1i l) (h0:0≤i) (h1:i<l.length) (k:∀ x,x∈l→Zyw x→sk_str x.Name→sk_i64 x.Device→sk_str x.Zone→sk_u32 x.Prefix.Addr→sk_i64 x.Prefix.Bits→Ok (f x) q):Ok ((AM.idx l i).bind f) q:=Wa (Wd0 h0 h1 λ_ h=>h) λx g=>have h:=h.2 x g;k x g h h.1 h.2.1 h.2.2.1 h.2.2.2.1.1 h.2.2.2.1.2.1
def Z1o {γ:Type} {l:List (Zbf)} {i:Int} {f:Zbf→Option γ} {q:γ→Prop} (h:Zyb l) (h0:0≤i) (h1:i<l.length) (k:∀ x,x∈l→Zp5 x→sk_str x.Group→sk_str x.Edge→sk_u32 x.Addr→sk_u32 x.Ports.Lo→sk_u32 x.Ports.Hi→Ok (f x) q):Ok ((AM.idx l i).bind f) q:=Wa (Wd0 h0 h1 λ_ h=>h) λx g=>have h:=h.2 x g;k x g h h.1 h.2.1 h.2.2.1 h.2.2.2.1.1 h.2.2.2.1.2.1
def Zadn {γ:Type} {l:List (Z0)} {i:Int} {f:Z0→Option γ} {q:γ→Prop} (h:Zvm l) (h0:0≤i) (h1:i<l.length) (k:∀ x,x∈l→Zsh x→sk_i64 x.Kind→sk_str x.Name→sk_u32 x.Prefix.Addr→sk_i64 x.Prefix.Bits→sk_i64 x.Proto→sk_u32 x.Ports.Lo→sk_u32 x.Ports.Hi→Ok (f x) q):Ok ((AM.idx l i).bind f) q:=Wa (Wd0 h0 h1 λ_ h=>h) λx g=>have h:=h.2 x g;k x g h h.1 h.2.1 h.2.2.1.1 h.2.2.1.2.1 h.2.2.2.1 h.2.2.2.2.1.1 h.2.2.2.2.1.2.1
def Zss {γ:Type} {l:List (Zn)} {i:Int} {f:Zn→Option γ} {q:γ→Prop} (h:Zee l) (h0:0≤i) (h1:i<l.length) (k:∀ x,x∈l→Zha x→sk_u32 x.Addr→sk_i64 x.Bits→Ok (f x) q):Ok ((AM.idx l i).bind f) q:=Wa (Wd0 h0 h1 λ_ h=>h) λx g=>have h:=h.2 x g;k x g h h.1 h.2.1
def Zzu {γ:Type} {l:List (Za4)} {i:Int} {f:Za4→Option γ} {q:γ→Prop} (h:Zp3 l) (h0:0≤i) (h1:i<l.length) (k:∀ x,x∈l→Zry x→sk_u32 x.Addr→sk_i64 x.Proto→sk_i64 x.Port→sk_str x.Edge→sk_u32 x.Real→sk_i64 x.RealPort→Ok (f x) q):Ok ((AM.idx l i).bind f) q:=Wa (Wd0 h0 h1 λ_ h=>h) λx g=>have h:=h.2 x g;k x g h h.1 h.2.1 h.2.2.1 h.2.2.2.1 h.2.2.2.2.1 h.2.2.2.2.2.1
def Z6d {γ:Type} {l:List (Zam)} {i:Int} {f:Zam→Option γ} {q:γ→Prop} (h:Zvf l) (h0:0≤i) (h1:i<l.length) (k:∀ x,x∈l→Zs9 x→sk_str x.From→sk_str x.To→sk_str x.Service→sk_str x.ExceptFrom→sk_str x.ExceptTo→sk_str x.Class→sk_str x.During→sk_i64 x.Priority→Ok (f x) q):Ok ((AM.idx l i).bind f) q:=Wa (Wd0 h0 h1 λ_ h=>h) λx g=>have h:=h.2 x g;k x g h h.2.1 h.2.2.1 h.2.2.2.1 h.2.2.2.2.2.1 h.2.2.2.2.2.2.1 h.2.2.2.2.2.2.2.1 h.2.2.2.2.2.2.2.2.1 h.2.2.2.2.2.2.2.2.2.1
def Zaaw {γ:Type} {l:List (Zbl)} {i:Int} {f:Zbl→Option γ} {q:γ→Prop} (h:Zq3 l) (h0:0≤i) (h1:i<l.length) (k:∀ x,x∈l→Z1j x→sk_str x.Name→Zk3 x.Active→Ok (f x) q):Ok ((AM.idx l i).bind f) q:=Wa (Wd0 h0 h1 λ_ h=>h) λx g=>have h:=h.2 x g;k x g h h.1 h.2.1
def Zxj (a0:ByteArray) (ha0:sk_str a0) (n:Nat):∀ i:Int,0≤i→i≤a0.size→(a0.size-i).toNat<n→Ok (Zdh a0 n i) (λ_=>True):=by
 induction n with
 |zero=>omega
 |succ n ih=>
  intro i h0 h1 hn;unfold Zdh
  (with_reducible repeat' first|omega|omega|apply Wb|omega|apply Wx|apply Wi|(rw[wn h0 om om])|omega|apply SIx|apply Wa (p:=λ_=>True)|omega|intro o|omega|omega)<;>first|grind|omega|grind|omega|omega|grind|grind
def Zcd (a0:ByteArray) (ha0:sk_str a0):Ok (Zac a0) (λ_=>True):=by
 have hf:=Z6;unfold Zac
 (with_reducible repeat' first|omega|apply Lf|apply Wb|grind|omega|apply Wi|refine Wa (Zxj _ gD _ 0 om om om) λo ho=>?_|grind|grind|omega|grind|intro o|omega|(rcases o with o|o))<;>first|omega|omega|grind|grind|omega|grind|grind
def Z0s (a0:Zb) (a1:ByteArray) (ha0:Zbc a0) (ha1:sk_str a1) (n:Nat):∀ i:Int,0≤i→i≤a0.Devices.length→(a0.Devices.length-i).toNat<n→Ok (Zcz a0 a1 n i) (Ri λr=>0≤r∧r<a0.Devices.length):=by
 induction n with
 |zero=>omega
 |succ n ih=>
  intro i h0 h1 hn;unfold Zcz
  (with_reducible repeat' first|omega|omega|apply Wb|omega|apply Wx|apply Wi|omega|(rw[wn h0 om om];exact ih _ om om om)|apply Ix|omega|omega|omega|intro o|omega|omega)<;>first|omega|omega|omega|with_reducible exact Ri.l|omega|with_reducible exact Wg7 om|omega
def Z4r (a0:Zb) (a1:ByteArray) (ha0:Zbc a0) (ha1:sk_str a1):Ok (Ze0 a0 a1) (λr=>-1≤r∧r<a0.Devices.length):=by
 have hf:=Z6;unfold Ze0
 (with_reducible repeat' first|omega|omega|apply Wb|omega|omega|omega|refine Wa (Z0s _ _ om om _ 0 om om om) λo ho=>?_|omega|omega|omega|omega|intro o|omega|(rcases(o:_⊕_)with o|o))<;>first|omega|omega|omega|omega|omega|omega|(with_reducible have:=Ri.o ho;omega)
def Zvn (a0:Ys) (ha0:Zq2 a0) (n:Nat):∀ i:Int,0≤i→i≤a0.length→(a0.length-i).toNat<n→Ok (Zbt a0 n i) (λ_=>True):=by
 have hf:=Z6;have hb:a0.length≤1000000:=ha0.1
 induction n with
 |zero=>intro i _ _ h;omega
 |succ n ih=>
  intro i h0 h1 hn;unfold Zbt
  (with_reducible repeat' first|exact trivial|apply Lf|apply Wb|apply Waf|apply Wx|apply Wi|refine Wa (Zcd _ gD) λo ho=>?_|refine Wa (Z4r _ _ (by repeat' (first|assumption|exact trivial|omega|exact sub_ok aS|exact nil_ok|with_reducible refine And.intro ?_ ?_|(unfold sk_str;decide)|(simp;done))) (by repeat' (omega))) λo ho=>?_|refine Zaav aS ?_ ?_ (λx _ _ _ _ _=>?_)|(rw[wn h0 aS om];exact ih _ om om om)|apply Ix|apply SIx|apply Wa (p:=λ_=>True)|intro o ho|intro o|dsimp only|(apply Ok.id;rcases(o:_⊕_)with o|o))<;>first|with_reducible assumption|omega|with_reducible exact⟨aS,om⟩|with_reducible exact Ri.l|with_reducible exact Wg7 trivial|with_reducible exact Wg7 om|(with_reducible have:=Ri.o ho;omega)
def Zxk (a0:Ys) (ha0:Zq2 a0):Ok (Zcr a0) (λ_=>True):=by
 have hf:=Z6;unfold Zcr
 (with_reducible repeat' first|omega|apply Lf|apply Wb|omega|omega|apply Wi|refine Wa (Zvn _ om _ 0 om om om) λo ho=>?_|omega|omega|grind|omega|intro o|omega|(rcases o with o|o))<;>first|grind|omega|grind|grind|omega|omega|grind
def Z0t (a0:Z2) (a1:Int) (ha0:Zyw a0):Ok (Zdk a0 a1) (λ_=>True):=by
 unfold Zdk
 (with_reducible repeat' first|omega|apply Lf|apply Wb|omega|omega|apply Wi|refine Wa (Zcd _ gD) λo ho=>?_|refine Wa (Zq4 _) λo ho=>?_|omega|omega|apply Wa (p:=λ_=>True)|omega|intro o|omega|grind)<;>first|grind|omega|grind|omega|omega|grind|grind
def Z3p (a0:Zb) (a1:ByteArray) (ha0:Zbc a0) (ha1:sk_str a1) (n:Nat):∀ i:Int,0≤i→i≤a0.Edges.length→(a0.Edges.length-i).toNat<n→Ok (Zde a0 a1 n i) (Ri λr=>0≤r∧r<a0.Edges.length):=by
 induction n with
 |zero=>omega
 |succ n ih=>
  intro i h0 h1 hn;unfold Zde
  (with_reducible repeat' first|omega|omega|apply Wb|omega|apply Wx|apply Wi|omega|(rw[wn h0 om om];exact ih _ om om om)|apply Ix|omega|omega|omega|intro o|omega|omega)<;>first|omega|omega|omega|with_reducible exact Ri.l|omega|with_reducible exact Wg7 om|omega
def Zjr (a0:Zb) (a1:ByteArray) (ha0:Zbc a0) (ha1:sk_str a1):Ok (Zcg a0 a1) (λr=>-1≤r∧r<a0.Edges.length):=by
 have hf:=Z6;unfold Zcg
 (with_reducible repeat' first|omega|omega|apply Wb|omega|omega|omega|refine Wa (Z3p _ _ om om _ 0 om om om) λo ho=>?_|omega|omega|omega|omega|intro o|omega|(rcases(o:_⊕_)with o|o))<;>first|omega|omega|omega|omega|omega|omega|(with_reducible have:=Ri.o ho;omega)
def Z18 (a0:Zb) (ha0:Zbc a0) (n:Nat):∀ w i,Zee w→(w.length:Int)≤i→0≤i→i≤a0.Edges.length→(a0.Edges.length-i).toNat<n→Ok (Zcl a0 n w i) (λr=>Zee r∧r.length≤a0.Edges.length):=by
 have hl:=lim_eq;have⟨_,_,_,_,_,_⟩:=ha0
 induction n with
 |zero=>omega
 |succ n ih=>
  intro w i hs hz h0 h1 hn;unfold Zcl
  (with_reducible repeat' first|omega|apply Lf|apply Wb|apply Waf|apply Wx|apply Wi|refine Zyy aS ?_ ?_ (λx _ _ _ _ _ _ _=>?_)|refine Wa (p:=λv=>Zee v∧(v.length:Int)≤i+1) ?_ (λv ⟨hv,hw⟩=>?_)|(rw[wn h0 aS om];refine ih _ _ ?_ ?_ om om om)|apply Ix|apply SIx|omega|intro o ho|intro o|dsimp only|omega)<;>first|omega|omega|omega|(refine⟨⟨sO,λy hy=>?_⟩,sO⟩;rcases Wj.1 hy with hy|hy;exact hs.2 y hy;rw[Wl.1 hy];exact(by repeat' (first|assumption|exact trivial|omega|omega|exact nil_ok|with_reducible refine And.intro ?_ ?_)))|omega|exact⟨hs,om⟩|(simp;omega)
def Zw8 (a0:Zb) (ha0:Zbc a0):Ok (Zdl a0) (λr=>Zee r∧r.length≤a0.Edges.length):=by
 have hf:=Z6;unfold Zdl
 (with_reducible repeat' first|omega|omega|apply Wb|omega|omega|omega|refine Wa (Z18 _ om _ [] 0 nil_ok sM om om om) λo ⟨ho,hp⟩=>?_|grind|omega|omega|grind|intro o|omega|omega)<;>first|omega|omega|grind|omega|grind|omega|omega
def Z19 (a0:Zn) (a1:Yl) (ha0:Zha a0) (ha1:Zee a1) (n:Nat):∀ i:Int,0≤i→i≤a1.length→(a1.length-i).toNat<n→Ok (Zfb a0 a1 n i) (λ_=>True):=by
 induction n with
 |zero=>omega
 |succ n ih=>
  intro i h0 h1 hn;unfold Zfb
  (with_reducible repeat' first|omega|omega|apply Wb|omega|simp_all|apply Wi|refine Wa (Z8z _ _ om om) λo ho=>?_|refine Zss om ?_ ?_ (λx _ _ _ _=>?_)|(rw[wn h0 om om])|omega|omega|omega|omega|intro o|omega|omega)<;>first|grind|omega|grind|omega|omega|omega|omega
def Zw9 (a0:Zn) (a1:Yl) (ha0:Zha a0) (ha1:Zee a1):Ok (Zh8 a0 a1) (λ_=>True):=by
 have hf:=Z6;unfold Zh8
 (with_reducible repeat' first|omega|omega|apply Wb|omega|omega|grind|refine Wa (Z19 _ _ gD om _ 0 om om om) λo ho=>?_|omega|omega|grind|omega|intro o|omega|(rcases o with o|o))<;>first|omega|omega|omega|grind|omega|omega|grind
def Z2a (a0:Zb) (ha0:Zbc a0) (n:Nat):∀ i:Int,0≤i→i≤a0.Links.length→(a0.Links.length-i).toNat<n→Ok (Zcm a0 n i) (λ_=>True):=by
 induction n with
 |zero=>omega
 |succ n ih=>
  intro i h0 h1 hn;unfold Zcm
  (with_reducible repeat' first|omega|omega|apply Wb|omega|apply Wx|apply Wi|omega|(rw[wn h0 om om];exact ih _ om om om)|apply Ix|omega|omega|omega|intro o|dsimp |omega)<;>first|grind|omega|grind|omega|grind|grind|omega
def Z2b (a0:Zb) (ha0:Zbc a0) (n:Nat):∀ i:Int,0≤i→i≤a0.Edges.length→(a0.Edges.length-i).toNat<n→Ok (Zcn a0 n i) (λ_=>True):=by
 have⟨_,_,_,_,_,_⟩:=ha0
 induction n with
 |zero=>intro i _ _ h;omega
 |succ n ih=>
  intro i h0 h1 hn;unfold Zcn
  (with_reducible repeat' first|exact trivial|apply Lf|apply Wb|apply Waf|apply Wx|apply Wi|refine Wa (Z0t _ _ om) λo ho=>?_|refine Wa (Zjr _ _ om om) λo ho=>?_|refine Zyy aS ?_ ?_ (λx _ _ _ _ _ _ _=>?_)|(rw[wn h0 aS om];exact ih _ om om om)|apply Ix|apply SIx|apply Wa (p:=λ_=>True)|intro o ho|intro o|dsimp only|omega)<;>first|grind|omega|omega|with_reducible exact Ri.l|omega|grind|omega
def Z2c (r69:Yl) (hr69:Zee r69) (n:Nat):∀ i:Int,0≤i→i≤r69.length→(r69.length-i).toNat<n→Ok (Zco r69 n i) (λ_=>True):=by
 induction n with
 |zero=>omega
 |succ n ih=>
  intro i h0 h1 hn;unfold Zco
  (with_reducible repeat' first|omega|apply Lf|apply Wb|omega|apply Wx|apply Wi|refine Wa (Zw9 _ _ om (by repeat' (first|assumption|grind|omega|grind|omega|omega))) λo ho=>?_|refine Zss aS ?_ ?_ (λx _ _ _ _=>?_)|(rw[wn h0 aS om])|apply Ix|apply SIx|omega|intro o ho|intro o|dsimp only|omega)<;>first|grind|omega|omega|grind|grind|omega|grind
def Z2d (a0:Zb) (ha0:Zbc a0) (n:Nat):∀ i:Int,0≤i→i≤a0.Pools.length→(a0.Pools.length-i).toNat<n→Ok (Zc6 a0 n i) (λ_=>True):=by
 have⟨_,_,_,_,_,_⟩:=ha0
 induction n with
 |zero=>omega
 |succ n ih=>
  intro i h0 h1 hn;unfold Zc6
  (with_reducible repeat' first|omega|apply Lf|apply Wb|apply Waf|apply Wx|apply Wi|refine Wa (Zq4 _) λo ho=>?_|refine Wa (Zw9 _ _ om (by repeat' (first|assumption|exact trivial|omega|exact sub_ok aS|exact nil_ok|grind))) λo ho=>?_|refine Zss aS ?_ ?_ (λx _ _ _ _=>?_)|(rw[wn h0 aS om];exact ih _ om om om)|apply Ix|apply SIx|apply Wa (p:=λ_=>True)|intro o ho|intro o|dsimp only|omega)<;>first|omega|omega|omega|grind|omega|omega|omega
def Zta (a0:Zb) (ha0:Zbc a0):Ok (Zc3 a0) (λ_=>True):=by
 have hf:=Z6;have hl:=lim_eq;have hb0:a0.Edges.length≤1000000:=ha0.2.2.1.1;have hb1:a0.Links.length≤1000000:=ha0.2.1.1;have hb2:a0.Pools.length≤1000000:=ha0.2.2.2.1.1;have hd0:a0.Devices.length≤1000000:=ha0.1.1;have hd1:a0.Edges.length≤1000000:=ha0.2.2.1.1;have hd2:a0.Links.length≤1000000:=ha0.2.1.1;have hd3:a0.Pools.length≤1000000:=ha0.2.2.2.1.1;have⟨_,_,_,_,_,_⟩:=ha0;unfold Zc3
 (with_reducible repeat' first|exact trivial|apply Lf|apply Wb|apply Waf|apply Wx|apply Wi|refine Wa (Zxk _ om) λo ho=>?_|refine Wa (Z2a _ om _ 0 om om om) λo ho=>?_|refine Wa (Z2b _ om _ 0 om om om) λo ho=>?_|refine Wa (Zw8 _ om) λo ⟨ho,hp⟩=>?_|refine Wa (Z2c _ om _ 0 om om om) λo ho=>?_|refine Wa (Z2d _ om _ 0 om om om) λo ho=>?_|apply Ix|apply SIx|apply Wa (p:=λ_=>True)|intro o ho|intro o|dsimp only|(apply Ok.id;rcases(o:_⊕_)with o|o))<;>first|with_reducible assumption|omega|with_reducible exact⟨aS,om⟩|with_reducible exact Ri.l|with_reducible exact Wg7 trivial|with_reducible exact Wg7 om|(with_reducible have:=Ri.o ho;omega)
def Z2e (a0:Zb) (ha0:Zbc a0):Ok (Zaz a0) (λ_=>True):=by
 unfold Zaz
 (with_reducible repeat' first|omega|omega|apply Wb|omega|omega|apply Wi|refine Wa (Zta _ om) λo ho=>?_|refine Wa (Zw8 _ om) λo ⟨ho,hp⟩=>?_|omega|omega|simp_all|omega|intro o|omega|omega)<;>first|omega|omega|omega|omega|omega|omega|grind
def Z3q (a0:Ye) (a1:ByteArray) (ha0:Zcb a0) (ha1:sk_str a1) (n:Nat):∀ i:Int,0≤i→i≤a0.length→(a0.length-i).toNat<n→Ok (Zij a0 a1 n i) (Ri λr=>0≤r∧r<a0.length):=by
 induction n with
 |zero=>omega
 |succ n ih=>
  intro i h0 h1 hn;unfold Zij
  (with_reducible repeat' first|omega|apply Lf|apply Wb|omega|simp_all|apply Wi|omega|(rw[wn h0 om om];exact ih _ om om om)|apply Ix|omega|omega|omega|intro o|omega|omega)<;>first|omega|omega|omega|with_reducible exact Ri.l|omega|with_reducible exact Wg7 om|grind
def Zyh (a0:Ye) (a1:ByteArray) (ha0:Zcb a0) (ha1:sk_str a1):Ok (Zc0 a0 a1) (λr=>-1≤r∧r<a0.length):=by
 have hf:=Z6;unfold Zc0
 (with_reducible repeat' first|omega|omega|apply Wb|omega|omega|omega|refine Wa (Z3q _ _ om om _ 0 om om om) λo ho=>?_|omega|omega|omega|omega|intro o|omega|(rcases(o:_⊕_)with o|o))<;>first|omega|omega|omega|omega|omega|omega|(with_reducible have:=Ri.o ho;omega)
def Zxa (a0:Za) (a1:Int) (ha0:Zbg a0):Ok (Zk8 a0 a1) (λ_=>True):=by
 unfold Zk8
 (with_reducible repeat' first|grind|apply Lf|apply Wb|grind|grind|grind|grind|grind|omega|omega|intro o|omega|grind)<;>first|grind|omega|omega|omega|grind|grind|grind
def Z0u (a0:Z0) (a1:Bool) (ha0:Zsh a0):Ok (Zj7 a0 a1) (λ_=>True):=by
 unfold Zj7
 (with_reducible repeat' first|exact trivial|apply Lf|apply Wb|apply Waf|apply Wx|apply Wi|refine Wa (Zcd _ om) λo ho=>?_|refine Wa (Zq4 _) λo ho=>?_|refine Wa (Zxa _ _ gD) λo ho=>?_|apply Ix|apply SIx|apply Wa (p:=λ_=>True)|intro o ho|intro o|dsimp only|(rcases o with o|o))<;>first|grind|omega|omega|omega|omega|omega|grind
def Ztb (a0:Ye) (a1:Bool) (v1:Int) (x104:Zl) (ha0:Zcb a0) (hx104:Zop x104) (gx104:AM.idx a0 v1=some x104) (n:Nat):∀ i:Int,0≤i→i≤x104.Items.length→(x104.Items.length-i).toNat<n→Ok (Zc1 a0 a1 v1 n i) (λ_=>True):=by
 have hf:=Z6;have⟨_,_,_⟩:=hx104
 induction n with
 |zero=>intro i _ _ h;omega
 |succ n ih=>
  intro i h0 h1 hn;unfold Zc1;rw[gx104]
  (with_reducible repeat' first|exact trivial|apply Lf|apply Wb|apply Waf|apply Wx|apply Wi|refine Wa (Z0u _ _ om) λo ho=>?_|omega|refine Zadn aS ?_ ?_ (λx _ _ _ _ _ _ _ _ _=>?_)|(rw[wn h0 aS om];exact ih _ om om om)|apply Ix|apply SIx|apply Wa (p:=λ_=>True)|intro o ho|intro o|dsimp only|grind)<;>first|with_reducible assumption|omega|grind|with_reducible exact Ri.l|with_reducible exact Wg7 trivial|grind|omega
def Zuc (a0:Ye) (a1:Bool) (v1:Int) (ha0:Zcb a0) (g0:0≤v1) (g1:v1<a0.length):Ok (Zc1 a0 a1 v1 fuel 0) (λ_=>True):=by
 have hf:=Z6;obtain⟨x104,gx104,hx104⟩:=idx_ok (ha0) g0 g1;exact Ztb a0 a1 v1 x104 ha0 (hx104) gx104 _ 0 om om om
def Zud (a0:Ye) (a1:Bool) (ha0:Zcb a0) (n:Nat):∀ i:Int,0≤i→i≤a0.length→(a0.length-i).toNat<n→Ok (Zd9 a0 a1 n i) (λ_=>True):=by
 have hf:=Z6
 induction n with
 |zero=>intro i _ _ h;omega
 |succ n ih=>
  intro i h0 h1 hn;unfold Zd9
  (with_reducible repeat' first|exact trivial|apply Lf|apply Wb|apply Waf|apply Wx|apply Wi|refine Wa (Zcd _ om) λo ho=>?_|refine Wa (Zyh _ _ om om) λo ho=>?_|refine Wa (Zuc _ _ _ om om om) λo ho=>?_|refine Z4q aS ?_ ?_ (λx _ _ _ _=>?_)|(rw[wn h0 aS om];exact ih _ om om om)|apply Ix|apply SIx|apply Wa (p:=λ_=>True)|intro o ho|intro o|dsimp only|(apply Ok.id;rcases(o:_⊕_)with o|o))<;>first|with_reducible assumption|omega|grind|with_reducible exact Ri.l|with_reducible exact Wg7 trivial|with_reducible exact Wg7 om|(with_reducible have:=Ri.o ho;omega)
def Zvh (a0:Ye) (a1:Bool) (ha0:Zcb a0):Ok (Zdf a0 a1) (λ_=>True):=by
 have hf:=Z6;unfold Zdf
 (with_reducible repeat' first|omega|omega|apply Wb|omega|omega|apply Wi|refine Wa (Zud _ _ om _ 0 om om om) λo ho=>?_|apply Ix|omega|omega|omega|intro o|dsimp |(rcases o with o|o))<;>first|omega|omega|omega|grind|grind|omega|grind
def Zxb (a0:Yt) (a1:ByteArray) (ha0:Zq3 a0) (ha1:sk_str a1) (n:Nat):∀ i:Int,0≤i→i≤a0.length→(a0.length-i).toNat<n→Ok (Zgk a0 a1 n i) (Ri λr=>0≤r∧r<a0.length):=by
 induction n with
 |zero=>omega
 |succ n ih=>
  intro i h0 h1 hn;unfold Zgk
  (with_reducible repeat' first|omega|omega|apply Wb|omega|simp_all|apply Wi|omega|(rw[wn h0 om om];exact ih _ om om om)|apply Ix|omega|omega|omega|intro o|omega|omega)<;>first|omega|omega|omega|with_reducible exact Ri.l|omega|with_reducible exact Wg7 om|grind
def Zo5 (a0:Yt) (a1:ByteArray) (ha0:Zq3 a0) (ha1:sk_str a1):Ok (Zef a0 a1) (λr=>-1≤r∧r<a0.length):=by
 have hf:=Z6;unfold Zef
 (with_reducible repeat' first|omega|omega|apply Wb|omega|omega|omega|refine Wa (Zxb _ _ om om _ 0 om om om) λo ho=>?_|omega|omega|omega|omega|intro o|omega|(rcases(o:_⊕_)with o|o))<;>first|omega|omega|omega|omega|grind|omega|(with_reducible have:=Ri.o ho;omega)
def Z2f (a0:ByteArray) (ha0:sk_str a0):Ok (Zb9 a0) (λ_=>True):=by
 unfold Zb9
 (with_reducible repeat' first|omega|apply Lf|apply Wb|grind|omega|apply Wi|refine Wa (Zcd _ gD) λo ho=>?_|grind|omega|apply Wa (p:=λ_=>True)|omega|intro o|omega|grind)<;>first|omega|omega|grind|grind|omega|omega|grind
def Zv3 (a0:Zam) (ha0:Zs9 a0):Ok (Zgd a0) (λ_=>True):=by
 unfold Zgd
 (with_reducible repeat' first|omega|apply Lf|apply Wb|omega|omega|apply Wi|refine Wa (Z2f _ om) λo ho=>?_|omega|omega|apply Wa (p:=λ_=>True)|omega|intro o|omega|omega)<;>first|grind|omega|grind|omega|omega|grind|omega
def Z7s (a0:Int) :Ok (Zm2 a0) (λ_=>True):=by
 unfold Zm2
 (with_reducible repeat' first|grind|apply Lf|apply Wb|grind|grind|grind|grind|grind|omega|omega|intro o|omega|omega)<;>first|grind|omega|omega|omega|grind|grind|grind
def Z2g (a0:Zs) (ha0:Zfp a0) (hw:∀ w∈a0.Windows,w.Active.length≤10000) (n:Nat):∀ i:Int,0≤i→i≤a0.Windows.length→(a0.Windows.length-i).toNat<n→Ok (Zlj a0 n i) (λ_=>True):=by
 have hf:=Z6;have⟨_,_,_,_,_,_,_⟩:=ha0
 induction n with
 |zero=>intro i _ _ h;omega
 |succ n ih=>
  intro i h0 h1 hn;unfold Zlj
  (with_reducible repeat' first|exact trivial|apply Lf|apply Wb|apply Waf|apply Wx|apply Wi|refine Wa (Zcd _ om) λo ho=>?_|refine Wa (Zo5 _ _ om om) λo ho=>?_|refine Wa (Z3o _ (by first|omega|exact hw _ aS)) λo ho=>?_|refine Zaaw aS ?_ ?_ (λx _ _ _ _=>?_)|(rw[wn h0 aS om];exact ih _ om om om)|apply Ix|apply SIx|apply Wa (p:=λ_=>True)|intro o ho|intro o|dsimp only|omega)<;>first|with_reducible assumption|omega|grind|with_reducible exact Ri.l|with_reducible exact Wg7 trivial|with_reducible exact Wg7 om|(with_reducible have:=Ri.o ho;omega)
def Z2h (a0:Zs) (ha0:Zfp a0) (n:Nat):∀ i:Int,0≤i→i≤a0.Statements.length→(a0.Statements.length-i).toNat<n→Ok (Zlk a0 n i) (λ_=>True):=by
 have hf:=Z6;have⟨_,_,_,_,_,_,_⟩:=ha0
 induction n with
 |zero=>intro i _ _ h;omega
 |succ n ih=>
  intro i h0 h1 hn;unfold Zlk
  (with_reducible repeat' first|exact trivial|apply Lf|apply Wb|apply Waf|apply Wx|apply Wi|refine Wa (Zv3 _ om) λo ho=>?_|refine Z6d aS ?_ ?_ (λx _ _ _ _ _ _ _ _ _ _=>?_)|(rw[wn h0 aS om];exact ih _ om om om)|apply Ix|apply SIx|omega|intro o ho|intro o|dsimp only|omega)<;>first|with_reducible assumption|omega|omega|with_reducible exact Ri.l|omega|grind|grind
def Z2i (a0:Zs) (ha0:Zfp a0) (n:Nat):∀ i:Int,0≤i→i≤a0.Published.length→(a0.Published.length-i).toNat<n→Ok (Zll a0 n i) (λ_=>True):=by
 have⟨_,_,_,_,_,_,_⟩:=ha0
 induction n with
 |zero=>omega
 |succ n ih=>
  intro i h0 h1 hn;unfold Zll
  (with_reducible repeat' first|omega|apply Lf|apply Wb|apply Waf|apply Wx|apply Wi|refine Wa (Z7s _) λo ho=>?_|refine Wa (Zcd _ om) λo ho=>?_|refine Zzu aS ?_ ?_ (λx _ _ _ _ _ _ _ _=>?_)|(rw[wn h0 aS om];exact ih _ om om om)|apply Ix|apply SIx|apply Wa (p:=λ_=>True)|intro o ho|intro o|dsimp only|omega)<;>first|grind|omega|omega|grind|omega|omega|grind
def Z2j (a0:Zs) (ha0:Zfp a0) (n:Nat):∀ i:Int,0≤i→i≤a0.Hidden.length→(a0.Hidden.length-i).toNat<n→Ok (Zlm a0 n i) (λ_=>True):=by
 have hf:=Z6;have⟨_,_,_,_,_,_,_⟩:=ha0
 induction n with
 |zero=>intro i _ _ h;omega
 |succ n ih=>
  intro i h0 h1 hn;unfold Zlm
  (with_reducible repeat' first|exact trivial|apply Lf|apply Wb|apply Waf|apply Wx|apply Wi|refine Wa (Zcd _ om) λo ho=>?_|refine Wa (Zxa _ _ (by repeat' (first|assumption|exact trivial|omega|exact sub_ok aS|exact nil_ok|with_reducible refine And.intro ?_ ?_))) λo ho=>?_|refine Z1o aS ?_ ?_ (λx _ _ _ _ _ _ _=>?_)|(rw[wn h0 aS om];exact ih _ om om om)|apply Ix|apply SIx|apply Wa (p:=λ_=>True)|intro o ho|intro o|dsimp only|omega)<;>first|with_reducible assumption|omega|omega|with_reducible exact Ri.l|with_reducible exact Wg7 trivial|with_reducible exact Wg7 om|(with_reducible have:=Ri.o ho;omega)
def Z6e (a0:Zs) (ha0:Zfp a0) (hw:∀ w∈a0.Windows,w.Active.length≤10000):Ok (Zc4 a0) (λ_=>True):=by
 have hf:=Z6;have hl:=lim_eq;have hb0:a0.Hidden.length≤1000000:=ha0.2.2.2.2.2.1.1;have hb1:a0.Published.length≤1000000:=ha0.2.2.2.2.1.1;have hb2:a0.Statements.length≤1000000:=ha0.2.2.2.1.1;have hb3:a0.Windows.length≤1000000:=ha0.2.2.1.1;have hd0:a0.Hidden.length≤1000000:=ha0.2.2.2.2.2.1.1;have hd1:a0.Published.length≤1000000:=ha0.2.2.2.2.1.1;have hd2:a0.Statements.length≤1000000:=ha0.2.2.2.1.1;have hd3:a0.Windows.length≤1000000:=ha0.2.2.1.1;have⟨_,_,_,_,_,_,_⟩:=ha0;unfold Zc4
 (with_reducible repeat' first|exact trivial|apply Lf|apply Wb|apply Waf|apply Wx|apply Wi|refine Wa (Zvh _ _ om) λo ho=>?_|refine Wa (Z2g _ (by repeat' (first|assumption|exact trivial|omega|exact sub_ok aS|exact nil_ok|with_reducible refine And.intro ?_ ?_)) om _ 0 om om om) λo ho=>?_|refine Wa (Z2h _ om _ 0 om om om) λo ho=>?_|refine Wa (Z2i _ om _ 0 om om om) λo ho=>?_|refine Wa (Z2j _ (by repeat' (first|assumption|exact trivial|omega|exact sub_ok aS|exact nil_ok|with_reducible refine And.intro ?_ ?_)) _ 0 om om om) λo ho=>?_|apply Ix|apply SIx|apply Wa (p:=λ_=>True)|intro o ho|intro o|dsimp only|(apply Ok.id;rcases(o:_⊕_)with o|o))<;>first|with_reducible assumption|omega|with_reducible exact⟨aS,om⟩|with_reducible exact Ri.l|with_reducible exact Wg7 trivial|with_reducible exact Wg7 om|(with_reducible have:=Ri.o ho;omega)
def Z6f (a0:Zb) (a1:Int) (ha0:Zbc a0) (n:Nat):∀ i:Int,0≤i→i≤a0.Edges.length→(a0.Edges.length-i).toNat<n→Ok (Zek a0 a1 n i) (Ri λr=>0≤r∧r<a0.Edges.length):=by
 have⟨_,_,_,_,_,_⟩:=ha0
 induction n with
 |zero=>omega
 |succ n ih=>
  intro i h0 h1 hn;unfold Zek
  (with_reducible repeat' first|omega|apply Lf|apply Wb|omega|apply Wx|apply Wi|refine Wa (Zrj _ _ om) λo ho=>?_|refine Zyy aS ?_ ?_ (λx _ _ _ _ _ _ _=>?_)|(rw[wn h0 om om];exact ih _ om om om)|apply Ix|apply SIx|apply Wa (p:=λ_=>True)|omega|intro o|dsimp only|omega)<;>first|omega|omega|omega|with_reducible exact Ri.l|omega|with_reducible exact Wg7 om|omega
def Z1p (a0:Zb) (a1:Int) (ha0:Zbc a0):Ok (Zfk a0 a1) (λr=>-1≤r∧r<a0.Edges.length):=by
 have hf:=Z6;unfold Zfk
 (with_reducible repeat' first|omega|omega|apply Wb|omega|omega|omega|refine Wa (Z6f _ _ om _ 0 om om om) λo ho=>?_|omega|omega|omega|omega|intro o|omega|(rcases(o:_⊕_)with o|o))<;>first|omega|omega|omega|omega|omega|omega|(with_reducible have:=Ri.o ho;omega)
def Zado (r s:Int×Int) (h1:r.2<7) (n:Nat):∀ w i,0≤i→i≤r.2+1→w.length+(r.2+1-i)≤100000→(∀ y∈w,Zbg y)→(r.2+1-i).toNat<n→Ok (Zmy r s n w i) λo=>o.length≤w.length+(r.2+1-i)∧∀ y∈o,Zbg y:=by
 have hlim:=lim_eq
 induction n with
 |zero=>omega
 |succ n ih=>
  intro w i h0 h1 hw hy hn;unfold Zmy;rw[wi (i+1) om om]
  refine Wx (λhc=>Ap gD ?_) λhc=>Wb ⟨om,hy⟩
  refine(ih _ _ om om sO ?_ om).mono λv ⟨g0,g1⟩=>⟨gD,g1⟩
  intro y hyy
  rcases Wj.1 hyy with g|g
  exact hy y g;rw[Wl.1 g];exact⟨Zc2 _,Zc2 _,trivial⟩
def Zadp (a:List ByteArray) (hb:a.length≤1000) (hs:∀ s,s∈a→s.size≤1000) (k:Nat) (hk:a.length=3*k+2) (n:Nat):∀ w (i:Int) (j:Nat),i=3*j→j≤k+1→w.length≤7*j→(∀ y∈w,Zbg y)→(k+1-j)<n→Ok (Zmz a n w i) λo=>match o with|.inl v=>v.length≤7*(k+1)∧∀ y∈v,Zbg y|.inr v=>v.1=[]:=by
 induction n with
 |zero=>omega
 |succ n ih=>
  intro w i j hi hj hw hy hn;have hf:=Z6;unfold Zmz;rw[wi (i+1) om om,wi (i+2) om om,wi (i+3) om om]
  refine Wx (λhc=>?_) λhc=>Wb ⟨om,hy⟩
  refine Ix om om λx hx=>Wa (Z86 x (hs x hx)) λr hr=>Ix om om λy hyy=>Wa (Z7p y (hs y hyy)) λs hss=>Lf (Lf ?_)
  refine Wa (p:=λv=>v=false→0≤r.1) (Wi (λ_=>Wb sM) λh=>?_) λv hv=>Wi (λ_=>Wb rfl) λh=>?_
  simp at h
  refine Lf (Wa (p:=λ_=>True) (Wx (λh=>Ix om om λx _=>Wb trivial) λ_=>Wb trivial) λv _=>Wb λ_=>om)
  have h:=hv gD
  refine Wa (Zado r s om fuel w r.1 om gD om hy om) λv hv=>ih _ _ (j+1) om om om hv.2 om
def Z7t (a:List ByteArray) (hb:a.length≤1000) (hs:∀ s,s∈a→s.size≤1000):Ok (Ztr a) λr=>Zk3 r.1∧r.1.length≤225:=by
 have hf:=Z6
 refine Lf (Wa (p:=λ_=>True) (Wi (λh=>?_) λ_=>Wb trivial) λv _=>Wi (λ_=>Wb ⟨nil_ok,Wec _⟩) λ_=>Wi (λ_=>Wb ⟨nil_ok,Wec _⟩) λh=>?_)
 simp at h
 exact Ix om om λx _=>Wb trivial
 simp at h
 rw[Wg8 om]at h
 refine Wa (Zadp a hb hs ((a.length-2) / 3) om fuel [] 0 0 om om sM sM om) λo ho=>?_
 rcases o with o|o
 have ht:Int.tdiv a.length 3=a.length / 3:=Wg9 om;rw[ht,wi (a.length / 3) om om,wi (a.length / 3+1) om om]
 refine Wx (λ_=>Wb ⟨nil_ok,Wec _⟩) λhc=>Wa (Z7q o [] om sM) λv hv=>Wb ⟨⟨gD,hv.2⟩,gD⟩
 refine Wb ?_
 grind
def Zaeu:∀ s∈[(⟨#[109,111,110]⟩:ByteArray),⟨#[116,117,101]⟩,⟨#[115,117,110]⟩,⟨#[109,111,110,45,102,114,105]⟩,⟨#[115,97,116,45,115,117,110]⟩,⟨#[119,101,100,45,119,101,100]⟩],s.size≤1000:=dC
def Zacb:∀ s∈[(⟨#[48,48,58,48,48,45,50,52,58,48,48]⟩:ByteArray),⟨#[48,56,58,48,48,45,49,55,58,48,48]⟩,⟨#[48,56,58,48,48,45,48,56,58,48,49]⟩,⟨#[50,51,58,53,57,45,50,52,58,48,48]⟩,⟨#[49,55,58,48,48,45,49,56,58,51,48]⟩],s.size≤1000:=dC
def Zacc (n:Nat):∀ t w (i:Int),TOk t→0≤i→i≤3→w.length+3*i≤8→(∀ s,s∈w→s.size≤1000)→i.toNat<n→Ok (Zhf n t w i) λo=>TOk o.1∧o.2.length≤8∧∀ s,s∈o.2→s.size≤1000:=by
 have hlim:=lim_eq
 induction n with
 |zero=>grind
 |succ n ih=>
  intro t w i ht h0 h1 hw hy hn;unfold Zhf;rw[wi (i-1) om om]
  refine Wx (λhc=>Nxt ht om om λr a0 a1 a2=>Ix a0 gD λx hx=>Nxt a2 om om λr2 b0 b1 b2=>Ix b0 om λy hyy=>Ap gD (ih _ _ _ b2 om om gD ?_ om)) λhc=>Wb ⟨ht,gD,hy⟩
  intro s hs
  rcases Wj.1 hs with hs|hs
  exact hy s hs
  simp at hs
  rcases hs with rfl|rfl|rfl
  decide
  exact Zaeu _ hx;exact Zacb _ hyy
def Zagx {t:Zc} (ht:TOk t):Ok (Zpc t) λr=>(Zk3 r.1∧r.1.length≤225)∧TOk r.2:=by
 have hf:=Z6
 refine Nxt ht om om λr a0 a1 a2=>Ix a0 gD λx hx=>Nxt a2 om om λr2 b0 b1 b2=>Ix b0 gD λy hyy=>Nxt b2 om om λr3 c0 c1 c2=>?_
 refine Wa (Zacc fuel _ [x,y] r3.1 c2 om om gD ?_ om) λ⟨u,w⟩ ⟨o1,o2,o3⟩=>?_
 intro s hs
 simp at hs
 rcases hs with rfl|rfl
 exact Zaeu _ hx;exact Zacb _ hyy
 exact Wa (Z7t w gD o3) λv hv=>Wb ⟨hv,o1⟩
def Zah5 (x y:Int):sk_u32 (bShl .u32 x y):=Zc2 _
structure POk (p:Zn):Prop where
 a:sk_u32 p.Addr
 b0:0≤p.Bits
 b1:p.Bits≤32
def POk.sk {p:Zn} (h:POk p):Zha p:=⟨h.a,⟨by have:=h.b0;omega,by have:=h.b1;omega⟩,trivial⟩
def Z0v {p:Zn} (h:p∈subnets):POk p:=by
 simp  [subnets,W1,Wag,or_false]at h
 rcases h with rfl|rfl|rfl|rfl|rfl|rfl<;>exact⟨dC,dC,dC⟩
def Z3r {t:Zc} (ht:TOk t):Ok (Zgj t) λr=>POk r.1∧TOk r.2:=by
 refine Nxt ht om om λr a0 a1 a2=>Wi (λ_=>Nxt a2 om om λr2 b0 b1 b2=>Wa Z3h λp hp=>Wb ⟨Z0v hp,b2⟩) λ_=>?_
 refine Nxt a2 om om λr2 b0 b1 b2=>Ix b0 om λx hx=>Wa (Zv6 b2) λs hs=>?_
 have hx2:0≤x∧x≤32:=by
  simp at hx
  omega
 refine Wa (p:=POk) (Wx (λhc=>Waf (Zub _).1 (Waf (Zub _).1 (Wb ⟨Zah5 _ _,hx2.1,hx2.2⟩))) λ_=>Wb ⟨⟨hs.1.1,gD⟩,hx2.1,hx2.2⟩) λv hv=>Wb ⟨hv,hs.2⟩
def gn:List ByteArray:=[(⟨#[103,49]⟩:ByteArray),(⟨#[103,50]⟩:ByteArray),(⟨#[103,51]⟩:ByteArray)]
def sn:List ByteArray:=[(⟨#[119,101,98]⟩:ByteArray),(⟨#[115,115,104]⟩:ByteArray),(⟨#[100,110,115]⟩:ByteArray)]
structure ItOk (N:List ByteArray) (k1 k2:Int) (i:Nat) (x:Z0):Prop where
 sk:Zsh x
 k:x.Kind=k1∨x.Kind=k2∨(x.Kind=3∧0<i∧N[0]? = some x.Name)
 pr:x.Proto=0∨x.Proto=1∨x.Proto=6∨x.Proto=17∨x.Proto=50
 po:POk x.Prefix
structure DfOk (N:List ByteArray) (k1 k2:Int) (i:Nat) (d:Zl):Prop where
 name:N[i]? = some d.Name
 l0:1≤d.Items.length
 l1:d.Items.length≤2
 it:∀ x,x∈d.Items→ItOk N k1 k2 i x
def small (N:List ByteArray):Prop:=N.length≤3∧∀ s∈N,s.size≤1000
def DfOk.sk {N:List ByteArray} (hN:small N) {k1 k2:Int} {i:Nat} {d:Zl} (h:DfOk N k1 k2 i d):Zop d:=
 ⟨by have:=hN.2 _ (Wq h.name);omega,⟨by have:=h.l1;omega,λy hy=>(h.it y hy).sk⟩,trivial⟩
def Ztc:small gn:=by unfold small gn;decide
def Z0w:small sn:=by unfold small sn;decide
def XOk.sk_edge {T:Zb} (h:XOk T) {e:Z2} (he:e∈T.Edges):sk_str e.Name∧sk_str e.Zone∧POk e.Prefix∧0≤e.Device∧e.Device<6:=by
 obtain⟨i,_,_,h1⟩:=h.edge.mem he;have d1:=h.d1;have e2:=h1.h1
 refine⟨?_,?_,Z0v (Wq h1.pre),h1.h0,om⟩
 have:∀ s∈en,s.size≤1000000:=dC
 exact this _ (Wq h1.name)
 have:∀ s∈zn,s.size≤1000000:=dC
 exact this _ h1.zone
def z_po:POk Zck:=⟨dC,dC,dC⟩
def z_pre:Zha Zck:=by unfold Zck;grind
def z_ran:Zbg Zao:=by unfold Zao;grind
def c0:sk_i64 0:=dC
def c1:sk_i64 1:=dC
def c2:sk_i64 2:=dC
def c3:sk_i64 3:=dC
def c4:sk_i64 4:=dC
def sk_e:sk_str ByteArray.empty:=dC
def Zacd (T:Zb) (hT:XOk T) (G:List Zl) (hG:All (DfOk gn 1 2) G) (hl:G.length≤2) (n:Nat):∀ t nm w (i:Int),TOk t→0≤i→w.length+i≤2→1≤w.length+i→(∀ x,x∈w→ItOk gn 1 2 G.length x)→i.toNat<n→Ok (Zhg T G n t nm w i) λo=>TOk o.1∧o.2.1=nm∧1≤o.2.2.length∧o.2.2.length≤2∧∀ x,x∈o.2.2→ItOk gn 1 2 G.length x:=by
 have hlim:=lim_eq
 induction n with
 |zero=>omega
 |succ n ih=>
  intro t nm w i ht h0 h1 h2 hw hn;have e1:=hT.e1;unfold Zhg;rw[wi (i-1) om om]
  refine Wx (λhc=>?_) λhc=>Wb ⟨ht,rfl,gD,gD,hw⟩
  refine Wa (p:=λo=>TOk o.1∧o.2.length=w.length+1∧∀ x,x∈o.2→ItOk gn 1 2 G.length x) ?_ λ⟨u,v⟩ ⟨o1,o2,o3⟩=>ih _ _ _ _ o1 om gD gD o3 om
  refine Wa (Z3r ht) λp hp=>?_
  refine Wa (p:=λo=>TOk o.1∧ItOk gn 1 2 G.length o.2) ?_ λ⟨u,v⟩ ⟨o1,o2⟩=>?_
  refine Nx0 hp.2 om λr a0 a1 a2=>Lf (Wa (p:=λo=>TOk o.2∧(o.1=true→r.1<T.Edges.length)) ?_ λ⟨b,u⟩ ⟨o1,o2⟩=>?_)
  refine Wx (λh=>Nxt a2 om om λr2 b0 b1 b2=>Wb ⟨b2,λ_=>om⟩) λ_=>Wb ⟨a2,sM⟩
  refine Wi (λh=>Ix a0 (o2 h) λe he=>Wb ⟨o1,⟨⟨c1,(hT.sk_edge he).2.1,z_pre,c0,z_ran,trivial⟩,.inl rfl,.inl rfl,z_po⟩⟩) λ_=>Wb ⟨o1,⟨⟨c2,sk_e,hp.1.sk,c0,z_ran,trivial⟩,.inr (.inl rfl),.inl rfl,hp.1⟩⟩
  refine Wa (p:=λo=>TOk o.1∧ItOk gn 1 2 G.length o.2) ?_ λ⟨u,v⟩ ⟨o1,o2⟩=>Ap gD (Wb ⟨o1,sM,?_⟩)
  refine Lf (Wa (p:=λo=>TOk o.2∧(o.1=true→0<G.length)) (Wx (λh=>Nxt o1 om om λr2 b0 b1 b2=>Wb ⟨b2,λ_=>om⟩) λ_=>Wb ⟨o1,sM⟩) λ⟨b,u⟩ ⟨g1,g2⟩=>Wi (λh=>IxN om gD λe he=>Wb ⟨g1,⟨⟨c3,?_,z_pre,c0,z_ran,trivial⟩,.inr (.inr ⟨rfl,g2 h,(hG 0 e he).name⟩),.inl rfl,z_po⟩⟩) λ_=>Wb ⟨g1,o2⟩)
  exact(DfOk.sk Ztc (hG 0 e he)).1
  grind
def Zace (T:Zb) (hT:XOk T) (n:Nat):∀ t G (i:Int),TOk t→0≤i→G.length+i≤3→All (DfOk gn 1 2) G→i.toNat<n→Ok (Zhh T n t G i) λo=>TOk o.1∧o.2.length=G.length+i∧All (DfOk gn 1 2) o.2:=by
 have hlim:=lim_eq;have hf:=Z6
 induction n with
 |zero=>omega
 |succ n ih=>
  intro t G i ht h0 h1 hG hn;unfold Zhh;rw[wi (i-1) om om]
  refine Wx (λhc=>IxN om gD λnm hnm=>Nxt ht om om λr a0 a1 a2=>?_) λhc=>Wb ⟨ht,gD,hG⟩
  rw[wi (1+r.1) om om]
  refine Wa (Zacd T hT G hG om fuel _ nm [] _ a2 om gD gD sM om) λ⟨u,v,w⟩ ⟨o1,o2,o3,o4,o5⟩=>Ap gD ((ih _ _ _ o1 om gD (hG.snoc ⟨?_,o3,o4,o5⟩) om).mono λx hx=>⟨hx.1,gD,hx.2.2⟩)
  dsimp  at o2⊢
  rw[o2];exact hnm
def Zah6 {top:Int} {r:Za} (h:ROk top r) (ht:top<4294967296):Zbg r:=⟨⟨h.h0,by have:=h.h1;have:=h.h2;omega⟩,⟨by have:=h.h0;have:=h.h1;omega,by have:=h.h2;omega⟩,trivial⟩
def r88:Zbg ⟨8,8⟩:=⟨dC,dC,trivial⟩
def Zacf (G:List Zl) (hG:All (DfOk sn 4 4) G) (hl:G.length≤2) (n:Nat):∀ t nm w (i:Int),TOk t→0≤i→w.length+i≤2→1≤w.length+i→(∀ x,x∈w→ItOk sn 4 4 G.length x)→i.toNat<n→Ok (Zhi G n t nm w i) λo=>TOk o.1∧o.2.1=nm∧1≤o.2.2.length∧o.2.2.length≤2∧∀ x,x∈o.2.2→ItOk sn 4 4 G.length x:=by
 have hlim:=lim_eq
 induction n with
 |zero=>grind
 |succ n ih=>
  intro t nm w i ht h0 h1 h2 hw hn;unfold Zhi;rw[wi (i-1) om om]
  refine Wx (λhc=>?_) λhc=>Wb ⟨ht,rfl,gD,gD,hw⟩
  refine Wa (p:=λo=>TOk o.1∧o.2.length=w.length+1∧∀ x,x∈o.2→ItOk sn 4 4 G.length x) ?_ λ⟨u,v⟩ ⟨o1,o2,o3⟩=>ih _ _ _ _ o1 om gD gD o3 om
  refine Nxt ht om om λr a0 a1 a2=>Ix a0 om λx hx=>?_
  have hx3:x=0∨x=1∨x=6∨x=17∨x=50:=by
   grind
  have hx2:sk_i64 x:=om
  refine Wa (p:=λo=>TOk o.1∧ItOk sn 4 4 G.length o.2) ?_ λ⟨u,v⟩ ⟨o1,o2⟩=>?_
  refine Wi (λ_=>Wb ⟨a2,⟨⟨c4,sk_e,z_pre,hx2,r88,trivial⟩,.inl rfl,hx3,z_po⟩⟩) λ_=>Wa (p:=λ_=>True) (by(with_reducible repeat' first|omega|apply Lf|apply Wb|apply Waf|apply Wx|apply Wi|apply Ix|apply SIx|omega|intro o ho|intro o|dsimp only|omega)) λv _=>Wi (λ_=>Wa (Z57 a2 om om) λr2 hr2=>Wb ⟨hr2.2,⟨⟨c4,sk_e,z_pre,hx2,Zah6 hr2.1 om,trivial⟩,.inl rfl,hx3,z_po⟩⟩) λ_=>Wb ⟨a2,⟨⟨c4,sk_e,z_pre,hx2,z_ran,trivial⟩,.inl rfl,hx3,z_po⟩⟩
  refine Wa (p:=λo=>TOk o.1∧ItOk sn 4 4 G.length o.2) ?_ λ⟨u,v⟩ ⟨o1,o2⟩=>Ap sO (Wb ⟨o1,sM,?_⟩)
  refine Lf (Wa (p:=λo=>TOk o.2∧(o.1=true→0<G.length)) (Wx (λh=>Nxt o1 om om λr2 b0 b1 b2=>Wb ⟨b2,λ_=>om⟩) λ_=>Wb ⟨o1,sM⟩) λ⟨b,u⟩ ⟨g1,g2⟩=>Wi (λh=>IxN om gD λe he=>Wb ⟨g1,⟨⟨c3,?_,z_pre,c0,z_ran,trivial⟩,.inr (.inr ⟨rfl,g2 h,(hG 0 e he).name⟩),.inl rfl,z_po⟩⟩) λ_=>Wb ⟨g1,o2⟩)
  exact(DfOk.sk Z0w (hG 0 e he)).1
  grind
def Zacg (n:Nat):∀ t G (i:Int),TOk t→0≤i→G.length+i≤3→All (DfOk sn 4 4) G→i.toNat<n→Ok (Zhj n t G i) λo=>TOk o.1∧o.2.length=G.length+i∧All (DfOk sn 4 4) o.2:=by
 have hlim:=lim_eq;have hf:=Z6
 induction n with
 |zero=>grind
 |succ n ih=>
  intro t G i ht h0 h1 hG hn;unfold Zhj;rw[wi (i-1) om om]
  refine Wx (λhc=>IxN om gD λnm hnm=>Nxt ht om om λr a0 a1 a2=>?_) λhc=>Wb ⟨ht,gD,hG⟩
  rw[wi (1+r.1) om om]
  refine Wa (Zacf G hG om fuel _ nm [] _ a2 om gD gD sM om) λ⟨u,v,w⟩ ⟨o1,o2,o3,o4,o5⟩=>Ap gD ((ih _ _ _ o1 om gD (hG.snoc ⟨?_,o3,o4,o5⟩) om).mono λx hx=>⟨hx.1,gD,hx.2.2⟩)
  dsimp  at o2⊢
  rw[o2];exact hnm
def Nm (s:ByteArray):Prop:=s.size≤1000
def Nm_e:Nm ByteArray.empty:=by show _≤_;decide
def Zzv {t:Zc} (ht:TOk t) {N:List ByteArray} (hN:small N) {a b:Int} {G:List Zl} (hG:All (DfOk N a b) G) (hl:G.length≤3):Ok (Zdd t G) λr=>Nm r.1∧TOk r.2:=by
 unfold Zdd;rw[wi (G.length+2) om om]
 refine Nxt ht om om λr a0 a1 a2=>Wx (λ_=>Wb ⟨Nm_e,a2⟩) λh=>Ix a0 om λx hx=>Wb ⟨?_,a2⟩
 obtain⟨i,_,_,h1⟩:=hG.mem hx;exact hN.2 _ (Wq h1.name)
structure StOk (s:Zam):Prop where
 f:Nm s.From
 t:Nm s.To
 sv:Nm s.Service
 ef:Nm s.ExceptFrom
 et:Nm s.ExceptTo
 c:s.Class∈cn
 d:Nm s.During
 p0:0≤s.Priority
 p1:s.Priority≤1000
def z00:(0:Int)≤0:=dC
def z01:(0:Int)≤1000:=dC
def cn_e:ByteArray.empty∈cn:=by unfold cn;simp
structure IOk (T:Zb) (x:Zs):Prop where
 g:All (DfOk gn 1 2) x.Groups
 gl:x.Groups.length≤3
 s:All (DfOk sn 4 4) x.Services
 sl:x.Services.length≤3
 w:∀ v,v∈x.Windows→Nm v.Name∧Zk3 v.Active∧v.Active.length≤225
 wl:x.Windows.length≤1
 st:∀ v,v∈x.Statements→StOk v
def Zach {t:Zc} (ht:TOk t) {T:Zb} (hT:XOk T) {x:Zs} (hx:IOk T x):Ok (Zml t T x) λr=>StOk r.1∧TOk r.2:=by
 have d1:=hT.d1;have wl:=hx.wl
 refine Nxt ht om om λr a0 a1 a2=>Wa (Zzv a2 Ztc hx.g hx.gl) λb hb=>Wa (Zzv hb.2 Ztc hx.g hx.gl) λc hc=>Wa (Zzv hc.2 Z0w hx.s hx.sl) λd hd=>?_
 refine Wa (p:=λo=>TOk o.1∧StOk o.2) ?_ λ⟨u,v⟩ ⟨o1,o2⟩=>?_
 refine Nxt hd.2 om om λe e0 e1 e2=>Wi (λ_=>Wa (Zzv e2 Ztc hx.g hx.gl) λf hf=>Wa (Zzv hf.2 Ztc hx.g hx.gl) λg hg=>Wb ⟨hg.2,⟨hb.1,hc.1,hd.1,hf.1,hg.1,cn_e,Nm_e,z00,z01⟩⟩) λ_=>Wb ⟨e2,⟨hb.1,hc.1,hd.1,Nm_e,Nm_e,cn_e,Nm_e,z00,z01⟩⟩
 refine Wa (p:=λo=>TOk o.1∧StOk o.2) ?_ λ⟨u2,v2⟩ ⟨p1,p2⟩=>?_
 refine Nx0 o1 om λe e0 e1 e2=>Lf (Wa (p:=λo=>TOk o.2) (Wi (λ_=>Nxt e2 om om λf f0 f1 f2=>Wb f2) λ_=>Wb e2) λ⟨b1,u1⟩ g1=>Lf (Wi (λh=>?_) λ_=>Wb ⟨g1,o2⟩))
 simp at h
 refine Ix e0 h.2 λx hx=>Wb ⟨g1,⟨o2.f,o2.t,o2.sv,o2.ef,o2.et,?_,o2.d,o2.p0,o2.p1⟩⟩
 obtain⟨i,_,_,h1⟩:=hT.dev.mem hx;exact h1.cls
 refine Wa (p:=λo=>TOk o.1∧StOk o.2) ?_ λ⟨u3,v3⟩ ⟨q1,q2⟩=>?_
 refine Lf (Wa (p:=λo=>TOk o.2∧(o.1=true→0<x.Windows.length)) (Wx (λh=>Nxt p1 om om λf f0 f1 f2=>Wb ⟨f2,λ_=>om⟩) λ_=>Wb ⟨p1,sM⟩) λ⟨b1,u1⟩ ⟨g1,g2⟩=>Wi (λh=>Nxt g1 gD om λe e0 e1 e2=>Ix e0 e1 λw hw=>Wb ⟨e2,⟨p2.f,p2.t,p2.sv,p2.ef,p2.et,p2.c,(hx.w w hw).1,p2.p0,p2.p1⟩⟩) λ_=>Wb ⟨g1,p2⟩)
 refine Nxt q1 om om λe e0 e1 e2=>Ix e0 om λy hy=>Wb ⟨?_,e2⟩
 have hy2:0≤y∧y≤1000:=by
  grind
 exact⟨q2.f,q2.t,q2.sv,q2.ef,q2.et,q2.c,q2.d,hy2.1,hy2.2⟩
def Zaci (T:Zb) (hT:XOk T) (G S:List Zl) (W:List Zbl) (P:List Za4) (H:List Zbf) (n:Nat):∀ t R (i:Int),TOk t→0≤i→R.length+i≤1000→IOk T ⟨G,S,W,R,P,H⟩→i.toNat<n→Ok (Zhk T n t G S W R P H i) λo=>TOk o.1∧o.2.1=G∧o.2.2.1=S∧o.2.2.2.1=W∧o.2.2.2.2.1.length=R.length+i∧(∀ v,v∈o.2.2.2.2.1→StOk v)∧o.2.2.2.2.2.1=P∧o.2.2.2.2.2.2=H:=by
 have hlim:=lim_eq
 induction n with
 |zero=>omega
 |succ n ih=>
  intro t R i ht h0 h1 hx hn;unfold Zhk;rw[wi (i-1) om om]
  refine Wx (λhc=>Wa (Zach ht hT hx) λr hr=>Ap gD ((ih _ (R++[r.1]) (i-1) hr.2 om gD ⟨hx.g,hx.gl,hx.s,hx.sl,hx.w,hx.wl,?_⟩ om).mono λo ho=>⟨ho.1,ho.2.1,ho.2.2.1,ho.2.2.2.1,?_,ho.2.2.2.2.2⟩)) λhc=>Wb ⟨ht,rfl,rfl,rfl,gD,hx.st,rfl,rfl⟩
  intro v hv
  rcases Wj.1 hv with h|h
  exact hx.st v h;rw[Wl.1 h];exact hr.1
  grind
structure PbOk (T:Zb) (p:Za4):Prop where
 addr:p.Addr=3405803781
 proto:p.Proto=6∨p.Proto=17
 p0:0≤p.Port
 p1:p.Port≤65535
 r0:0≤p.RealPort
 r1:p.RealPort≤65535
 edge:∃ e,T.Edges[0]? = some e∧p.Edge=e.Name
 real:∃ e r,T.Edges[1]? = some e∧Za7 e.Prefix=some r∧p.Real=r.1.Lo
 sk:Zry p
structure HdOk (T:Zb) (p:Zbf):Prop where
 group:p.Group=(⟨#[103,49]⟩:ByteArray)
 addr:p.Addr=3325256705
 edge:∃ e,e∈T.Edges∧p.Edge=e.Name
 l:p.Ports.Lo=1024
 h0:1024≤p.Ports.Hi
 h1:p.Ports.Hi≤1063
 sk:Zp5 p
structure IntOk (T:Zb) (m:Int) (x:Zs):Prop where
 i:IOk T x
 g0:1≤x.Groups.length
 sl:x.Statements.length≤m
 p:∀ v,v∈x.Published→PbOk T v
 pl:x.Published.length≤1
 h:∀ v,v∈x.Hidden→HdOk T v
 hl:x.Hidden.length≤1
def uA:sk_u32 3405803781:=dC
def uB:sk_u32 3325256705:=dC
def uC:sk_u32 1024:=dC
def Zajq:Nm ⟨#[119,111,114,107]⟩:=by show _≤_;decide
def Zagy {t:Zc} (ht:TOk t) {T:Zb} (hT:XOk T) (m:Int) (h0:0≤m) (h1:m≤1000):Ok (Zj6 t T m) λr=>IntOk T m r.1∧TOk r.2:=by
 have hf:=Z6;have hlim:=lim_eq;have he1:=hT.e1;unfold Zj6
 refine Nxt ht om om λr a0 a1 a2=>?_
 rw[wi (1+r.1) om om,wi (m+1) om om]
 refine Wa (Zace T hT fuel _ [] _ a2 om sO All.nil om) λ⟨t1,G⟩ ⟨o1,o2,o3⟩=>?_
 dsimp only at o1 o2 o3⊢
 simp only[Wdp]at o2
 refine Nxt o1 om om λr2 b0 b1 b2=>Wa (Zacg fuel _ [] _ b2 om sO All.nil om) λ⟨t2,S⟩ ⟨p1,p2,p3⟩=>?_
 dsimp only at p1 p2 p3⊢
 simp only[Wdp]at p2
 refine Wa (p:=λo=>TOk o.1∧(∀ v,v∈o.2→Nm v.Name∧Zk3 v.Active∧v.Active.length≤225)∧o.2.length≤1) ?_ λ⟨t3,W⟩ ⟨q1,q2,q3⟩=>?_
 refine Nxt p1 om om λr3 c0 c1 c2=>Wi (λ_=>Wa (Zagx c2) λw hw=>Ap sO (Wb ⟨hw.2,λv hv=>?_,sM⟩)) λ_=>Wb ⟨c2,sM,sM⟩
 simp at hv
 rw[hv];exact⟨Zajq,hw.1⟩
 dsimp only at q1 q2 q3⊢
 refine Nxt q1 om om λr4 d0 d1 d2=>Wa (Zaci T hT G S W [] [] fuel _ [] _ d2 om sO ⟨o3,by dsimp only;omega,p3,by dsimp only;omega,q2,q3,sM⟩ om) λ⟨t5,G5,S5,W5,R5,P5,H5⟩ ⟨u1,u2,u3,u4,u5,u6,u7,u8⟩=>?_
 dsimp only at u1 u2 u3 u4 u5 u6 u7 u8⊢
 subst u2 u3 u4 u7 u8
 refine Wa (p:=λo=>TOk o.1∧(∀ v,v∈o.2→PbOk T v)∧o.2.length≤1) ?_ λ⟨t6,P⟩ ⟨v1,v2,v3⟩=>?_
 refine Lf (Wa (p:=λo:Bool×Zc=>TOk o.2∧(o.1=true→1<T.Edges.length)) (Wx (λh=>Nxt u1 om om λf f0 f1 f2=>Wb ⟨f2,λ_=>om⟩) λ_=>Wb ⟨u1,sM⟩) λ⟨b1,y1⟩ ⟨g1,g2⟩=>Wi (λh=>?_) λ_=>Wb ⟨g1,sM,sM⟩)
 have hl:=g2 h
 refine IxN om om λe he=>?_
 have hee:POk e.Prefix:=(hT.sk_edge (Wq he)).2.2.1;obtain⟨q,hq,hq2⟩:=Zw4 e.Prefix hee.a;rw[hq]
 refine Lf (Nxt g1 om om λf f0 f1 f2=>Ix f0 (by simpa using f1) λpr hpr=>Wa (Zya f2 om om) λs hs=>IxN om om λe2 he2=>Wa (Zya hs.2 om om) λs2 hs2=>Ap sO (Wb ⟨hs2.2,λv hv=>?_,sM⟩))
 have g3:=hs.1;have g4:=hs2.1;rw[wi s.1 om om,wi s2.1 om om]at hv
 simp at hv
 have hpr2:pr=6∨pr=17:=by simpa using hpr
 rw[hv];exact⟨rfl,hpr2,g3.1,g3.2,g4.1,g4.2,⟨e2,he2,rfl⟩,⟨e,q,he,hq,rfl⟩,⟨uA,by dsimp only;omega,by dsimp only;omega,(hT.sk_edge (Wq he2)).1,hq2.1,by dsimp only;omega,trivial⟩⟩
 dsimp only at v1 v2 v3⊢
 refine Wa (p:=λo=>TOk o.1∧(∀ v,v∈o.2→HdOk T v)∧o.2.length≤1) ?_ λ⟨t7,H⟩ ⟨w1,w2,w3⟩=>?_
 refine Lf (Wa (p:=λo:Bool×Zc=>TOk o.2∧(o.1=true→0<T.Edges.length)) (Wx (λh=>Nxt v1 om om λf f0 f1 f2=>Wb ⟨f2,λ_=>om⟩) λ_=>Wb ⟨v1,sM⟩) λ⟨b1,y1⟩ ⟨g1,g2⟩=>Wi (λh=>?_) λ_=>Wb ⟨g1,sM,sM⟩)
 have hl:=g2 h
 refine Nxt g1 om om λf f0 f1 f2=>Ix f0 f1 λe he=>Nxt f2 om om λs s0 s1 s2=>Ap sO (Wb ⟨s2,λv hv=>?_,sM⟩)
 rw[wu32 om (by omega:s.1<4294967296),wu32 om (by omega:1024+s.1<4294967296)]at hv
 simp at hv
 rw[hv]
 have g1:sk_str (⟨#[103,49]⟩:ByteArray):=dC
 exact⟨rfl,rfl,⟨e,he,rfl⟩,rfl,by dsimp only;omega,by dsimp only;omega,⟨g1,(hT.sk_edge he).1,uB,⟨uC,by dsimp only;omega,trivial⟩,trivial⟩⟩;exact Wb ⟨⟨⟨o3,by dsimp only;omega,p3,by dsimp only;omega,q2,q3,u6⟩,by dsimp only;omega,by dsimp only;simp at u5;omega,v2,v3,w2,w3⟩,w1⟩
def Zagz {t:Zc} (ht:TOk t):Ok (Zpd t) λr=>(0≤r.1∧r.1<10080)∧TOk r.2:=by
 refine Nxt ht om om λr a0 a1 a2=>Nxt a2 om om λr2 b0 b1 b2=>Ix b0 gD λx hx=>?_
 have hx2:=by
  simp at hx
  omega
 rw[wi (1440*r.1) om om,wi _ om om];exact Wb ⟨⟨gD,om⟩,b2⟩
def Net_ok {t:Zc} (ht:TOk t) (n m:Int) (h:1≤n) (h0:0≤m) (h1:m≤1000):Ok (Zr5 t n m) λr=>XOk r.1∧IntOk r.1 m r.2.1∧(0≤r.2.2.1∧r.2.2.1<10080)∧TOk r.2.2.2:=Wa (Zadf ht n h) λr hr=>Wa (Zagy hr.2 hr.1 m h0 h1) λs hs=>Wa (Zagz hs.2) λu hu=>Wb ⟨hr.1,hs.1,hu.1,hu.2⟩
def Zadq (T:Zb) (hb:T.Edges.length≤1000) (n:Nat):∀(w:List Int) (i:Int),0≤i→i≤T.Edges.length→w.length≤i→(∀ x,x∈w→0≤x∧x<T.Edges.length)→(T.Edges.length-i).toNat<n→Ok (Zn1 T n w i) λr=>r.length≤T.Edges.length∧∀ x,x∈r→0≤x∧x<T.Edges.length:=by
 have hlim:=lim_eq
 induction n with
 |zero=>grind
 |succ n ih=>
  intro w i h0 h1 hw hx hn;unfold Zn1;rw[wi (i+1) om om]
  refine Wx (λhc=>Ap gD (ih _ _ om om gD (λx h=>?_) om)) λhc=>Wb ⟨om,hx⟩
  grind
def Zah7 (T:Zb) (hb:T.Edges.length≤1000):Ok (Zum T) λr=>r.length≤T.Edges.length∧∀ x,x∈r→0≤x∧x<T.Edges.length:=by
 have hf:=Z6
 exact Wa (Zadq T hb _ [] 0 om om sM sM om) λv hv=>Wb hv
def Zafk (T:Zb) (nm:ByteArray) (hb:T.Edges.length≤1000) (n:Nat):∀(w:List Int) (i:Int),0≤i→i≤T.Edges.length→w.length≤i→(∀ x,x∈w→0≤x∧x<T.Edges.length)→(T.Edges.length-i).toNat<n→Ok (Zm3 T nm n w i) λr=>r.length≤T.Edges.length∧∀ x,x∈r→0≤x∧x<T.Edges.length:=by
 have hlim:=lim_eq
 induction n with
 |zero=>grind
 |succ n ih=>
  intro w i h0 h1 hw hx hn;unfold Zm3;rw[wi (i+1) om om]
  refine Wx (λhc=>Wa (p:=λv:List Int=>v.length≤i+1∧∀ x,x∈v→0≤x∧x<T.Edges.length) ?_ λv hv=>ih _ _ om om hv.1 hv.2 om) λhc=>Wb ⟨om,hx⟩
  refine Ix h0 hc λy _=>Wi (λ_=>Ap gD (Wb ⟨gD,λx h=>?_⟩)) λ_=>Wb ⟨om,hx⟩
  grind
def Z88 (T:Zb) (nm:ByteArray) (hb:T.Edges.length≤1000):Ok (Zgl T nm) λr=>r.length≤T.Edges.length∧∀ x,x∈r→0≤x∧x<T.Edges.length:=by
 have hf:=Z6
 exact Wa (Zafk T nm hb _ [] 0 om om sM sM om) λv hv=>Wb hv
def Zadr {Q:Za→Prop} (T:Zb) (l:List Int) (hl:l.length≤1000) (hx:∀ x,x∈l→0≤x∧x<T.Edges.length) (hp:∀ e,e∈T.Edges→Ok (Za7 e.Prefix) λr=>Q r.1) (n:Nat):∀ w (i:Int),0≤i→i≤l.length→w.length≤i→(∀ x,x∈w→Q x)→(l.length-i).toNat<n→Ok (Zln T l n w i) λr=>r.length≤l.length∧∀ x,x∈r→Q x:=by
 have hlim:=lim_eq
 induction n with
 |zero=>grind
 |succ n ih=>
  intro w i h0 h1 hw hy hn;unfold Zln;rw[wi (i+1) om om]
  refine Wx (λhc=>Ix h0 hc λx hxl=>Ix (hx x hxl).1 (hx x hxl).2 λe he=>Wa (hp e he) λr hr=>Ap gD (ih _ _ om om gD (λx h=>?_) om)) λhc=>Wb ⟨om,hy⟩
  grind
def Zacj {Q:Za→Prop} (T:Zb) (l:List Int) (hl:l.length≤1000) (hx:∀ x,x∈l→0≤x∧x<T.Edges.length) (hp:∀ e,e∈T.Edges→Ok (Za7 e.Prefix) λr=>Q r.1):Ok (Zpe T l) λr=>r.length≤l.length∧∀ x,x∈r→Q x:=by
 have hf:=Z6
 exact Wa (Zadr T l hl hx hp _ [] 0 om om sM sM om) λv hv=>Wb hv
def Zag0 (l:List Int) (a:Int) (hl:l.length≤1000) (n:Nat):∀ i:Int,0≤i→i≤l.length→(l.length-i).toNat<n→Ok (Zn2 l a n i) λ_=>True:=by
 induction n with
 |zero=>omega
 |succ n ih=>
  intro i h0 h1 hn;unfold Zn2;rw[wi (i+1) om om]
  refine Wx (λhc=>Ix h0 hc λx _=>Wi (λ_=>Wb trivial) λ_=>ih _ om om om) λhc=>Wb trivial
def has_ok (l:List Int) (a:Int) (hl:l.length≤1000):Ok (Zdw l a) λ_=>True:=by
 have hf:=Z6
 refine Wa (Zag0 l a hl _ 0 om om om) λo _=>?_
 rcases o with o|o<;>exact Wb trivial
def Zag1 {l:List Zl} {d:Zl} (h:l[0]? = some d):Zc0 l d.Name=some 0:=by
 have hl:0<l.length:=by
  grind
 have hi:AM.idx l 0=some d:=h;unfold Zc0;rw[fuel6];unfold Zij
 grind
structure DL (N:List ByteArray) (a b:Int) (l:List Zl):Prop where
 s:small N
 d:All (DfOk N a b) l
 n:l.length≤3
 a:a≠3
 b:b≠3
structure IK (l:List Zl) (a b:Int) (x:Z0):Prop where
 sk:Zsh x
 k:x.Kind=a∨x.Kind=b
 m:∃ d,d∈l∧x∈d.Items
 pr:x.Proto=0∨x.Proto=1∨x.Proto=6∨x.Proto=17∨x.Proto=50
 po:POk x.Prefix
structure WK (a b:Int) (l l2:List Zl) (m k:Nat) (done:List Int) (items:List Z0):Prop where
 e:l2=l
 d:done.length≤m
 n:items.length≤k
 k:∀ x,x∈items→IK l a b x
def Z7u {N:List ByteArray} {a b:Int} (T T4 T2:Zb) (hT:T2.Edges.length≤1000) {l:List Zl} (hl:DL N a b l) (d:Zl) (hd:l[0]? = some d) (p q done:List Int) (it:Z0) (n:Nat):∀ items (m:Nat) (i:Int),m≤100→0≤i→i≤d.Items.length→items.length≤m+i→(∀ x,x∈items→IK l a b x)→(d.Items.length-i).toNat<n→Ok (Zes T T4 p it T2 0 n l done items q i) λo=>match o with|.inl r=>WK a b l r.1 done.length (m+2) r.2.1 r.2.2.1|.inr r=>WK a b l r.2.1 done.length (m+2) r.2.2.1 r.2.2.2:=by
 have hlim:=lim_eq;have hD:=hl.d 0 d hd;have hx:AM.idx l 0=some d:=hd;have h2:=hD.l1
 induction n with
 |zero=>omega
 |succ n ih=>
  intro items m i hm h0 h1 hi hk hn;unfold Zes;rw[hx,wi (i+1) om om]
  refine Lf (Wx (λhc=>?_) λhc=>Wb ⟨rfl,Ws _,gD,hk⟩)
  refine Wa (p:=λo=>match o with|.inl r=>r.1=l∧r.2.1=done∧r.2.2.length≤m+(i+1)∧∀ x,x∈r.2.2→IK l a b x|.inr r=>WK a b l r.2.1 done.length (m+2) r.2.2.1 r.2.2.2) ?_ λo ho=>?_
  refine Lf (Ix h0 hc λx hx=>?_)
  have hI:=hD.it x hx
  have hne:x.Kind≠3:=by
   have:=hI.k;have:=hl.a;have:=hl.b;omega
  refine Wi (λ_=>?_) λh=>absurd gD hne
  refine Lf (Wa (p:=λ_=>True) (Wi (λ_=>Wa (Z88 T2 _ hT) λv _=>Wb trivial) λ_=>Wb trivial) λv _=>Wi (λ_=>Wb ⟨rfl,Ws _,gD,hk⟩) λ_=>Ap gD (Wb ⟨rfl,rfl,gD,λy hy=>?_⟩))
  rcases Wj.1 hy with hy|hy
  exact hk y hy;rw[Wl.1 hy];exact⟨hI.sk,by have:=hI.k;omega,⟨d,Wq hd,hx⟩,hI.pr,hI.po⟩
  rcases o with⟨l2,d2,i2⟩|o
  obtain⟨e1,e2,e3,e4⟩:=ho;subst e1 e2;exact ih _ _ _ hm om om e3 e4 om;exact Wb ho
def Zack {N:List ByteArray} {a b:Int} (T T2:Zb) (hT:T2.Edges.length≤1000) {l:List Zl} (hl:DL N a b l) (d:Zl) (hd:l[0]? = some d) (done:List Int) (hdn:done.length≤100) (items:List Z0) (hi:items.length≤100) (hk:∀ x,x∈items→IK l a b x) (T4:Zb) (p:List Int) (it:Z0) (q:List Int) (hq:q.length≤100):Ok (Zj8 T l done items T4 p it T2 0 q) λr=>WK a b l r.2.1 (done.length+1) (items.length+2) r.2.2.1 r.2.2.2:=by
 have hlim:=lim_eq;have hf:=Z6;have h2:=(hl.d 0 d hd).l1;have hw:WK a b l l (done.length+1) (items.length+2) done items:=⟨rfl,om,om,hk⟩
 refine Wa (has_ok q 0 om) λv _=>Wi (λ_=>Wb hw) λ_=>Wa (has_ok done 0 om) λv _=>Wi (λ_=>Wb hw) λ_=>Waf gD (Waf gD ?_)
 refine Wa (Z7u T T4 T2 hT hl d hd p _ done it fuel items items.length 0 hi om om om hk om) λo ho=>?_
 rcases o with⟨l2,d2,i2,q2⟩|o
 have h3:=ho.d
 dsimp only at h3⊢
 exact Ap gD (Wb ⟨ho.e,gD,ho.n,ho.k⟩);exact Wb ⟨ho.e,by have:=ho.d;omega,ho.n,ho.k⟩
def Z7v {N:List ByteArray} {a b:Int} (T T4:Zb) (hT:T4.Edges.length≤1000) {l:List Zl} (hl:DL N a b l) (j:Int) (d:Zl) (hj:AM.idx l j=some d) (hd:l[j.toNat]? = some d) (q:List Int) (hq:q.length≤100) (n:Nat):∀ done items (i:Int),0≤i→i≤d.Items.length→done.length≤i→items.length≤2*i→(∀ x,x∈items→IK l a b x)→(d.Items.length-i).toNat<n→Ok (Zet T T4 j n l done items q i) λo=>match o with|.inl r=>WK a b l r.1 2 4 r.2.1 r.2.2.1|.inr r=>WK a b l r.2.1 2 4 r.2.2.1 r.2.2.2:=by
 have hlim:=lim_eq;have hD:=hl.d _ d hd;have h2:=hD.l1
 induction n with
 |zero=>grind
 |succ n ih=>
  intro done items i h0 h1 hdn hi hk hn;unfold Zet;rw[hj,wi (i+1) om om]
  refine Lf (Wx (λhc=>?_) λhc=>Wb ⟨rfl,gD,gD,hk⟩)
  refine Wa (p:=λo=>match o with|.inl r=>r.1=l∧r.2.1.length≤i+1∧r.2.2.length≤2*(i+1)∧∀ x,x∈r.2.2→IK l a b x|.inr r=>WK a b l r.2.1 2 4 r.2.2.1 r.2.2.2) ?_ λo ho=>?_
  refine Lf (Ix h0 hc λx hx=>?_)
  have hI:=hD.it x hx
  refine Wi (λh=>?_) λh=>?_
  have hne:=by simpa using h
  refine Lf (Wa (p:=λ_=>True) (Wi (λ_=>Wa (Z88 T4 _ hT) λv _=>Wb trivial) λ_=>Wb trivial) λv _=>Wi (λ_=>Wb ⟨rfl,gD,by dsimp only;omega,hk⟩) λ_=>Ap sO (Wb ⟨rfl,by dsimp only;omega,sO,λy hy=>?_⟩))
  rcases Wj.1 hy with hy|hy
  exact hk y hy;rw[Wl.1 hy];exact⟨hI.sk,by have:=hI.k;omega,⟨d,Wq hd,hx⟩,hI.pr,hI.po⟩
  have hn3:0<j.toNat∧N[0]? = some x.Name:=by
   have h3:=hI.k;have:=hl.a;have:=hl.b
   grind
  have hlen:j.toNat<l.length:=by
   grind
  have hd0:l[0]? = some (l[0]'om):=Wr _
  have hnm:x.Name=(l[0]'om).Name:=by
   have h4:=(hl.d 0 _ hd0).name
   grind
  rw[hnm,Zag1 hd0]
  refine Lf (Wx (λh=>om) λ_=>Wa (Zack T T4 hT hl _ hd0 done om items om hk T4 q x q hq) λr hr=>Wi (λ_=>Wb ⟨hr.e,by have:=hr.d;dsimp only;omega,by have:=hr.n;dsimp only;omega,hr.k⟩) λ_=>Wb ⟨hr.e,by have:=hr.d;dsimp only;omega,by have:=hr.n;dsimp only;omega,hr.k⟩)
  rcases o with⟨l2,d2,i2⟩|o
  obtain⟨e1,e2,e3,e4⟩:=ho;subst e1;exact ih _ _ _ om om e2 e3 e4 om;exact Wb ho
def Zaev {N:List ByteArray} {a b:Int} (T:Zb) (hT:T.Edges.length≤1000) {l:List Zl} (hl:DL N a b l) (nm:ByteArray) (hnm:sk_str nm):Ok (Zqm T l nm) λr=>r.1.length≤4∧∀ x,x∈r.1→IK l a b x:=by
 have hlim:=lim_eq;have hf:=Z6;have hsk:Zcb l:=⟨by have:=hl.n;omega,λy hy=>by obtain⟨i,_,_,h⟩:=hl.d.mem hy;exact h.sk hl.s⟩
 refine Wa (Zyh l nm hsk hnm) λj hj=>Wx (λ_=>Wb ⟨sM,sM⟩) λhc=>?_
 have hlen:=om
 have hd:l[j.toNat]? = some l[j.toNat]:=Wr _
 have hx:AM.idx l j=some l[j.toNat]:=by
  have:=om
  simp[AM.idx,this,hlen]
 refine Wa (p:=λr=>WK a b l r.2.1 3 4 r.2.2.1 r.2.2.2) ?_ λr hr=>Wb ⟨hr.n,hr.k⟩
 have hw:WK a b l l 3 4 [] []:=⟨rfl,sM,sM,sM⟩;have h2:=(hl.d _ _ hd).l1
 refine Wa (has_ok [] j sM) λv _=>Wi (λ_=>Wb hw) λ_=>Wa (has_ok [] j sM) λv _=>Wi (λ_=>Wb hw) λ_=>Waf sM (Waf sO ?_)
 refine Wa (Z7v T T hT hl j _ hx hd _ sM fuel [] [] 0 om om sM sM sM om) λo ho=>?_
 rcases o with⟨l2,d2,i2,q2⟩|o
 have h3:=ho.d
 dsimp only at h3⊢
 exact Ap sO (Wb ⟨ho.e,sO,ho.n,ho.k⟩);exact Wb ⟨ho.e,by have:=ho.d;omega,ho.n,ho.k⟩
def sr (i:Int):Za:=([⟨167772160,167772415⟩,⟨167772416,167772671⟩,⟨167772672,167772799⟩,⟨167772800,167772863⟩,⟨2886729728,2886795263⟩]:List Za).getD i.toNat ⟨0,0⟩
def wh (i j:Int):Bx:=⟨sr i,sr j,⟨0,255⟩,⟨0,65535⟩,⟨0,65535⟩⟩
def sr_ok (i:Int):ROk 4294967295 (sr i):=by
 unfold sr
 rcases(by omega:i.toNat=0∨i.toNat=1∨i.toNat=2∨i.toNat=3∨i.toNat=4∨5≤i.toNat)with h|h|h|h|h|h
 rw[h];exact⟨dC,dC,dC⟩;rw[h];exact⟨dC,dC,dC⟩;rw[h];exact⟨dC,dC,dC⟩;rw[h];exact⟨dC,dC,dC⟩;rw[h];exact⟨dC,dC,dC⟩;rw[List.getD_eq_getElem?_getD,Wfe gD];exact⟨dC,dC,dC⟩
def wh_ok (i j:Int):BOk (wh i j):=⟨sr_ok i,sr_ok j,Zmv.h2,Zmv.h3,Zmv.h4⟩
def Of_sr {T:Zb} (hT:XOk T) {i:Int} (i0:0≤i) (i1:i<T.Edges.length):∃ x,idx T.Edges i=some x∧x∈T.Edges∧Za7 x.Prefix=some (sr i,true):=by
 have e1:=hT.e1
 have hi:i.toNat<T.Edges.length:=om
 refine⟨T.Edges[i.toNat],by simp[AM.idx,i0],Wv hi,?_⟩
 have g:=(hT.edge i.toNat T.Edges[i.toNat] gD).pre;unfold sr
 generalize i.toNat=k at hi g⊢
 have key:∀ k:Fin 5,Za7 (subnets.getD k.1 ⟨0,0⟩)=some ([⟨167772160,167772415⟩,⟨167772416,167772671⟩,⟨167772672,167772799⟩,⟨167772800,167772863⟩,⟨2886729728,2886795263⟩].getD k.1 ⟨0,0⟩,true):=by
  intro k
  rcases(by omega:k=0∨k=1∨k=2∨k=3∨k=4)with rfl|rfl|rfl|rfl|rfl<;>kernel_rfl
 have:=key ⟨k,om⟩
 grind
def Ztd {T:Zb} (hT:XOk T) {i j:Int} (i0:0≤i) (i1:i<T.Edges.length) (j0:0≤j) (j1:j<T.Edges.length):Zbi T i j=some (wh i j):=by
 obtain⟨x,h1,_,h2⟩:=Of_sr hT i0 i1;obtain⟨y,h3,_,h4⟩:=Of_sr hT j0 j1;unfold Zbi;rw[h1,h3];simp  [Wc,h2,h4];rfl
def cutsOf (p:Zn):List Int:=match Za7 p with|some r=>[r.1.Lo,r.1.Hi+1]|none=>[]
def Zafl (p:Zn):(cutsOf p).length≤2:=by unfold cutsOf;grind
def eb:List Int:=[167772160,167772416,167772672,167772800,167772864,2886729728,2886795264]
def P0 (x:Zs):List Int:=x.Groups.flatMap λd=>d.Items.flatMap λy=>cutsOf y.Prefix
def PX (x:Zs):List Int:=eb++P0 x
def QX (x:Zs):List (Int×Int):=x.Services.flatMap λd=>d.Items.flatMap λy=>[(wrap .u32 y.Proto,y.Ports.Lo),(wrap .u32 y.Proto,y.Ports.Hi+1)]
def Zte {α β:Type} {f:α→List β} {m:Nat}:∀ {l:List α},(∀ x∈l,(f x).length≤m)→(l.flatMap f).length≤m*l.length
 |[],_=>sM
 |x::l,h=>by
  rw[Wet,Wm,Wak,Nat.mul_succ];have:=h x (Wz ..)
  have:=Zte (l:=l) λy hy=>h y gD
  omega
def P0_len {T:Zb} {x:Zs} (h:IOk T x):(P0 x).length≤12:=by
 have g:=h.gl
 have:=Zte (f:=λd=>d.Items.flatMap λy=>cutsOf y.Prefix) (m:=4) (l:=x.Groups) λd hd=>by
  obtain⟨i,_,_,k⟩:=h.g.mem hd
  have:=Zte (f:=λy=>cutsOf y.Prefix) (m:=2) (l:=d.Items) λy _=>Zafl _
  have:=k.l1;omega
 unfold P0;omega
def QX_len {T:Zb} {x:Zs} (h:IOk T x):(QX x).length≤12:=by
 have g:=h.sl
 have:=Zte (f:=λd=>d.Items.flatMap λy=>[(wrap .u32 y.Proto,y.Ports.Lo),(wrap .u32 y.Proto,y.Ports.Hi+1)]) (m:=4) (l:=x.Services) λd hd=>by
  obtain⟨i,_,_,k⟩:=h.s.mem hd
  have:=Zte (f:=λy=>[(wrap .u32 y.Proto,y.Ports.Lo),(wrap .u32 y.Proto,y.Ports.Hi+1)]) (m:=2) (l:=d.Items) λy _=>sM
  have:=k.l1;omega
 unfold QX;omega
def Zaew {T:Zb} (hT:XOk T) (x:Zs) {e:Z2} (he:e∈T.Edges):Ok (Za7 e.Prefix) λr=>Ct (PX x) r.1:=by
 have e1:=hT.e1;obtain⟨k,hk,rfl⟩:=Wax he;obtain⟨y,h1,_,h2⟩:=Of_sr hT (i:=k) om om;rw[Zaq hk]at h1;cases h1
 refine⟨_,h2,?_⟩
 show Ct (PX x) (sr k)
 have key:∀ k:Fin 5,(sr k.1).Lo∈eb∧(sr k.1).Hi+1∈eb:=dC
 have g:=key ⟨k,om⟩;have r:=sr_ok k;exact⟨⟨⟨r.h0,by have:=r.h1;have:=r.h2;omega⟩,⟨by have:=r.h0;have:=r.h1;omega,by have:=r.h2;omega⟩,trivial⟩,.inr (Wj.2 (.inl g.1)),.inr (Wj.2 (.inl g.2)),r.h1⟩
def Zajr {x:Zs} {y:Z0} (hs:POk y.Prefix) (hm:∃ d,d∈x.Groups∧y∈d.Items):Ok (Za7 y.Prefix) λr=>Ct (PX x) r.1:=by
 obtain⟨r,h1,h2⟩:=Of_v hs.a hs.b0 hs.b1;obtain⟨d,hd,hy⟩:=hm
 refine⟨r,h1,⟨⟨h2.h0,by have:=h2.h1;have:=h2.h2;omega⟩,⟨by have:=h2.h0;have:=h2.h1;omega,by have:=h2.h2;omega⟩,trivial⟩,.inr (Wj.2 (.inr ?_)),.inr (Wj.2 (.inr ?_)),h2.h1⟩<;>refine Waq.2 ⟨d,hd,Waq.2 ⟨y,hy,?_⟩⟩<;>unfold cutsOf<;>rw[h1]<;>simp
def pr9:List Int:=[0,1,2,6,7,17,18,50,51]
def KX (P:List Int) (Q:List (Int×Int)):Nat→List Int→Prop
 |0,[a,_,_,_,_]=>a∈P
 |1,[_,b,_,_,_]=>b∈P
 |2,[_,_,c,_,_]=>c∈pr9
 |3,[_,_,c,d,_]=>c≠6∧c≠17∧(c=1→d=8∨d=9)
 |4,[_,_,c,_,e]=>c=6∨c=17→(c,e)∈Q
 |_,_=>True
abbrev KXI (x:Zs):=KX (PX x) (QX x)
def ini:List Bx:=[⟨⟨0,4294967295⟩,⟨0,4294967295⟩,⟨0,0⟩,⟨0,0⟩,⟨0,0⟩⟩,⟨⟨0,4294967295⟩,⟨0,4294967295⟩,⟨1,1⟩,⟨0,7⟩,⟨8,8⟩⟩,⟨⟨0,4294967295⟩,⟨0,4294967295⟩,⟨1,1⟩,⟨9,65535⟩,⟨8,8⟩⟩,⟨⟨0,4294967295⟩,⟨0,4294967295⟩,⟨2,5⟩,⟨0,0⟩,⟨0,0⟩⟩,⟨⟨0,4294967295⟩,⟨0,4294967295⟩,⟨6,6⟩,⟨0,65535⟩,⟨0,65535⟩⟩,⟨⟨0,4294967295⟩,⟨0,4294967295⟩,⟨7,16⟩,⟨0,0⟩,⟨0,0⟩⟩,⟨⟨0,4294967295⟩,⟨0,4294967295⟩,⟨17,17⟩,⟨0,65535⟩,⟨0,65535⟩⟩,⟨⟨0,4294967295⟩,⟨0,4294967295⟩,⟨18,255⟩,⟨0,0⟩,⟨0,0⟩⟩]
def ini_eq:Zg2=some ini:=kR
def Zaex:∀ x∈ini,BIn x:=by
 intro x hx
 simp  [ini,W1,Wag,or_false]at hx
 rcases hx with rfl|rfl|rfl|rfl|rfl|rfl|rfl|rfl<;>exact⟨⟨dC,dC,dC,dC⟩,⟨dC,dC,dC,dC⟩,⟨dC,dC,dC,dC⟩,⟨dC,dC,dC,dC⟩,⟨dC,dC,dC,dC⟩⟩
def ini_vs:VS ini:=by
 have h:Zea ini=some true:=kR
 rw[rVal dC Zaex]at h;exact Z84.1 (Waw h)
def KX_box {P:List Int} {Q:List (Int×Int)} {b:Bx} (h0:(b.x0.Lo=0∨b.x0.Lo∈P)∧(b.x0.Hi=4294967295∨b.x0.Hi+1∈P)) (h1:(b.x1.Lo=0∨b.x1.Lo∈P)∧(b.x1.Hi=4294967295∨b.x1.Hi+1∈P)) (h2:(b.x2.Lo=0∨b.x2.Lo∈pr9)∧(b.x2.Hi=255∨b.x2.Hi+1∈pr9)) (h3:(b.x3=⟨0,65535⟩)∨∀ c,inR c b.x2=true→c≠6∧c≠17∧(c=1→(b.x3.Lo=0∨b.x3.Lo=9)∧(b.x3.Hi=65535∨b.x3.Hi=7))) (h4:b.x4=⟨0,65535⟩∨∀ c,inR c b.x2=true→c=6∨c=17→(c,b.x4.Lo)∈Q∧(c,b.x4.Hi+1)∈Q):∀ i,i<5→Chg i (KX P Q i) (mem [b]):=by
 intro i hi
 refine(Chg.box b i hi).mono λq hq hd hc=>?_
 obtain⟨a,c,d,e,f,rfl⟩:=fiveP hq
 rcases(by omega:i=0∨i=1∨i=2∨i=3∨i=4)with rfl|rfl|rfl|rfl|rfl<;>simp only[dn,List.set,List.getD_cons_zero,List.getD_cons_succ,vP,tops5]at hq hd<;>simp only[bC]at hc<;>simp only[KX]
 rcases hc with hc|hc
 rcases h0.1 with k|k
 omega;rw[hc];exact k
 rcases h0.2 with k|k
 omega;rw[hc];exact k
 rcases hc with hc|hc
 rcases h1.1 with k|k
 omega;rw[hc];exact k
 rcases h1.2 with k|k
 omega;rw[hc];exact k
 rcases hc with hc|hc
 rcases h2.1 with k|k
 omega;rw[hc];exact k
 rcases h2.2 with k|k
 omega;rw[hc];exact k
 rcases h3 with k|k
 rw[k]at hc;dsimp only at hc;omega
 have g:=k d hc.1
 refine⟨g.1,g.2.1,λh=>?_⟩
 have:=hc.2;omega
 grind
def KX_ini (P:List Int) (Q:List (Int×Int)):∀ i,i<5→Chg i (KX P Q i) (mem ini):=by
 intro i hi
 refine Chg.all λb hb=>?_
 simp  [ini,W1,Wag,or_false]at hb
 rcases hb with rfl|rfl|rfl|rfl|rfl|rfl|rfl|rfl<;>refine KX_box ⟨.inl rfl,.inl rfl⟩ ⟨.inl rfl,.inl rfl⟩ ?_ ?_ ?_ i hi
 all_goals first
  |(decide)
  |grind
  |(refine .inr λc hc=>?_;have:=Zd0.1 hc;grind)
def ini_gs (P:List Int) (Q:List (Int×Int)):GS (KX P Q) ini:=⟨ini_vs,KX_ini P Q⟩
def VS.bin {l:List Bx} (h:VS l):∀ x∈l,BIn x:=λx hx=>(h.ok x hx).bin
def Un_g {K:Nat→List Int→Prop} {a b:List Bx} (ha:GS K a) (hb:GS K b):Ok (Ze5 a b) λr=>GS K r.1∧∀ q,vP tops5 q→mem r.1 q=true→mem a q=true∨mem b q=true:=by
 refine⟨_,Zagu (by have:=ha.v.len;omega) (by have:=hb.v.len;omega) ha.v.bin hb.v.bin,GS.cmb oO ha.f hb.f,λq hq h=>?_⟩
 have g:=cmb_ok oO a b
 rcases g.1.err with e|e
 rw[g.2 e q hq,flt_vB ha.v.ok,flt_vB hb.v.ok]at h
 simpa [oO]using h
 rw[e]at h;cases h
def In_g {K:Nat→List Int→Prop} {a b:List Bx} (ha:GS K a) (hb:b.length≤300000) (hi:∀ x∈b,BIn x) (hc:∀ i,i<5→Chg i (K i) (mem (b.filter vB))):Ok (Zb3 a b) λr=>GS K r.1∧∀ q,vP tops5 q→mem r.1 q=true→mem a q=true∧mem (b.filter vB) q=true:=by
 refine⟨_,Zzr (by have:=ha.v.len;omega) hb ha.v.bin hi,GS.cmb oA ha.f hc,λq hq h=>?_⟩
 have g:=cmb_ok oA a b
 rcases g.1.err with e|e
 rw[g.2 e q hq,flt_vB ha.v.ok]at h
 simpa [oA]using h
 rw[e]at h;cases h
def Su_g {K:Nat→List Int→Prop} {a b:List Bx} (ha:GS K a) (hb:GS K b):Ok (Zfx a b) λr=>GS K r.1∧∀ q,vP tops5 q→mem r.1 q=true→mem a q=true:=by
 refine⟨_,Zaat (by have:=ha.v.len;omega) (by have:=hb.v.len;omega) ha.v.bin hb.v.bin,GS.cmb oW ha.f hb.f,λq hq h=>?_⟩
 have g:=cmb_ok oW a b
 rcases g.1.err with e|e
 rw[g.2 e q hq,flt_vB ha.v.ok]at h
 simp  [oW,Wh]at h
 exact h.1;rw[e]at h;cases h
def Mk_g {K:Nat→List Int→Prop} {a:List Bx} (ha:a.length≤300000) (hi:∀ x∈a,BIn x) (hc:∀ i,i<5→Chg i (K i) (mem (a.filter vB))):Ok (Zeu a) λr=>GS K r.1∧∀ q,vP tops5 q→mem r.1 q=true→mem (a.filter vB) q=true:=by
 refine⟨_,Z6b ha hi,GS.make hc,λq hq h=>?_⟩
 have g:=mkF_ok (a.filter vB) [] We8;rw[show AM.mk a=mkF [] (a.filter vB)from rfl]at h
 rcases g.1.err with e|e
 rw[g.2 e q hq]at h;exact h;rw[e]at h;cases h
def In_ok {a b:List Bx} (ha:VS a) (hb:b.length≤300000) (hi:∀ x∈b,BIn x):Ok (Zb3 a b) λr=>VS r.1:=
 ⟨_,Zzr (by have:=ha.len;omega) hb ha.bin hi,(cmb_ok _ a b).1.vs⟩
def sk_rin {r:Za} (h:Zbg r):RIn r:=⟨h.1.1,h.1.2,h.2.1.1,h.2.1.2⟩
def Zafm {x:Zs} {y:Z0} (h:IK x.Services 4 4 y):Ok (Zm7 y) λr=>GS (KXI x) r:=by
 unfold Zm7;have f:=Zmv.bin;have w:=Zc2 y.Proto
 refine Lf (Lf (Wa (In_g (ini_gs _ _) sM (λz hz=>?_) λi hi=>?_) λr hr=>Wb hr.1))
 rw[Wl.1 hz];exact⟨f.h0,f.h1,⟨w.1,w.2,w.1,w.2⟩,f.h3,sk_rin h.sk.2.2.2.2.1⟩;rw[Wb6];split
 refine KX_box ⟨.inl rfl,.inl rfl⟩ ⟨.inl rfl,.inl rfl⟩ ?_ (.inl rfl) (.inr λc hc _=>?_) i hi
 dsimp
 rcases h.pr with e|e|e|e|e<;>rw[e]<;>exact⟨.inr dC,.inr dC⟩
 have:=Zd0.1 hc
 dsimp  at this⊢
 have e:c=wrap .u32 y.Proto:=om
 obtain⟨d,hd,hy⟩:=h.m;rw[e];exact⟨Waq.2 ⟨d,hd,Waq.2 ⟨y,hy,sM⟩⟩,Waq.2 ⟨d,hd,Waq.2 ⟨y,hy,sM⟩⟩⟩;exact Wic
def XOk.sk {T:Zb} (h:XOk T):Zbc T:=by
 have d1:=h.d1;have k1:=h.k1;have e1:=h.e1;have p1:=h.p1;have t0:=h.t0;have t1:=h.t1
 refine⟨⟨om,λy hy=>?_⟩,⟨om,λy hy=>?_⟩,⟨om,λy hy=>?_⟩,⟨om,λy hy=>?_⟩,om,trivial⟩
 obtain⟨i,_,_,g⟩:=h.dev.mem hy
 have r:∀ s∈rn,s.size≤1000000:=dC
 have c:∀ s∈cn,s.size≤1000000:=dC
 have l:=g.lim
 simp at l
 exact⟨r _ (Wq g.name),om,trivial,trivial,c _ g.cls,trivial⟩;have g:=h.link y hy;have g0:=g.h0;have g1:=g.h1;have g2:=g.h2;have l:=g.cost
 simp at l
 exact⟨om,om,om,trivial⟩;have g:=h.sk_edge hy;exact⟨g.1,om,g.2.1,g.2.2.1.sk,trivial,trivial⟩;have g:=h.pool y hy
 grind
def IOk.gd {T:Zb} {x:Zs} (h:IOk T x):DL gn 1 2 x.Groups:=⟨Ztc,h.g,h.gl,dC,dC⟩
def IOk.sd {T:Zb} {x:Zs} (h:IOk T x):DL sn 4 4 x.Services:=⟨Z0w,h.s,h.sl,dC,dC⟩
def IntOk.sk {T:Zb} {m:Int} {x:Zs} (h:IntOk T m x) (hm:m≤1000):Zfp x:=by
 have g1:=h.i.gl;have g2:=h.i.sl;have g3:=h.i.wl;have g4:=h.sl;have g5:=h.pl;have g6:=h.hl
 have c:∀ s∈cn,s.size≤1000000:=dC
 refine⟨⟨om,λy hy=>?_⟩,⟨om,λy hy=>?_⟩,⟨om,λy hy=>?_⟩,⟨om,λy hy=>?_⟩,⟨om,λy hy=>(h.p y hy).sk⟩,⟨om,λy hy=>(h.h y hy).sk⟩,trivial⟩
 obtain⟨i,_,_,g⟩:=h.i.g.mem hy;exact g.sk Ztc;obtain⟨i,_,_,g⟩:=h.i.s.mem hy;exact g.sk Z0w;have g:=h.i.w y hy;exact⟨by have:=g.1;unfold Nm at this;omega,g.2.1,trivial⟩;have g:=h.i.st y hy;have a1:=g.f;have a2:=g.t;have a3:=g.sv;have a4:=g.ef;have a5:=g.et;have a6:=g.d;have a7:=g.p0;have a8:=g.p1
 unfold Nm at a1 a2 a3 a4 a5 a6
 exact⟨trivial,om,om,om,trivial,om,om,c _ g.c,om,om,trivial⟩
def IntOk.hw {T:Zb} {m:Int} {x:Zs} (h:IntOk T m x):∀ w∈x.Windows,w.Active.length≤10000:=λw hw=>by have:=(h.i.w w hw).2.2;omega
def Zr1 {T:Zb} {m:Int} {x:Zs} (h:IntOk T m x) (hm:m≤1000):Ok (Zc4 x) λ_=>True:=Z6e x (h.sk hm) h.hw
def Zkx {T:Zb} (h:XOk T):Ok (Zaz T) λ_=>True:=Z2e T h.sk
def Zaax {x:Zs} (c:Int) (l:List Z0) (hl:l.length≤1000) (hs:∀ y,y∈l→IK x.Services 4 4 y) (n:Nat):∀ w (i:Int),GS (KXI x) w→0≤i→i≤l.length→(l.length-i).toNat<n→Ok (Zi2 (l,c) n w i) λo=>match o with|.inl v=>GS (KXI x) v|.inr r=>GS (KXI x) r.1:=by
 induction n with
 |zero=>omega
 |succ n ih=>
  intro w i hw h0 h1 hn;unfold Zi2;rw[wi (i+1) om om]
  exact Wx (λhc=>Ix h0 hc λy hy=>Wa (Zafm (hs y hy)) λr hr=>Wa (Un_g hw hr) λs hss=>Wi (λ_=>Wb Wev) λ_=>ih _ _ hss.1 om gD gD) λhc=>Wb hw
def Z7w {T:Zb} {m:Int} {x:Zs} (h:IntOk T m x) (hm:m≤1000) (nm:ByteArray) (hn:sk_str nm):Ok (Zm8 x nm) λr=>GS (KXI x) r.1:=by
 have hf:=Z6
 refine Wa (Zr1 h hm) λv _=>Wi (λ_=>Wb Wev) λ_=>Wi (λ_=>?_) λ_=>?_
 rw[ini_eq];exact Lf (Wb (ini_gs _ _))
 refine Wa (Zaev _ sM h.i.sd nm hn) λ⟨l,c⟩ ⟨g1,g2⟩=>Wi (λ_=>Wb Wev) λ_=>Wa (Zaax c l gD g2 fuel [] 0 Wev om om gD) λo ho=>?_
 rcases o with o|o<;>exact Wb ho
def Zads {T:Zb} (hT:XOk T) {x:Zs} (c:Int) (l:List Z0) (hl:l.length≤4) (hs:∀ y,y∈l→IK x.Groups 1 2 y) (n:Nat):∀ w (i:Int),0≤i→i≤l.length→w.length≤5*i→(∀ y,y∈w→Ct (PX x) y)→(l.length-i).toNat<n→Ok (Zlo T (l,c) n w i) λr=>r.length≤20∧∀ y,y∈r→Ct (PX x) y:=by
 have hlim:=lim_eq;have e1:=hT.e1
 induction n with
 |zero=>omega
 |succ n ih=>
  intro w i h0 h1 hw hy hn;unfold Zlo;rw[wi (i+1) om om]
  refine Wx (λhc=>Wa (p:=λv=>v.length≤5*(i+1)∧∀ y,y∈v→Ct (PX x) y) ?_ λv hv=>ih _ _ om gD hv.1 hv.2 gD) λhc=>Wb ⟨om,hy⟩
  refine Ix h0 hc λz hz=>Wi (λ_=>Ix h0 hc λz hz=>Wa (Z88 T _ om) λz hz=>Wa (Zacj T z om hz.2 λe he=>Zaew hT x he) λr hr=>Ap om (Wb ⟨gD,λy h=>?_⟩)) λ_=>Ix h0 hc λz hz=>Wa (Zajr (hs z hz).po (hs z hz).m) λr hr=>Ap gD (Wb ⟨gD,λy h=>?_⟩)
  rcases Wj.1 h with h|h
  exact hy y h;exact hr.2 y h
  grind
def Ztf {T:Zb} (hT:XOk T) {m:Int} {x:Zs} (h:IntOk T m x) (hm:m≤1000) (nm:ByteArray) (hn:sk_str nm):Ok (Zdm T x nm) λr=>r.1.length≤41∧∀ y,y∈r.1→Ct (PX x) y:=by
 have hf:=Z6;have e1:=hT.e1
 refine Wa (Zkx hT) λv _=>Lf (Wa (p:=λ_=>True) (Wi (λ_=>Wb trivial) λ_=>Wa (Zr1 h hm) λv _=>Wb trivial) λv _=>Wi (λ_=>Wb ⟨sM,sM⟩) λ_=>Wi (λ_=>?_) λ_=>?_)
 refine Wa (Zah7 T om) λz hz=>Wa (Zacj T z om hz.2 λe he=>Zaew hT x he) λr hr=>Wa (Zab8 om hr.2) λs hs=>Wb ⟨?_,hs.2⟩
 dsimp;omega
 refine Wa (Zaev T om h.i.gd nm hn) λ⟨l,c⟩ ⟨g1,g2⟩=>Wi (λ_=>Wb ⟨sM,sM⟩) λ_=>Wa (Zads hT c l g1 g2 fuel [] 0 om om sM sM gD) λr hr=>Wa (Zab8 om hr.2) λs hs=>Wb ⟨?_,hs.2⟩
 grind
def Bw (x:Zs) (y:Bx):Prop:=∃ u v,Ct (PX x) u∧Ct (PX x) v∧y=⟨u,v,⟨0,255⟩,⟨0,65535⟩,⟨0,65535⟩⟩
def Bw.bin {x:Zs} {y:Bx} (h:Bw x y):BIn y:=by
 obtain⟨u,v,hu,hv,rfl⟩:=h;have f:=Zmv.bin;exact⟨sk_rin hu.sk,sk_rin hv.sk,f.h2,f.h3,f.h4⟩
def Bw.chg {x:Zs} {l:List Bx} (h:∀ y∈l,Bw x y):∀ i,i<5→Chg i (KXI x i) (mem l):=λi hi=>Chg.all λb hb=>by
 obtain⟨u,v,hu,hv,rfl⟩:=h b hb;exact KX_box ⟨hu.lo,hu.hi⟩ ⟨hv.lo,hv.hi⟩ ⟨.inl rfl,.inl rfl⟩ (.inl rfl) (.inl rfl) i hi
def Zaay {x:Zs} (a b:List Za) (ha:∀ y,y∈a→Ct (PX x) y) (hb:∀ y,y∈b→Ct (PX x) y) (hal:a.length≤41) (hbl:b.length≤41) (i:Int) (hi0:0≤i) (hi1:i<a.length) (n:Nat):∀(w:List Bx) (j:Int),0≤j→j≤b.length→w.length≤41*i+j→(∀ y,y∈w→Bw x y)→(b.length-j).toNat<n→Ok (Zi3 a b i n w j) λr=>r.length≤41*(i+1)∧∀ y,y∈r→Bw x y:=by
 have hlim:=lim_eq
 induction n with
 |zero=>grind
 |succ n ih=>
  intro w j h0 h1 hw hy hn;unfold Zi3;rw[wi (j+1) om om]
  refine Wx (λhc=>Lf (Ix hi0 hi1 λu hu=>Ix h0 hc λz hz=>Ap gD ?_)) λhc=>Wb ⟨om,hy⟩
  refine ih _ _ om om gD (λy h=>?_) om
  rcases Wj.1 h with h|h
  exact hy y h;rw[Wl.1 h];exact⟨u,z,ha u hu,hb z hz,rfl⟩
def Zaaz {x:Zs} (a b:List Za) (ha:∀ y,y∈a→Ct (PX x) y) (hb:∀ y,y∈b→Ct (PX x) y) (hal:a.length≤41) (hbl:b.length≤41) (n:Nat):∀(w:List Bx) (i:Int),0≤i→i≤a.length→w.length≤41*i→(∀ y,y∈w→Bw x y)→(a.length-i).toNat<n→Ok (Zi4 a b n w i) λr=>r.length≤2000∧∀ y,y∈r→Bw x y:=by
 have hf:=Z6
 induction n with
 |zero=>omega
 |succ n ih=>
  intro w i h0 h1 hw hy hn;unfold Zi4;rw[wi (i+1) om om]
  exact Wx (λhc=>Wa (Zaay a b ha hb hal hbl i h0 hc fuel w 0 om om om hy om) λv hv=>ih _ _ om om hv.1 hv.2 om) λhc=>Wb ⟨om,hy⟩
def Z7x {x:Zs} (a b:List Za) (ha:∀ y,y∈a→Ct (PX x) y) (hb:∀ y,y∈b→Ct (PX x) y) (hal:a.length≤41) (hbl:b.length≤41):Ok (Zm9 a b) λr=>GS (KXI x) r.1:=by
 have hf:=Z6
 exact Wa (Zaaz a b ha hb hal hbl fuel [] 0 om om sM sM om) λv hv=>Wa (Mk_g om (λy hy=>(hv.2 y hy).bin) (Bw.chg λy hy=>hv.2 y ((Wab.1 hy).1))) λr hr=>Wb hr.1
def nm_sk {s:ByteArray} (h:Nm s):sk_str s:=by unfold Nm at h;omega
def Z3s {T:Zb} (hT:XOk T) {m:Int} {x:Zs} (h:IntOk T m x) (hm:m≤1000) (i:Int):Ok (Zj9 T x i) λr=>GS (KXI x) r.1:=by
 refine Wa (Zkx hT) λv _=>Lf (Wa (p:=λ_=>True) (Wi (λ_=>Wb trivial) λ_=>Wa (Zr1 h hm) λv _=>Wb trivial) λv _=>Wi (λ_=>Wb Wev) λ_=>Lf (Wi (λ_=>Wb Wev) λhc=>?_))
 simp at hc
 refine Ix om om λs hs=>?_
 have g:=h.i.st s hs
 refine Wa (Ztf hT h hm _ (nm_sk g.f)) λa ha=>Wi (λ_=>Wb Wev) λ_=>Wa (Ztf hT h hm _ (nm_sk g.t)) λb hb=>Wi (λ_=>Wb Wev) λ_=>Wa (Z7w h hm _ (nm_sk g.sv)) λc hc=>Wi (λ_=>Wb Wev) λ_=>?_
 refine Wa (p:=λo=>match o with|.inl r=>(r.1.length≤41∧∀ y,y∈r.1→Ct (PX x) y)∧(r.2.length≤41∧∀ y,y∈r.2→Ct (PX x) y)|.inr r=>GS (KXI x) r.1) ?_ λo ho=>?_
 refine Wi (λ_=>Wa (Ztf hT h hm _ (nm_sk g.ef)) λd hd=>Wi (λ_=>Wb Wev) λ_=>Wa (Ztf hT h hm _ (nm_sk g.et)) λe he=>Wi (λ_=>Wb Wev) λ_=>Wb ⟨hd,he⟩) λ_=>Wb ⟨⟨sM,sM⟩,sM,sM⟩
 rcases o with⟨u,w⟩|o
 obtain⟨⟨u1,u2⟩,w1,w2⟩:=ho
 exact Wa (Z7x a.1 b.1 ha.2 hb.2 ha.1 hb.1) λd hd=>Wi (λ_=>Wb Wev) λ_=>Wa (In_g hd (by have:=hc.v.len;omega) hc.v.bin hc.f) λe he=>Lf (Wi (λ_=>Wb he.1) λ_=>Wa (Z7x u w u2 w2 u1 w1) λf hf=>Wi (λ_=>Wb Wev) λ_=>Wa (Su_g he.1 hf) λr hr=>Wb hr.1)
 exact Wb ho
def Zafn {T:Zb} (hT:XOk T) (c:ByteArray):Ok (Zq9 T c) λ_=>True:=by
 have hf:=Z6;have d1:=hT.d1
 have L:∀ n (i:Int),0≤i→i≤T.Devices.length→(T.Devices.length-i).toNat<n→Ok (Zi5 T c n i) λ_=>True:=by
  intro n
  induction n with
  |zero=>omega
  |succ n ih=>
   intro i h0 h1 hn;unfold Zi5;rw[wi (i+1) om om]
   exact Wx (λhc=>Ix h0 hc λx _=>Wi (λ_=>Wb trivial) λ_=>ih _ om om om) λhc=>Wb trivial
 refine Wa (L _ 0 om om om) λo _=>?_
 rcases o with o|o<;>exact Wb trivial
def Z7y {T:Zb} (hT:XOk T) {m:Int} {x:Zs} (h:IntOk T m x) (hm:m≤1000):Ok (Zla T x) λ_=>True:=by
 have hf:=Z6;have hsk:=h.sk hm;have e1:=hT.e1
 have L1:∀(n:Nat) (i:Int),0≤i→i≤x.Groups.length→(x.Groups.length-i).toNat<n→Ok (Zlp T x n i) λ_=>True:=by
  have:=h.i.gl;intro n
  induction n with
  |zero=>intro i _ _ h;omega
  |succ n ih=>
   intro i h0 h1 hn;unfold Zlp;rw[wi (i+1) om om]
   exact Wx (λhc=>Ix h0 hc λy hy=>Wa (Ztf hT h hm _ (hsk.1.2 y hy).1) λv _=>Wi (λ_=>Wb trivial) λ_=>ih _ om om om) λhc=>Wb trivial
 have L2:∀(n:Nat) (i:Int),0≤i→i≤x.Services.length→(x.Services.length-i).toNat<n→Ok (Zlq x n i) λ_=>True:=by
  have:=h.i.sl;intro n
  induction n with
  |zero=>intro i _ _ h;omega
  |succ n ih=>
   intro i h0 h1 hn;unfold Zlq;rw[wi (i+1) om om]
   exact Wx (λhc=>Ix h0 hc λy hy=>Wa (Z7w h hm _ (hsk.2.1.2 y hy).1) λv _=>Wi (λ_=>Wb trivial) λ_=>ih _ om om om) λhc=>Wb trivial
 have L3:∀(n:Nat) (i:Int),0≤i→i≤x.Statements.length→(x.Statements.length-i).toNat<n→Ok (Zlr T x n i) λ_=>True:=by
  have:=h.sl;intro n
  induction n with
  |zero=>intro i _ _ h;omega
  |succ n ih=>
   intro i h0 h1 hn;unfold Zlr;rw[wi (i+1) om om]
   refine Wx (λhc=>Ix h0 hc λy hy=>Wa (Z3s hT h hm i) λv _=>Wi (λ_=>Wb trivial) λ_=>Lf ?_) λhc=>Wb trivial
   refine Wa (p:=λ_=>True) (Wi (λ_=>Wa (Zafn hT _) λv _=>Wb trivial) λ_=>Wb trivial) λv _=>Lf (Wa (p:=λ_=>True) (Wi (λ_=>Wb trivial) λ_=>Lf (Wa (p:=λ_=>True) (Wi (λ_=>Wa (Zo5 _ _ hsk.2.2.1 (nm_sk (h.i.st y hy).d)) λv _=>Wb trivial) λ_=>Wb trivial) λv _=>Wb trivial)) λv _=>Wi (λ_=>Wb trivial) λ_=>ih _ om om om)
 have L4:∀(n:Nat) (i:Int),0≤i→i≤x.Published.length→(x.Published.length-i).toNat<n→Ok (Zls T x n i) λ_=>True:=by
  have:=h.pl;intro n
  induction n with
  |zero=>intro i _ _ h;omega
  |succ n ih=>
   intro i h0 h1 hn;unfold Zls;rw[wi (i+1) om om]
   exact Wx (λhc=>Ix h0 hc λy hy=>Wa (Zjr T _ hT.sk (h.p y hy).sk.2.2.2.1) λv _=>Wi (λ_=>Wb trivial) λ_=>ih _ om om om) λhc=>Wb trivial
 have L5:∀(n:Nat) (i:Int),0≤i→i≤x.Hidden.length→(x.Hidden.length-i).toNat<n→Ok (Zlt T x n i) λ_=>True:=by
  have:=h.hl;intro n
  induction n with
  |zero=>intro i _ _ h;omega
  |succ n ih=>
   intro i h0 h1 hn;unfold Zlt;rw[wi (i+1) om om]
   exact Wx (λhc=>Ix h0 hc λy hy=>Wa (Zjr T _ hT.sk (h.h y hy).sk.2.1) λv _=>Wi (λ_=>Wb trivial) λ_=>Ix h0 hc λy hy=>Wa (Ztf hT h hm _ (h.h y hy).sk.1) λv _=>Wi (λ_=>Wb trivial) λ_=>ih _ om om om) λhc=>Wb trivial
 have g1:=h.i.gl;have g2:=h.i.sl;have g4:=h.sl;have g5:=h.pl;have g6:=h.hl;unfold Zla
 refine Wa (Zkx hT) λv _=>Lf (Wa (p:=λ_=>True) (Wi (λ_=>Wb trivial) λ_=>Wa (Zr1 h hm) λv _=>Wb trivial) λv _=>Wi (λ_=>Wb trivial) λ_=>?_)
 refine Wa (L1 _ 0 om om om) λo _=>?_
 rcases o with o|o
 refine Wa (L2 _ 0 om om om) λo _=>?_
 rcases o with o|o
 refine Wa (L3 _ 0 om om om) λo _=>?_
 rcases o with o|o
 refine Wa (L4 _ 0 om om om) λo _=>?_
 rcases o with o|o
 refine Wa (L5 _ 0 om om om) λo _=>?_
 rcases o with o|o<;>exact Wb trivial
 exact Wb trivial;exact Wb trivial;exact Wb trivial;exact Wb trivial
def Zacl {T:Zb} (hT:XOk T) {i j:Int} (i0:0≤i) (i1:i<T.Edges.length) (j0:0≤j) (j1:j<T.Edges.length):Ok (Zbi T i j) BOk:=⟨_,Ztd hT i0 i1 j0 j1,wh_ok i j⟩
def Wp (T:Zb) (y:Bx):Prop:=∃ i j:Int,0≤i∧i<T.Edges.length∧0≤j∧j<T.Edges.length∧i≠j∧y=wh i j
def sr_ct {i:Int} (i0:0≤i) (i1:i<5) (x:Zs):Ct (PX x) (sr i):=by
 have key:∀ k:Fin 5,(sr k.1).Lo∈eb∧(sr k.1).Hi+1∈eb:=dC
 have g:=key ⟨i.toNat,om⟩;have r:=sr_ok i;exact⟨⟨⟨r.h0,by have:=r.h1;have:=r.h2;omega⟩,⟨by have:=r.h0;have:=r.h1;omega,by have:=r.h2;omega⟩,trivial⟩,.inr (Wj.2 (.inl g.1)),.inr (Wj.2 (.inl g.2)),r.h1⟩
def RS (T:Zb) (l:List Bx):Prop:=∀ q,vP tops5 q→mem l q=true→mem ini q=true∧∃ y,Wp T y∧mem [y] q=true
structure GR (T:Zb) (x:Zs) (l:List Bx):Prop where
 g:GS (KXI x) l
 r:RS T l
def GR.nil {T:Zb} {x:Zs}:GR T x []:=⟨Wev,λ_ _ h=>(by cases h)⟩
def Wgc:=@GR.nil
def Zafo {T:Zb} (hT:XOk T) {i:Int} (i0:0≤i) (i1:i<T.Edges.length) (n:Nat):∀(w:List Bx) (j:Int),0≤j→j≤T.Edges.length→w.length≤5*i+j→(∀ y,y∈w→Wp T y)→(T.Edges.length-j).toNat<n→Ok (Zna T i n w j) λr=>r.length≤5*(i+1)∧∀ y,y∈r→Wp T y:=by
 have hlim:=lim_eq;have e1:=hT.e1
 induction n with
 |zero=>omega
 |succ n ih=>
  intro w j h0 h1 hw hy hn;unfold Zna;rw[wi (j+1) om om]
  refine Wx (λhc=>Wa (p:=λv=>v.length≤5*i+(j+1)∧∀ y,y∈v→Wp T y) (Wi (λhne=>?_) λ_=>Wb ⟨om,hy⟩) λv hv=>ih _ _ om om hv.1 hv.2 om) λhc=>Wb ⟨om,hy⟩
  rw[Ztd hT i0 i1 h0 hc]
  refine Lf (Ap gD (Wb ⟨gD,λy h=>?_⟩))
  rcases Wj.1 h with h|h
  exact hy y h;rw[Wl.1 h];exact⟨i,j,i0,i1,h0,hc,gD,rfl⟩
def Zafp {T:Zb} (hT:XOk T) (n:Nat):∀(w:List Bx) (i:Int),0≤i→i≤T.Edges.length→w.length≤5*i→(∀ y,y∈w→Wp T y)→(T.Edges.length-i).toNat<n→Ok (Znb T n w i) λr=>r.length≤25∧∀ y,y∈r→Wp T y:=by
 have e1:=hT.e1;have hf:=Z6
 induction n with
 |zero=>omega
 |succ n ih=>
  intro w i h0 h1 hw hy hn;unfold Znb;rw[wi (i+1) om om]
  exact Wx (λhc=>Wa (Zafo hT h0 hc fuel w 0 om om om hy om) λv hv=>ih _ _ om om hv.1 hv.2 om) λhc=>Wb ⟨om,hy⟩
def mem_in {l:List Bx} {q:List Int} (h:mem l q=true):∃ y∈l,mem [y] q=true:=by
 rw[memF,Wgq]at h;obtain⟨y,hy,g⟩:=h;exact⟨y,hy,by rw[memF];grind⟩
def Zajs {T:Zb} (hT:XOk T) (x:Zs):Ok (Ztu T) λr=>GR T x r.1:=by
 have e1:=hT.e1;have hf:=Z6
 refine Wa (Zkx hT) λv _=>Wi (λ_=>Wb Wgc) λ_=>Wa (Zafp hT fuel [] 0 om om sM sM om) λw hw=>?_
 have hb:∀ y∈w,BOk y:=λy hy=>by obtain⟨i,j,_,_,_,_,_,rfl⟩:=hw.2 y hy;exact wh_ok i j
 refine Wa (Mk_g (K:=KXI x) om (λy hy=>(hb y hy).bin) (λi hi=>Chg.all λb hb=>?_)) λr hr=>Wi (λ_=>Wb Wgc) λ_=>?_
 obtain⟨i',j',a1,a2,a3,a4,_,rfl⟩:=hw.2 b (Wab.1 hb).1;have u:=sr_ct a1 om x;have v:=sr_ct a3 om x;exact KX_box ⟨u.lo,u.hi⟩ ⟨v.lo,v.hi⟩ ⟨.inl rfl,.inl rfl⟩ (.inl rfl) (.inl rfl) i hi;rw[ini_eq]
 refine Lf (Wa (In_g hr.1 (by simp[ini]) Zaex (ini_gs _ _).f) λs hs=>Wb ⟨hs.1,λq hq hm=>?_⟩)
 have g:=hs.2 q hq hm;rw[flt_vB ini_vs.ok]at g;obtain⟨y,hy,hm2⟩:=mem_in (hr.2 q hq g.1)
 grind
def Zag2 (l:List Za) (hl:l.length≤1000000) (a:Int):Ok (Zsw l a) λ_=>True:=Lf (Lf (Wa (p:=λ_=>True) (Wi (λ_=>Wa (Ziw l _ hl) λv _=>Wb trivial) λ_=>Wb trivial) λv _=>Wb trivial))
def Zag3 {T:Zb} {m:Int} {x:Zs} (h:IntOk T m x) (hm:m≤1000) {i:Int} (i0:0≤i) (i1:i<x.Statements.length) (a:Int):Ok (Zr6 x i a) λ_=>True:=by
 refine Ix i0 i1 λs hs=>Wa (Zo5 _ _ (h.sk hm).2.2.1 (nm_sk (h.i.st s hs).d)) λr hr=>Lf (Wa (p:=λ_=>True) (Wi (λ_=>Wb trivial) λ_=>Lf (Wa (p:=λ_=>True) (Wx (λhc=>Ix om hr.2 λw hw=>Wa (Zag2 _ (by have:=h.hw w hw;omega) a) λv _=>Wb trivial) λ_=>Wb trivial) λv _=>Wb trivial)) λv _=>Wb trivial)
def Zadt {T:Zb} {m:Int} {x:Zs} (h:IntOk T m x) (hm:m≤1000) (a p:Int) (b:Int) (hb:b≤1001000) (n:Nat):∀(w:List Int) (i:Int),0≤i→i≤x.Statements.length→w.length≤b+i→(∀ y,y∈w→0≤y∧y<x.Statements.length)→(x.Statements.length-i).toNat<n→Ok (Zlu x a p n w i) λr=>r.length≤b+x.Statements.length∧∀ y,y∈r→0≤y∧y<x.Statements.length:=by
 have hlim:=lim_eq;have sl:=h.sl
 induction n with
 |zero=>omega
 |succ n ih=>
  intro w i h0 h1 hw hy hn;unfold Zlu;rw[wi (i+1) om om]
  refine Wx (λhc=>Wa (p:=λv:List Int=>v.length≤b+(i+1)∧∀ y,y∈v→0≤y∧y<x.Statements.length) ?_ λv hv=>ih _ _ om om hv.1 hv.2 om) λhc=>Wb ⟨om,hy⟩
  refine Ix h0 hc λs _=>Lf (Wa (p:=λ_=>True) (Wi (λ_=>Wa (Zag3 h hm h0 hc a) λv _=>Wb trivial) λ_=>Wb trivial) λv _=>Wi (λ_=>Ap gD (Wb ⟨gD,λy h=>?_⟩)) λ_=>Wb ⟨om,hy⟩)
  grind
def Zadu {T:Zb} {m:Int} {x:Zs} (h:IntOk T m x) (hm:m≤1000) (a:Int) (n:Nat):∀(w:List Int) (p:Int),-1≤p→p≤1000→w.length≤1000*(1000-p)→(∀ y,y∈w→0≤y∧y<x.Statements.length)→(p+1).toNat<n→Ok (Zlv x a n w p) λr=>r.length≤1001000∧∀ y,y∈r→0≤y∧y<x.Statements.length:=by
 have hf:=Z6;have sl:=h.sl
 induction n with
 |zero=>omega
 |succ n ih=>
  intro w p h0 h1 hw hy hn;unfold Zlv;rw[wi (p-1) om om]
  exact Wx (λhc=>Wa (Zadt h hm a p w.length om fuel w 0 om om om hy om) λv hv=>ih _ _ om om gD hv.2 om) λhc=>Wb ⟨om,hy⟩
def Zah8 {T:Zb} {m:Int} {x:Zs} (h:IntOk T m x) (hm:m≤1000) (a:Int):Ok (Zsx x a) λr=>r.length≤1001000∧∀ y,y∈r→0≤y∧y<x.Statements.length:=by
 have hf:=Z6
 exact Wa (Zr1 h hm) λv _=>Lf (Lf (Wi (λ_=>Wb ⟨sM,sM⟩) λ_=>Wa (Zadu h hm a fuel [] 1000 om om sM sM om) λv hv=>Wb hv))
def ips:ByteArray:=⟨#[105,112,115]⟩
def dlp:ByteArray:=⟨#[100,108,112]⟩
def C4 (C:List ByteArray):Prop:=C=[]∨C=[dlp]∨C=[ips]∨C=[dlp,ips]
structure PIg (G:List Bx→Prop) (l:List Z7):Prop where
 c:C4 (l.map (·.Class))
 s:∀ x,x∈l→G x.Set
def PIg.nil {G:List Bx→Prop}:PIg G []:=⟨.inl rfl,sM⟩
def PIg.len {G:List Bx→Prop} {l:List Z7} (h:PIg G l):l.length≤2:=by
 have g:=h.c
 have e:l.length=(l.map (·.Class)).length:=sM
 rw[e]
 rcases g with g|g|g|g<;>rw[g]<;>decide
def Zajt (C:List ByteArray) (hC:C4 C) (a:ByteArray) (ha:a=dlp∨a=ips) (v:Nat) (hv:v=0∨v=1∨v=2):v≤C.length→(∀ j∈List.range v,Op.bytesLess (C.getD j ByteArray.empty).toList a.toList=true)→(v<C.length→Op.bytesLess (C.getD v ByteArray.empty).toList a.toList=false)→(v=C.length∨(C.getD v ByteArray.empty)≠a)→C4 (C.take v++[a]++C.drop v):=by
 unfold C4 at hC⊢
 rcases hC with rfl|rfl|rfl|rfl<;>rcases ha with rfl|rfl<;>rcases hv with rfl|rfl|rfl<;>decide +kernel
structure PoG (G:List Bx→Prop) (p:Zaa):Prop where
 a:G p.Allow
 i:PIg G p.Inspect
abbrev PoOk:=PoG VS
def PoG.mono {G H:List Bx→Prop} {p:Zaa} (h:PoG G p) (k:∀ l,G l→H l):PoG H p:=⟨k _ h.a,h.i.c,λx hx=>k _ (h.i.s x hx)⟩
structure Kp (G:List Bx→Prop):Prop where
 n:G []
 v:∀ l,G l→VS l
 u:∀ a b,G a→G b→Ok (Ze5 a b) λr=>G r.1
def Zag4 (l:List Z7) (a:ByteArray) (hl:l.length≤2) (n:Nat):∀ i,i≤l.length→(∀ j,j<i→Op.bytesLess ((l.map (·.Class)).getD j ByteArray.empty).toList a.toList=true)→l.length-i<n→Ok (Zn3 l a n i) λr=>∃ v:Nat,r=v∧v≤l.length∧(∀ j,j<v→Op.bytesLess ((l.map (·.Class)).getD j ByteArray.empty).toList a.toList=true)∧(v<l.length→Op.bytesLess ((l.map (·.Class)).getD v ByteArray.empty).toList a.toList=false):=by
 induction n with
 |zero=>omega
 |succ n ih=>
  intro i h1 hj hn;unfold Zn3;rw[wi (i+1) om om]
  refine Lf (Wa (p:=λv=>(v=true→i<l.length∧Op.bytesLess ((l.map (·.Class)).getD i ByteArray.empty).toList a.toList=true)∧(v=false→i<l.length→Op.bytesLess ((l.map (·.Class)).getD i ByteArray.empty).toList a.toList=false)) ?_ λv hv=>Wi (λh=>?_) λh=>Wb ⟨i,rfl,h1,hj,hv.2 gD⟩)
  refine Wx (λhc=>IxN om hc λx hx=>Wb ?_) λhc=>Wb ⟨sM,λ_ h=>om⟩
  have hx':(l.map (·.Class)).getD i ByteArray.empty=x.Class:=by
   simp_all
  rw[hx'];exact⟨λh=>⟨om,h⟩,λh _=>h⟩
  grind
def put_ok {G:List Bx→Prop} (hG:Kp G) {l:List Z7} (hl:PIg G l) {a:ByteArray} (ha:a∈cn) {s:List Bx} (hs:G s):Ok (Zun l a s) λr=>PIg G r.1:=by
 have hlim:=lim_eq;have hf:=Z6;have hlen:=hl.len
 refine Lf (Wi (λ_=>Wb hl) λh=>?_)
 have ha2:a=dlp∨a=ips:=by
  simp only[cn,W1,Wag,or_false]at ha
  rcases ha with rfl|rfl|rfl
  simp at h
  exact .inr rfl;exact .inl rfl
 refine Wa (Zag4 l a hlen fuel 0 om (λj h=>om) om) λr ⟨v,hr,g1,g2,g3⟩=>?_
 subst hr
 refine Lf (Wa (p:=λw=>(w=true→v=l.length∨(l.map (·.Class)).getD v ByteArray.empty≠a)∧(w=false→v<l.length)) (Wi (λh=>Wb ⟨λ_=>.inl gD,sM⟩) λh=>?_) λw hw=>Wi (λh=>?_) λh=>?_)
 have hne:=by simpa using h
 refine IxN om om λx hx=>Wb ⟨λg=>.inr ?_,λ_=>om⟩
 rw[Wb3]at hx
 have hx':(l.map (·.Class)).getD v ByteArray.empty=x.Class:=by simp[List.getD,hx]
 rw[hx'];intro e;rw[e]at g
 simp at g
 refine Waf om (Waf sO (Waf sO (Waf om (Waf sO (Wb ⟨?_,λx hx=>?_⟩)))))
 have k:=Zajt _ hl.c a ha2 v om (by simpa using g1) gD (by simpa using g3) (by simpa using hw.1 h)
 simpa [List.map_take,List.map_drop]using k
 simp only[Wb3,Wb4,Wj,Wl]at hx
 rcases hx with(hx|hx)|hx
 exact hl.s x gD;rw[hx];exact hs;exact hl.s x gD;have g:=hw.2 (by simpa using h)
 refine IxN om om λx hx=>Wa (hG.u _ _ (hl.s x (Wq hx)) hs) λr hr=>Ap sO ?_
 rw[Wb4]
 refine IxN om om λy hy=>Wb ⟨?_,λz hz=>?_⟩
 rw[Wb3]at hy⊢
 have:((l.set v {y with Set:=r.1}).map (·.Class))=l.map (·.Class):=by
  apply Wb1
  grind
 rw[this];exact hl.c
 rcases Wae hz with k|k
 exact hl.s z k;rw[k];exact hr
def PoG.nil {G:List Bx→Prop} (h:G []):PoG G ⟨[],[]⟩:=⟨h,PIg.nil⟩
def Wg4:=@PoG.nil
def z_pol {G:List Bx→Prop} (h:G []):PoG G Z2s:=⟨h,PIg.nil⟩
def GR.kp (T:Zb) (x:Zs):Kp (GR T x):=⟨Wgc,λ_ h=>h.g.v,λa b ha hb=>(Un_g ha.g hb.g).mono λr hr=>⟨hr.1,λq hq hm=>(hr.2 q hq hm).elim (ha.r q hq) (hb.r q hq)⟩⟩
def Zah9 {T:Zb} (hT:XOk T) {m:Int} {x:Zs} (h:IntOk T m x) (hm:m≤1000) (l:List Int) (hl:l.length≤1001000) (hx:∀ y,y∈l→0≤y∧y<x.Statements.length) (n:Nat):∀(p:Zaa) (w:List Bx) (i:Int),PoG (GR T x) p→GR T x w→0≤i→i≤l.length→(l.length-i).toNat<n→Ok (Zpg T x l n p w i) λo=>match o with|.inl p=>PoG (GR T x) p|.inr r=>PoG (GR T x) r.1:=by
 induction n with
 |zero=>intro p w i _ _ _ _ h;omega
 |succ n ih=>
  intro p w i hp hw h0 h1 hn;unfold Zpg;rw[wi (i+1) om om]
  refine Wx (λhc=>?_) λhc=>Wb hp
  refine Wa (p:=λo:(Zaa×(List (Arr5 Za)))⊕(Zaa×Int)=>match o with|.inl r=>PoG (GR T x) r.1∧GR T x r.2|.inr r=>PoG (GR T x) r.1) ?_ λo ho=>?_
  ·refine Ix h0 hc λy hy=>Ix (hx y hy).1 (hx y hy).2 λs hs=>Ix h0 hc λz hz=>Wa (Z3s hT h hm z) λa ha=>Wa ((In_g hw.g (by have:=ha.v.len;omega) ha.v.bin ha.f).mono λr (hr:_∧_)=>(⟨hr.1,λq hq hm=>hw.r q hq (hr.2 q hq hm).1⟩:GR T x r.1)) λb hb=>Wi (λ_=>Wb (Wg4 Wgc)) λ_=>Wa ((Su_g hw.g ha).mono λr (hr:_∧_)=>(⟨hr.1,λq hq hm=>hw.r q hq (hr.2 q hq hm)⟩:GR T x r.1)) λc hc=>?_
   refine Wa (p:=λo:Zaa×Int=>PoG (GR T x) o.1) (Lf (Wi (λ_=>Wa ((GR.kp T x).u _ _ hp.a hb) λd hd=>Wb ⟨hd,hp.i⟩) λ_=>Wb hp)) λ⟨p2,e2⟩ g2=>?_
   refine Wa (p:=λo:Zaa×Int=>PoG (GR T x) o.1) (Lf (Wi (λ_=>Wa (put_ok (GR.kp T x) g2.i (h.i.st s hs).c hb) λd hd=>Wb ⟨g2.a,hd⟩) λ_=>Wb g2)) λ⟨p3,e3⟩ g3=>Wi (λ_=>Wb (Wg4 Wgc)) λ_=>Wb ⟨g3,hc⟩
  ·rcases o with⟨p2,w2⟩|o
   ·exact ih _ _ _ ho.1 ho.2 om om om
   ·exact Wb ho
def At_ok {T:Zb} (hT:XOk T) {m:Int} {x:Zs} (h:IntOk T m x) (hm:m≤1000) (a:Int):Ok (Zsm T x a) λr=>PoG (GR T x) r.1:=by
 have hf:=Z6;unfold Zsm
 refine Wa (Zkx hT) λv _=>Lf (Wa (p:=λ_=>True) (Wi (λ_=>Wb trivial) λ_=>Wa (Zr1 h hm) λv _=>Wb trivial) λv _=>Wi (λ_=>Wb (Wg4 Wgc)) λ_=>Lf (Wi (λ_=>Wb (Wg4 Wgc)) λ_=>?_))
 refine Wa (Z7y hT h hm) λc _=>Wi (λ_=>Wb (Wg4 Wgc)) λ_=>Wa (Zajs hT x) λr hr=>Wi (λ_=>Wb (Wg4 Wgc)) λ_=>Wa (Zah8 h hm a) λl hl=>Wa (Zah9 hT h hm l hl.1 hl.2 fuel _ _ 0 (z_pol Wgc) hr om om om) λo ho=>?_
 rcases o with o|o<;>exact Wb ho
def Z2k (a0:Zb) (a1:Int) (ha0:Zbc a0) (n:Nat):∀ i:Int,0≤i→i≤a0.Pools.length→(a0.Pools.length-i).toNat<n→Ok (Zlw a0 a1 n i) (λ_=>True):=by
 have⟨_,_,_,_,_,_⟩:=ha0
 induction n with
 |zero=>omega
 |succ n ih=>
  intro i h0 h1 hn;unfold Zlw
  (with_reducible repeat' first|omega|apply Lf|apply Wb|omega|apply Wx|apply Wi|refine Wa (Zrj _ _ om) λo ho=>?_|refine Zss aS ?_ ?_ (λx _ _ _ _=>?_)|(rw[wn h0 om om];exact ih _ om om om)|apply Ix|apply SIx|omega|omega|intro o|omega|omega)<;>first|omega|omega|grind|omega|grind|grind|omega
def Zxc (a0:Zb) (a1:Int) (ha0:Zbc a0):Ok (Zlb a0 a1) (λ_=>True):=by
 have hf:=Z6;unfold Zlb
 (with_reducible repeat' first|omega|omega|apply Wb|omega|omega|omega|refine Wa (Z2k _ _ om _ 0 om om om) λo ho=>?_|refine Wa (Z1p _ _ om) λo ho=>?_|omega|omega|omega|omega|intro o|omega|(rcases o with o|o))<;>first|grind|omega|omega|omega|grind|omega|omega
def Zxl (a1:Yw) (a2:Int) (x1:Za4) (ha1:Zp3 a1) (hx1:Zry x1) (g0a2:0≤a2) (ga2:a2≤a1.length) (n:Nat):∀ i ,0≤i→i≤a2→(a2-i).toNat<n→Ok (Zhl a1 a2 x1 n i) (λ_=>True):=by
 induction n with
 |zero=>omega
 |succ n ih=>
  intro i h0 h1 hn;unfold Zhl
  (with_reducible repeat' first|omega|apply Lf|apply Wb|omega|apply Wx|apply Wi|omega|(rw[wn h0 om om];exact ih _ om om om)|apply Ix|apply SIx|apply Wa (p:=λ_=>True)|omega|intro o|dsimp |omega)<;>first|grind|omega|grind|grind|omega|omega|omega
def Z0x (a0:Zb) (a1:Yw) (a2:Int) (ha0:Zbc a0) (ha1:Zp3 a1) (g0:0≤a2) (g1:a2<a1.length):Ok (Zka a0 a1 a2) (λ_=>True):=by
 have hf:=Z6;have hl:=lim_eq;have⟨_,_,_,_,_,_⟩:=ha0;unfold Zka
 (with_reducible repeat' first|exact trivial|apply Lf|apply Wb|apply Waf|apply Wx|apply Wi|refine Wa (Zxc _ _ om) λo ho=>?_|refine Wa (Z1p _ _ om) λo ho=>?_|refine Wa (Zjr _ _ om om) λo ho=>?_|refine Wa (Zxl _ _ _ om om om om _ 0 om om om) λo ho=>?_|refine Zzu aS ?_ ?_ (λx _ _ _ _ _ _ _ _=>?_)|apply Ix|apply SIx|apply Wa (p:=λ_=>True)|intro o ho|intro o|dsimp only|(apply Ok.id;rcases(o:_⊕_)with o|o))<;>first|with_reducible assumption|omega|with_reducible exact⟨aS,om⟩|with_reducible exact Ri.l|with_reducible exact Wg7 trivial|with_reducible exact Wg7 om|(with_reducible have:=Ri.o ho;omega)
def Z0y (a1:Zs) (x1:Zbf) (ha1:Zfp a1) (hx1:Zp5 x1) (n:Nat):∀ i:Int,0≤i→i≤a1.Published.length→(a1.Published.length-i).toNat<n→Ok (Zkb a1 x1 n i) (λ_=>True):=by
 induction n with
 |zero=>omega
 |succ n ih=>
  intro i h0 h1 hn;unfold Zkb
  (with_reducible repeat' first|omega|apply Lf|apply Wb|omega|apply Wx|apply Wi|omega|(rw[wn h0 om om];exact ih _ om om om)|apply Ix|apply SIx|apply Wa (p:=λ_=>True)|omega|intro o|dsimp only|omega)<;>first|omega|omega|grind|omega|omega|grind|omega
def Z0z (a1:Zs) (a2:Int) (x1:Zbf) (ha1:Zfp a1) (hx1:Zp5 x1) (g0a2:0≤a2) (ga2:a2≤a1.Hidden.length) (n:Nat):∀ i ,0≤i→i≤a2→(a2-i).toNat<n→Ok (Zkc a1 a2 x1 n i) (λ_=>True):=by
 induction n with
 |zero=>omega
 |succ n ih=>
  intro i h0 h1 hn;unfold Zkc
  (with_reducible repeat' first|omega|apply Lf|apply Wb|omega|apply Wx|apply Wi|omega|(rw[wn h0 om om];exact ih _ om om om)|apply Ix|apply SIx|apply Wa (p:=λ_=>True)|intro o ho|intro o|dsimp only|omega)<;>first|omega|omega|grind|grind|omega|omega|omega
def Z4s (a0:Zb) (a1:Zs) (a2:Int) (ha0:Zbc a0) (ha1:Zfp a1) (g0:0≤a2) (g1:a2<a1.Hidden.length):Ok (Zn4 a0 a1 a2) (λ_=>True):=by
 have hf:=Z6;have hl:=lim_eq;have hd0:a1.Published.length≤1000000:=ha1.2.2.2.2.1.1;have⟨_,_,_,_,_,_⟩:=ha0;have⟨_,_,_,_,_,_,_⟩:=ha1;unfold Zn4
 (with_reducible repeat' first|exact trivial|apply Lf|apply Wb|apply Waf|apply Wx|apply Wi|refine Wa (Zxc _ _ om) λo ho=>?_|refine Wa (Z0y _ _ om (by repeat' (first|assumption|exact trivial|omega|exact sub_ok aS|exact nil_ok|with_reducible refine And.intro ?_ ?_)) _ 0 om om om) λo ho=>?_|refine Wa (Z0z _ _ _ om om om om _ 0 om om om) λo ho=>?_|refine Z1o aS ?_ ?_ (λx _ _ _ _ _ _ _=>?_)|apply Ix|apply SIx|apply Wa (p:=λ_=>True)|intro o ho|intro o|dsimp only|(apply Ok.id;rcases(o:_⊕_)with o|o))<;>first|with_reducible assumption|omega|with_reducible exact⟨aS,om⟩|with_reducible exact Ri.l|with_reducible exact Wg7 trivial|with_reducible exact Wg7 om|(with_reducible have:=Ri.o ho;omega)
def pr7:List Za:=[⟨6,6⟩,⟨17,17⟩,⟨1,1⟩,⟨0,0⟩,⟨2,5⟩,⟨7,16⟩,⟨18,255⟩]
def pr7_ok:∀ y,y∈pr7→ROk 255 y:=by
 intro y hy
 simp  [pr7,W1,Wag,or_false]at hy
 rcases hy with rfl|rfl|rfl|rfl|rfl|rfl|rfl<;>exact⟨dC,dC,dC⟩
def z_rok:ROk 65535 Zao:=⟨dC,dC,dC⟩
structure HIn (h:Zad):Prop where
 m:BOk h.Match
 a:h.Addr=3325256705
 p:ROk 65535 h.Ports
def Zaa0 {T:Zb} {m:Int} {x:Zs} (h:IntOk T m x) {i:Int} (i0:0≤i) (i1:i<x.Hidden.length) (l:List Za) (c:Int) (hl:∀ y,y∈l→ROk 4294967295 y) {j:Int} (j0:0≤j) (j1:j<l.length) (b:Int) (hb:b≤1000) (n:Nat):∀ w k,0≤k→k≤7→w.length≤b+k→(∀ y,y∈w→HIn y)→(7-k).toNat<n→Ok (Zi6 x i (l,c) j n w k) λr=>r.length≤b+7∧∀ y,y∈r→HIn y:=by
 have hlim:=lim_eq
 induction n with
 |zero=>grind
 |succ n ih=>
  intro w k h0 h1 hw hy hn;unfold Zi6;rw[wi (k+1) om om]
  refine Wx (λhc=>?_) λhc=>Wb ⟨om,hy⟩
  simp at hc
  refine Wa (p:=λv=>v.length≤b+(k+1)∧∀ y,y∈v→HIn y) ?_ λv hv=>ih _ _ om om hv.1 hv.2 om
  refine Lf (Ix i0 i1 λu hu=>Ix j0 j1 λz hz=>Wa (Wd0 (l:=pr7) (p:=λq=>q∈pr7) h0 (by simp[pr7];omega) λ_ h=>h) λq hq=>?_)
  have f:=Zmv;have hm:BOk {{full with x0:=z}with x2:=q}:=⟨hl z hz,f.h1,pr7_ok q hq,f.h3,f.h4⟩
  refine Wa (p:=HIn) (Wx (λ_=>Ix i0 i1 λu2 hu2=>Wb ⟨hm,(h.h u hu).addr,by have g:=h.h u2 hu2;have:=g.l;have:=g.h0;have:=g.h1;exact⟨gD,gD,gD⟩⟩) λ_=>Wb ⟨hm,(h.h u hu).addr,z_rok⟩) λv hv=>Ap gD (Wb ⟨gD,λy hyy=>?_⟩)
  grind
def Zaa1 {T:Zb} {m:Int} {x:Zs} (h:IntOk T m x) {i:Int} (i0:0≤i) (i1:i<x.Hidden.length) (l:List Za) (c:Int) (hll:l.length≤41) (hl:∀ y,y∈l→ROk 4294967295 y) (b:Int) (hb:b≤500) (n:Nat):∀ w (j:Int),0≤j→j≤l.length→w.length≤b+7*j→(∀ y,y∈w→HIn y)→(l.length-j).toNat<n→Ok (Zi7 x i (l,c) n w j) λr=>r.length≤b+287∧∀ y,y∈r→HIn y:=by
 have hf:=Z6
 induction n with
 |zero=>grind
 |succ n ih=>
  intro w j h0 h1 hw hy hn;unfold Zi7;rw[wi (j+1) om om]
  exact Wx (λhc=>Wa (Zaa0 h i0 i1 l c hl h0 hc (b+7*j) om fuel w 0 om om om hy om) λv hv=>ih _ _ om gD om hv.2 gD) λhc=>Wb ⟨om,hy⟩
def Zaa2 {T:Zb} (hT:XOk T) {m:Int} {x:Zs} (h:IntOk T m x) (hm:m≤1000) (a:Int) (n:Nat):∀ w (i:Int),0≤i→i≤x.Hidden.length→w.length≤287*i→(∀ y,y∈w→HIn y)→(x.Hidden.length-i).toNat<n→Ok (Zi8 T x a n w i) λr=>r.length≤287∧∀ y,y∈r→HIn y:=by
 have hf:=Z6;have hl:=h.hl
 induction n with
 |zero=>grind
 |succ n ih=>
  intro w i h0 h1 hw hy hn;unfold Zi8;rw[wi (i+1) om om]
  refine Wx (λhc=>Wa (p:=λv=>v.length≤287*(i+1)∧∀ y,y∈v→HIn y) ?_ λv hv=>ih _ _ om om hv.1 hv.2 om) λhc=>Wb ⟨om,hy⟩
  refine Ix h0 hc λu hu=>Wa (Zjr T _ hT.sk (h.h u hu).sk.2.1) λe _=>Wi (λ_=>Wb ⟨om,hy⟩) λ_=>Ix h0 hc λu hu=>Wa (Ztf hT h hm _ (h.h u hu).sk.1) λ⟨l,c⟩ ⟨g1,g2⟩=>Wa (Zaa1 h h0 hc l c g1 (λy hy=>(g2 y hy).rok) (287*i) om fuel w 0 om om om hy gD) λv hv=>Wb ⟨gD,hv.2⟩
def Z7z {T:Zb} (hT:XOk T) {m:Int} {x:Zs} (h:IntOk T m x) (hm:m≤1000) (a:Int):Ok (Zfy T x a) λr=>r.length≤287∧∀ y,y∈r→HIn y:=by
 have hf:=Z6;have hl:=h.hl
 exact Wa (Zaa2 hT h hm a fuel [] 0 om om sM sM om) λv hv=>Wb hv
def Zafq {T:Zb} (hT:XOk T) {m:Int} {x:Zs} (h:IntOk T m x) (hm:m≤1000):Ok (Zph T x) λc=>c=0→∀ e:Int,0≤e→e<T.Edges.length→∀ r,Zfy T x e=some r→r.length≤256:=by
 have hf:=Z6;have hsk:=h.sk hm;have e1:=hT.e1;have pl:=h.pl;have hl:=h.hl
 have L1:∀(n:Nat) (i:Int),0≤i→i≤x.Published.length→(x.Published.length-i).toNat<n→Ok (Zlx T x n i) λo=>∀ c,o=.inr c→c≠0:=by
  intro n
  induction n with
  |zero=>intro i _ _ h;omega
  |succ n ih=>
   intro i h0 h1 hn;unfold Zlx;rw[wi (i+1) om om]
   exact Wx (λhc=>Wa (Z0x T x.Published i hT.sk hsk.2.2.2.2.1 h0 hc) λv _=>Wi (λhv=>Wb λc e=>by cases e;simpa using hv) λ_=>ih _ om om om) λhc=>Wb λc e=>(by cases e)
 have L2:∀(n:Nat) (i:Int),0≤i→i≤x.Hidden.length→(x.Hidden.length-i).toNat<n→Ok (Zly T x n i) λo=>∀ c,o=.inr c→c≠0:=by
  intro n
  induction n with
  |zero=>intro i _ _ h;omega
  |succ n ih=>
   intro i h0 h1 hn;unfold Zly;rw[wi (i+1) om om]
   exact Wx (λhc=>Wa (Z4s T x i hT.sk hsk h0 hc) λv _=>Wi (λhv=>Wb λc e=>by cases e;simpa using hv) λ_=>ih _ om om om) λhc=>Wb λc e=>(by cases e)
 have L3:∀(n:Nat) (i:Int),0≤i→i≤T.Edges.length→(T.Edges.length-i).toNat<n→Ok (Zlz T x n i) λo=>(∀ c,o=.inr c→c≠0)∧(o=.inl ()→∀ e:Int,i≤e→e<T.Edges.length→∀ r,Zfy T x e=some r→r.length≤256):=by
  intro n
  induction n with
  |zero=>intro i _ _ h;omega
  |succ n ih=>
   intro i h0 h1 hn;unfold Zlz;rw[wi (i+1) om om]
   refine Wx (λhc=>?_) λhc=>Wb ⟨λc e=>((by cases e)),λ_ e g1 g2=>om⟩
   obtain⟨r,e,hr⟩:=Z7z hT h hm i;rw[e]
   refine Lf (Wi (λ_=>Wb ⟨λc e=>by cases e;decide,λe=>(by cases e)⟩) λhle=>(ih _ om om om).mono λo ho=>⟨ho.1,λg k k1 k2 s hs=>?_⟩)
   simp only[W4]at hle
   by_cases hk:k=i
   subst hk;rw[e]at hs;cases hs;omega;exact ho.2 g k om k2 s hs
 unfold Zph
 refine Wa (Z7y hT h hm) λv _=>Wi (λhv=>Wb λe=>by rw[e]at hv;simp at hv) λ_=>Wa (L1 _ 0 om om om) λo ho=>?_
 rcases o with o|o
 refine Wa (L2 _ 0 om om om) λo ho=>?_
 rcases o with o|o
 refine Wa (L3 _ 0 om om om) λo ho=>?_
 rcases o with o|o
 exact Wb λ_=>ho.2 rfl
 exact Wb λe=>absurd e (ho.1 o rfl)
 exact Wb λe=>absurd e (ho o rfl)
 exact Wb λe=>absurd e (ho o rfl)
def Zacm (b:Bx) (n:Nat):∀ i ,0≤i→i≤5→(5-i).toNat<n→Ok (Zaw b n i) λ_=>True:=by
 induction n with
 |zero=>grind
 |succ n ih=>
  intro i h0 h1 hn;unfold Zaw;rw[wi (i+1) om om]
  refine Wx (λhc=>Waf om (Waf om (Lf (Wa (p:=λ_=>True) (Wi (λ_=>Wb trivial) λ_=>Waf om ?_) λv _=>Wi (λ_=>Wb trivial) λ_=>ih _ om om om)))) λ_=>Wb trivial
  rw[Top_eq i h0 hc];exact Lf (Wb trivial)
def Zyi (b:Bx):Ok (Zbq b) λ_=>True:=by
 have hf:=Z6
 refine Wa (Zacm b _ 0 om om om) λo _=>?_
 rcases o with o|o<;>exact Wb trivial
def Zacn (a b:Bx) (n:Nat):∀(c:Bx) i,0≤i→i≤5→(5-i).toNat<n→Ok (Zce a b n c i) λ_=>True:=by
 induction n with
 |zero=>omega
 |succ n ih=>
  intro c i h0 h1 hn;unfold Zce;rw[wi (i+1) om om]
  exact Wx gD λ_=>Wb trivial
def Z97 (a b:Bx):Ok (Zc7 a b) λ_=>True:=by
 have hf:=Z6
 refine Wa (Zacn a b _ _ 0 om om om) λc _=>Wa (Zyi a) λv _=>Lf (Wa (p:=λ_=>True) (Wi (λ_=>Wb trivial) λ_=>Wa (Zyi b) λv _=>Wb trivial) λv _=>Lf (Wa (p:=λ_=>True) (Wi (λ_=>Wb trivial) λ_=>Wa (Zyi c) λv _=>Wb trivial) λv _=>Wi (λ_=>Wb trivial) λ_=>Wb trivial))
def Zafr (a b:List Bx) (hb:b.length≤1000000) {i:Int} (i0:0≤i) (i1:i<a.length) (n:Nat):∀ j:Int,0≤j→j≤b.length→(b.length-j).toNat<n→Ok (Zic a b i n j) λ_=>True:=by
 induction n with
 |zero=>grind
 |succ n ih=>
  intro j h0 h1 hn;unfold Zic;rw[wi (j+1) om om]
  exact Wx (λhc=>Ix i0 i1 λx _=>Ix h0 hc λy _=>Wa (Z97 x y) λr _=>Wi (λ_=>Wb trivial) λ_=>ih _ om om om) λ_=>Wb trivial
def Zafs (a b:List Bx) (ha:a.length≤1000000) (hb:b.length≤1000000) (n:Nat):∀ i:Int,0≤i→i≤a.length→(a.length-i).toNat<n→Ok (Zid a b n i) λ_=>True:=by
 have hf:=Z6
 induction n with
 |zero=>omega
 |succ n ih=>
  intro i h0 h1 hn;unfold Zid;rw[wi (i+1) om om]
  refine Wx (λhc=>Wa (Zafr a b hb h0 hc fuel 0 om om om) λo _=>?_) λ_=>Wb trivial
  rcases o with o|o
  exact ih _ om om om;exact Wb trivial
def Zaju (a b:List Bx) (ha:a.length≤1000000) (hb:b.length≤1000000):Ok (Zqb a b) λ_=>True:=by
 have hf:=Z6
 refine Wa (Zafs a b ha hb fuel 0 om om om) λo _=>?_
 rcases o with o|o<;>exact Wb trivial
def Zajv {T:Zb} (hT:XOk T) {p:Zaa} (hp:PoOk p) (i j:Int):Ok (Znc T p i j) λr=>VS r.1:=by
 refine Wa (Zkx hT) λv _=>Wi (λ_=>Wb We8) λ_=>Lf (Lf (Lf (Wi (λ_=>Wb We8) λh=>?_)))
 simp at h
 refine Wi (λ_=>Wb We8) λ_=>Wa (Zacl hT om om om om) λw hw=>Wa (In_ok hp.a sM λy hy=>by rw[Wl.1 hy];exact hw.bin) λr hr=>Wb hr
def Zaa3 (l:List Bx) (b:Bx) (hl:l.length≤1000000) (n:Nat):∀ i:Int,0≤i→i≤l.length→(l.length-i).toNat<n→Ok (Zl1 l b n i) λ_=>True:=by
 induction n with
 |zero=>grind
 |succ n ih=>
  intro i h0 h1 hn;unfold Zl1;rw[wi (i+1) om om]
  exact Wx (λhc=>Ix h0 hc λy _=>Wa (Z97 y b) λr _=>Wi (λ_=>Wb trivial) λ_=>ih _ om om om) λ_=>Wb trivial
def Zaft (l:List Bx) (b:Bx) (hl:l.length≤1000000):Ok (Zsy l b) λ_=>True:=by
 have hf:=Z6
 refine Wa (Zaa3 l b hl fuel 0 om om om) λo _=>?_
 rcases o with o|o<;>exact Wb trivial
structure DmOk (T:Zb) (d:Zap):Prop where
 a0:0≤d.f_a
 a1:d.f_a<T.Devices.length
 b0:0≤d.f_b
 b1:d.f_b<T.Devices.length
 cl:d.f_classes.length≤2
 c:∀ s,s∈d.f_classes→C4 [s]
def PIg.cls {G:List Bx→Prop} {l:List Z7} (h:PIg G l) {x:Z7} (hx:x∈l):C4 [x.Class]:=by
 have g:x.Class∈l.map (·.Class):=W9.2 ⟨x,hx,rfl⟩;have c:=h.c
 unfold C4 at c⊢
 grind
def Zaa4 {T:Zb} (hT:XOk T) {p:Zaa} (hp:PoOk p) {i j:Int} (i0:0≤i) (i1:i<T.Edges.length) (j0:0≤j) (j1:j<T.Edges.length) (n:Nat):∀ a b w (k:Int),0≤k→k≤p.Inspect.length→w.length≤k→(∀ s,s∈w→C4 [s])→(p.Inspect.length-k).toNat<n→Ok (Zi9 T p i j n a b w k) λr=>r.1=a∧r.2.1=b∧r.2.2.length≤2∧∀ s,s∈r.2.2→C4 [s]:=by
 have hlim:=lim_eq;have hl:=hp.i.len
 induction n with
 |zero=>omega
 |succ n ih=>
  intro a b w k h0 h1 hw hy hn;unfold Zi9;rw[wi (k+1) om om]
  refine Wx (λhc=>Wa (p:=λv=>v.length≤k+1∧∀ s,s∈v→C4 [s]) ?_ λv hv=>ih _ _ _ _ om om hv.1 hv.2 om) λhc=>Wb ⟨rfl,rfl,gD,hy⟩
  refine Ix h0 hc λx hx=>Wa (Zacl hT i0 i1 j0 j1) λb hb=>Wa (Zaft x.Set b (by have:=(hp.i.s x hx).len;omega)) λr _=>Wi (λ_=>Ix h0 hc λz hz=>Ap gD (Wb ⟨gD,λs hs=>?_⟩)) λ_=>Wb ⟨om,hy⟩
  rcases Wj.1 hs with hs|hs
  exact hy s hs;rw[Wl.1 hs];exact hp.i.cls hz
def XOk.edev {T:Zb} (h:XOk T) {e:Z2} (he:e∈T.Edges):0≤e.Device∧e.Device<T.Devices.length:=by
 obtain⟨i,_,_,g⟩:=h.edge.mem he;exact⟨g.h0,g.h1⟩
def Zaa5 {T:Zb} (hT:XOk T) {p:Zaa} (hp:PoOk p) {i:Int} (i0:0≤i) (i1:i<T.Edges.length) (n:Nat):∀ w (j:Int),0≤j→j≤T.Edges.length→w.length≤5*i+j→(∀ d,d∈w→DmOk T d)→(T.Edges.length-j).toNat<n→Ok (Zja T p i n w j) λo=>match o with|.inl v=>v.length≤5*(i+1)∧∀ d,d∈v→DmOk T d|.inr v=>v.1=[]:=by
 have hlim:=lim_eq;have hf:=Z6;have e1:=hT.e1;have hl:=hp.i.len
 induction n with
 |zero=>grind
 |succ n ih=>
  intro w j h0 h1 hw hy hn;unfold Zja;rw[wi (j+1) om om]
  refine Wx (λhc=>?_) λhc=>Wb ⟨om,hy⟩
  refine Wa (p:=λo=>match o with|.inl v=>v.length≤5*i+(j+1)∧∀ d,d∈v→DmOk T d|.inr v=>v.1=[]) ?_ λo ho=>?_
  refine Wa (Zajv hT hp i j) λr hr=>Wi (λ_=>Wb rfl) λ_=>Wi (λ_=>Wb ⟨om,hy⟩) λ_=>Ix i0 i1 λx hx=>Ix h0 hc λy hyy=>Wa (Zaa4 hT hp i0 i1 h0 hc fuel _ _ [] 0 om om sM sM om) λ⟨a,b,c⟩ ⟨g1,g2,g3,g4⟩=>Ap gD (Wb ⟨gD,λd hd=>?_⟩)
  rcases Wj.1 hd with hd|hd
  exact hy d hd;rw[Wl.1 hd];have q1:=hT.edev hx;have q2:=hT.edev hyy;exact⟨gD,gD,gD,gD,g3,g4⟩
  rcases o with o|o
  exact ih _ _ om om ho.1 ho.2 om;exact Wb ho
def Zaa6 {T:Zb} (hT:XOk T) {p:Zaa} (hp:PoOk p) (n:Nat):∀ w (i:Int),0≤i→i≤T.Edges.length→w.length≤5*i→(∀ d,d∈w→DmOk T d)→(T.Edges.length-i).toNat<n→Ok (Zjb T p n w i) λo=>match o with|.inl v=>v.length≤25∧∀ d,d∈v→DmOk T d|.inr v=>v.1=[]:=by
 have hf:=Z6;have e1:=hT.e1
 induction n with
 |zero=>grind
 |succ n ih=>
  intro w i h0 h1 hw hy hn;unfold Zjb;rw[wi (i+1) om om]
  refine Wx (λhc=>Wa (Zaa5 hT hp h0 hc fuel w 0 om om om hy om) λo ho=>?_) λhc=>Wb ⟨om,hy⟩
  rcases o with o|o
  exact ih _ _ om om ho.1 ho.2 om;exact Wb ho
def Zafu {T:Zb} (hT:XOk T) {p:Zaa} (hp:PoOk p):Ok (Zra T p) λr=>r.1.length≤25∧∀ d,d∈r.1→DmOk T d:=by
 have hf:=Z6;have e1:=hT.e1
 refine Wa (Zaa6 hT hp fuel [] 0 om om sM sM om) λo ho=>?_
 rcases o with o|⟨o,c⟩
 exact Wb ho;subst ho;exact Wb ⟨sM,sM⟩
def Zxm (a0:Ya) (a1:Int) (ha0:Zut a0) (n:Nat):∀ i:Int,0≤i→i≤a0.length→(a0.length-i).toNat<n→Ok (Zcc a0 a1 n i) (λ_=>True):=by
 induction n with
 |zero=>omega
 |succ n ih=>
  intro i h0 h1 hn;unfold Zcc;rw[wi (i-1) om om]
  (with_reducible repeat' first|omega|apply Lf|apply Wb|omega|apply Wx|apply Wi|omega|(rw[wn h0 om om])|apply Ix|omega|apply Wa (p:=λ_=>True)|omega|intro o|omega|grind)<;>first|omega|omega|grind|omega|omega|grind|omega
def Z00 (a0:Ya) (a1:Int) (ha0:Zut a0):Ok (Zdo a0 a1) (λ_=>True):=by
 have hf:=Z6;unfold Zdo
 (with_reducible repeat' first|omega|omega|apply Wb|omega|grind|grind|refine Wa (Zxm _ _ gD _ 0 om om om) λo ho=>?_|grind|omega|grind|grind|intro o|omega|(rcases o with o|o))<;>first|grind|omega|grind|omega|grind|grind|omega
def Zlh (a0:Zb) (a1:Zp) (ha0:Zbc a0) (ha1:Zbn a1):Ok (Zbj a0 a1) (λ_=>True):=by
 have⟨_,_,_⟩:=ha1;unfold Zbj
 (with_reducible repeat' first|omega|omega|apply Wb|omega|omega|apply Wi|refine Wa (Zta _ om) λo ho=>?_|refine Wa (Z00 _ _ om) λo ho=>?_|omega|omega|apply Wa (p:=λ_=>True)|omega|intro o|omega|omega)<;>first|omega|omega|grind|omega|grind|grind|omega
def Z4t (a0:Ya) (a1:Int) (ha0:Zut a0) (n:Nat):∀ i:Int,0≤i→i≤a0.length→(a0.length-i).toNat<n→Ok (Zg4 a0 a1 n i) (λ_=>True):=by
 induction n with
 |zero=>omega
 |succ n ih=>
  intro i h0 h1 hn;unfold Zg4
  (with_reducible repeat' first|omega|apply Lf|apply Wb|omega|apply Wx|apply Wi|grind|(rw[wn h0 om om])|apply Ix|omega|omega|omega|intro o|omega|grind)<;>first|omega|omega|omega|grind|omega|grind|omega
def Zuz (a0:Ya) (a1:Int) (ha0:Zut a0):Ok (Zk1 a0 a1) (λ_=>True):=by
 have hf:=Z6;unfold Zk1
 (with_reducible repeat' first|omega|omega|apply Wb|omega|grind|grind|refine Wa (Z4t _ _ gD _ 0 om om om) λo ho=>?_|grind|omega|omega|omega|intro o|omega|(rcases o with o|o))<;>first|omega|omega|omega|grind|grind|omega|omega
def Ztg (a0:Zb) (a1:Zp) (a2:Int) (ha0:Zbc a0) (ha1:Zbn a1):Ok (Za2 a0 a1 a2) (λ_=>True):=by
 have⟨_,_,_⟩:=ha1;unfold Za2
 (with_reducible repeat' first|omega|omega|apply Wb|omega|omega|apply Wi|refine Wa (Zlh _ _ om om) λo ho=>?_|refine Wa (Zuz _ _ om) λo ho=>?_|omega|omega|simp_all|omega|intro o|omega|grind)<;>first|omega|omega|omega|omega|grind|grind|grind
def Z3t {T:Zb} (hT:XOk T) {f:Zp} (hf:Zbn f) (i:Int):Ok (Zc9 T f i) λv=>v=true→0≤i∧i<T.Links.length:=by
 have hs:=hT.sk
 refine Wa (Zlh T f hs hf) λv _=>Lf (Lf (Lf (Wa (p:=λw=>w=true→0≤i∧i<T.Links.length) (Wi (λh=>?_) λ_=>Wb sM) λw hw=>Lf ?_)))
 simp at h
 have b:0≤i∧i<T.Links.length:=⟨om,om⟩
 exact Wa (Zuz f.Links i hf.1) λv _=>Wb λ_=>b
 refine Wa (p:=λw=>w=true→0≤i∧i<T.Links.length) (Wi (λh=>Ix (hw h).1 (hw h).2 λl _=>Wa (Ztg T f l.A hs hf) λv _=>Wb λ_=>hw h) λ_=>Wb sM) λu hu=>Lf ?_
 exact Wa (p:=λw=>w=true→0≤i∧i<T.Links.length) (Wi (λh=>Ix (hu h).1 (hu h).2 λl _=>Wa (Ztg T f l.B hs hf) λv _=>Wb λ_=>hu h) λ_=>Wb sM) λu hu=>Wb hu
def Zafv {T:Zb} (hT:XOk T) {f:Zp} (hf:Zbn f) (n:Nat):∀ w (i:Int),0≤i→i≤T.Devices.length→w.length=i→(T.Devices.length-i).toNat<n→Ok (Zgn T f n w i) λr=>r.length=T.Devices.length:=by
 have hlim:=lim_eq;have d1:=hT.d1
 induction n with
 |zero=>omega
 |succ n ih=>
  intro w i h0 h1 hw hn;unfold Zgn;rw[wi (i+1) om om]
  refine Wx (λhc=>Wa (p:=λv=>v.length=i+1) (Wa (Ztg T f i hT.sk hf) λv _=>Wi (λ_=>Ap gD (Wb gD)) λ_=>Ap gD (Wb sA)) λv hv=>ih _ _ om om hv om) λhc=>Wb om
def Zafw {T:Zb} (hT:XOk T) {f:Zp} (hf:Zbn f) (n:Nat):∀(w:List Int) (i:Int),0≤i→i≤T.Links.length→w.length=T.Devices.length→(T.Links.length-i).toNat<n→Ok (Zgo T f n w i) λr=>r.length=T.Devices.length:=by
 have d1:=hT.d1;have k1:=hT.k1
 induction n with
 |zero=>intro w i _ _ _ h;omega
 |succ n ih=>
  intro w i h0 h1 hw hn;unfold Zgo;rw[wi (i+1) om om]
  refine Wx (λhc=>Wa (p:=λv:List Int=>v.length=T.Devices.length) (Wa (Z3t hT hf i) λv hv=>Wi (λh=>?_) λ_=>Wb hw) λv hv=>ih _ _ om om hv om) λhc=>Wb hw
  refine IxN (hv h).1 (hv h).2 λx hx=>IxN (hv h).1 (hv h).2 λy hy=>?_
  rw[hx]at hy;have e:=Waw hy;subst e;have g:=hT.link x (Wq hx);have g0:=g.h0;have g1:=g.h1;have g2:=g.h2
  exact Ix om om λa _=>Ix om om λb _=>Ix om om λc _=>Ix om sO λd _=>Ix om sO λe _=>Wb sO
def Zafx {T:Zb} (hT:XOk T) {f:Zp} (hf:Zbn f) (n:Nat):∀(w:List Int) (i:Int),0≤i→i≤T.Devices.length→w.length=T.Devices.length→(T.Devices.length-i).toNat<n→Ok (Zgp T f n w i) λr=>r.length=T.Devices.length:=by
 have d1:=hT.d1;have k1:=hT.k1;have hfu:=Z6
 induction n with
 |zero=>intro w i _ _ _ h;omega
 |succ n ih=>
  intro w i h0 h1 hw hn;unfold Zgp;rw[wi (i+1) om om]
  exact Wx (λhc=>Wa (Zafw hT hf fuel w 0 om om hw om) λv hv=>ih _ _ om om hv om) λhc=>Wb hw
def Zaa7 {T:Zb} (hT:XOk T) {f:Zp} (hf:Zbn f):Ok (Zjc T f) λr=>Zbj T f=some true→r.length=T.Devices.length:=by
 have hfu:=Z6;have d1:=hT.d1;unfold Zjc;obtain⟨v,e,_⟩:=Zlh T f hT.sk hf;rw[e]
 refine Lf (Wi (λh=>Wb λg=>?_) λh=>Wa (Zafv hT hf fuel [] 0 om om rfl om) λw hw=>Wa (Zafx hT hf fuel w 0 om om hw om) λu hu=>Wb λ_=>hu)
 grind
def Zth {T:Zb} (hT:XOk T) {f:Zp} (hf:Zbn f) (i:Int):Ok (Za2 T f i) λr=>r=true→Zbj T f=some true∧0≤i∧i<T.Devices.length:=by
 unfold Za2;obtain⟨v,e,_⟩:=Zlh T f hT.sk hf;rw[e]
 refine Lf (Lf (Lf (Lf (Wa (p:=λr=>r=true→some v=some true∧0≤i∧i<T.Devices.length) (Wi (λh=>?_) λ_=>Wb sM) λw hw=>Wb hw))))
 simp at h
 have b:some v=some true∧0≤i∧i<T.Devices.length:=⟨gD,om,om⟩
 exact Wa (Zuz f.Devices i hf.2.1) λv _=>Wb λ_=>b
def Z3u {T:Zb} (hT:XOk T) {f:Zp} (hf:Zbn f) (i j:Int):Ok (Zkd T f i j) λ_=>True:=by
 refine Wa (Zaa7 hT hf) λc hc=>Wa (Zth hT hf i) λv hv=>Lf (Wa (p:=λr=>r=true→(Zbj T f=some true∧0≤i∧i<T.Devices.length)∧0≤j∧j<T.Devices.length) (Wi (λh=>Wa (Zth hT hf j) λu hu=>Wb λg=>⟨hv h,(hu g).2⟩) λ_=>Wb sM) λw hw=>Lf (Wa (p:=λ_=>True) (Wi (λh=>?_) λ_=>Wb trivial) λw hw=>Wb trivial))
 have g:=hw h;have l:=hc g.1.1
 exact Ix g.1.2.1 om λx _=>Ix g.2.1 om λy _=>Wb trivial
def Zu4 {T:Zb} (hT:XOk T) {f:Zp} (hf:Zbn f) (i:Int):Ok (Zg5 T f i) λr=>r=true→0≤i∧i<T.Devices.length:=by
 refine Wa (Zlh T f hT.sk hf) λv _=>Lf (Lf (Wb λh=>?_))
 grind
def IxM {α γ:Type} {m:Nat} {l:List α} {i:Int} {f:α→Option γ} {q:γ→Prop} (hm:m=l.length) (h0:0≤i) (h1:i<l.length) (k:∀ x,x∈l→Ok (f x) q):Ok ((idxn m l i).bind f) q:=by
 unfold idxn;rw[if_pos ⟨h0,om⟩];exact Ix h0 h1 k
def Zaco (l:List Int) {i j:Int} (i0:0≤i) (i1:i<l.length) (j0:0≤j) (j1:j<l.length) (c:Int):Ok (Zpk l.length l i j c) λr=>r.length=l.length:=by
 refine IxM rfl j0 j1 λx _=>Lf (Wa (p:=λ_=>True) (Wi (λ_=>IxM rfl i0 i1 λy _=>Lf (Wa (p:=λ_=>True) (Wi (λ_=>Wb trivial) λ_=>IxM rfl j0 j1 λy _=>IxM rfl i0 i1 λy _=>Wb trivial) λ_ _=>Wb trivial)) λ_=>Wb trivial) λv _=>Wi (λ_=>IxM rfl j0 j1 λy _=>IxM rfl i0 i1 λy _=>Wb sM) λ_=>Wb rfl)
def Z70 {T:Zb} (hT:XOk T) (n:Nat):∀ w (i:Int),0≤i→i≤T.Devices.length→w.length=i→(T.Devices.length-i).toNat<n→Ok (Zhm T n w i) λr=>r.length=T.Devices.length:=by
 have hlim:=lim_eq;have d1:=hT.d1
 induction n with
 |zero=>grind
 |succ n ih=>
  intro w i h0 h1 hw hn;unfold Zhm;rw[wi (i+1) om om]
  exact Wx gD λhc=>Wb om
def Zafy {T:Zb} (hT:XOk T) {f:Zp} (hf:Zbn f) (n:Nat):∀ w (i:Int),0≤i→i≤T.Links.length→w.length=T.Devices.length→(T.Links.length-i).toNat<n→Ok (Zhn T f n w i) λr=>r.length=T.Devices.length:=by
 have d0:=hT.d0;have k1:=hT.k1
 induction n with
 |zero=>grind
 |succ n ih=>
  intro w i h0 h1 hw hn;unfold Zhn;rw[wi (i+1) om om]
  have ne:∀ v:List Int,v.length=T.Devices.length→v≠[]:=λv hv e=>gD
  refine Wx (λhc=>Wa (p:=λv:List Int=>v.length=T.Devices.length) (Wa (Z3t hT hf i) λv hv=>Wi (λh=>?_) λ_=>Wb hw) λv hv=>ih _ _ om om hv om) λhc=>Wb hw
  have q:=hv h
  refine IxN q.1 q.2 λx hx=>IxN q.1 q.2 λy hy=>IxN q.1 q.2 λz hz=>Waf (ne w hw) ?_
  have e1:=Waw (hx.symm.trans hy);have e2:=Waw (hx.symm.trans hz);subst e1 e2;have g:=hT.link x (Wq hx);have g0:=g.h0;have g1:=g.h1;have g2:=g.h2
  refine Wa (Zaco w om om om om _) λr hr=>Waf hr (IxN q.1 q.2 λy hy=>IxN q.1 q.2 λz hz=>IxN q.1 q.2 λu hu=>Waf (ne r om) ?_)
  have e1:=Waw (hx.symm.trans hy);have e2:=Waw (hx.symm.trans hz);have e3:=Waw (hx.symm.trans hu);subst e1 e2 e3
  exact Wa (Zaco r om om om om _) λs hs=>Waf hs (Wb om)
def Z71 {T:Zb} (hT:XOk T) {f:Zp} (hf:Zbn f) (n:Nat):∀ w (i:Int),0≤i→i≤T.Devices.length→w.length=T.Devices.length→(T.Devices.length-i).toNat<n→Ok (Zho T f n w i) λr=>r.length=T.Devices.length:=by
 have d1:=hT.d1;have k1:=hT.k1;have hfu:=Z6
 induction n with
 |zero=>grind
 |succ n ih=>
  intro w i h0 h1 hw hn;unfold Zho;rw[wi (i+1) om om]
  exact Wx (λhc=>Wa (Zafy hT hf fuel w 0 om om hw om) λv hv=>ih _ _ om om hv om) λhc=>Wb hw
def Z3v {T:Zb} (hT:XOk T) {f:Zp} (hf:Zbn f) (i:Int):Ok (Zdp T f i) λr=>r=[]∨r.length=T.Devices.length:=by
 have d1:=hT.d1;have hfu:=Z6
 refine Wa (Zu4 hT hf i) λv hv=>Wi (λ_=>Wb (.inl rfl)) λh=>?_
 have g:=hv gD
 refine Wa (Z70 hT fuel [] 0 om om rfl om) λw hw=>Wa (p:=λu=>u.length=T.Devices.length) (Wa (Zth hT hf i) λv _=>Wi (λ_=>Ix g.1 om λx _=>Wb gD) λ_=>Wb hw) λu hu=>Wa (Z71 hT hf fuel u 0 om om hu om) λr hr=>Wb (.inr hr)
def Zacp {T:Zb} (hT:XOk T) (c:ByteArray) (r s:List Int) (hr:r=[]∨r.length=T.Devices.length) (hs:s=[]∨s.length=T.Devices.length) (n:Nat):∀(a b i:Int),-1≤a→a<T.Devices.length→0≤i→i≤T.Devices.length→(T.Devices.length-i).toNat<n→Ok (Zke T c r s n a b i) λv=>-1≤v∧v<T.Devices.length:=by
 have d1:=hT.d1
 have hrl:r.length≤T.Devices.length:=by
  grind
 induction n with
 |zero=>grind
 |succ n ih=>
  intro a b i ha0 ha1 h0 h1 hn;unfold Zke;rw[wi (i+1) om om]
  refine Lf (Lf (Wi (λh=>?_) λ_=>Wb ⟨ha0,ha1⟩))
  simp at h
  have q1:=h.1.1;have q2:=h.1.2
  refine Wa (p:=λo:Int×Int=>-1≤o.1∧o.1<T.Devices.length) ?_ λ⟨u,v⟩ ho=>ih _ _ _ ho.1 ho.2 om om om
  refine Ix h0 om λx _=>Lf (Wa (p:=λ_=>True) (Wi (λ_=>Wb trivial) λ_=>Ix h0 q1 λy _=>Wb trivial) λv _=>Lf (Wa (p:=λ_=>True) (Wi (λ_=>Wb trivial) λ_=>Ix h0 q2 λy _=>Wb trivial) λv _=>Wi (λ_=>Wb ⟨ha0,ha1⟩) λ_=>Lf (Wa (p:=λ_=>True) (Wi (λ_=>Wb trivial) λ_=>Ix h0 q1 λy _=>Ix h0 q2 λz _=>Wb trivial) λv _=>Wi (λ_=>Ix h0 q1 λy _=>Ix h0 q2 λz _=>Wb ⟨om,gD⟩) λ_=>Wb ⟨ha0,ha1⟩)))
def Zag5 {T:Zb} (hT:XOk T) {f:Zp} (hf:Zbn f) (c:ByteArray) (i j:Int):Ok (Zr7 T f c i j) λv=>-1≤v∧v<T.Devices.length:=by
 have d1:=hT.d1;have hfu:=Z6
 exact Wa (Z3v hT hf i) λr hr=>Wa (Z3v hT hf j) λs hs=>Wa (Zacp hT c r s hr hs fuel _ _ 0 om om om om om) λv hv=>Wb hv
def Zafz {T:Zb} (hT:XOk T) {f:Zp} (hf:Zbn f) {d:Zap} (hd:DmOk T d):Ok (Zrb T f d) λ_=>True:=by
 have hfu:=Z6;have cl:=hd.cl
 have L:∀ n (i:Int),0≤i→i≤d.f_classes.length→(d.f_classes.length-i).toNat<n→Ok (Zjd T f d n i) λ_=>True:=by
  intro n
  induction n with
  |zero=>grind
  |succ n ih=>
   intro i h0 h1 hn;unfold Zjd;rw[wi (i+1) om om]
   exact Wx (λhc=>Ix h0 hc λx _=>Wa (Zag5 hT hf _ _ _) λv _=>Wi (λ_=>Wb trivial) λ_=>ih _ om om om) λ_=>Wb trivial
 refine Wa (Zth hT hf _) λv _=>Lf (Wa (p:=λ_=>True) (Wi (λ_=>Wb trivial) λ_=>Wa (Zth hT hf _) λv _=>Wb trivial) λv _=>Wi (λ_=>Wb trivial) λ_=>Wa (Z3u hT hf _ _) λv _=>Wi (λ_=>Wb trivial) λ_=>Wa (L _ 0 om om om) λo _=>?_)
 rcases o with o|o<;>exact Wb trivial
structure F2 (f:Zp):Prop where
 l:f.Links.length≤2∧∀ y∈f.Links,sk_i64 y
 d:f.Devices.length≤2∧∀ y∈f.Devices,sk_i64 y
def F2.sk {f:Zp} (h:F2 f):Zbn f:=⟨⟨by have:=h.l.1;omega,h.l.2⟩,⟨by have:=h.d.1;omega,h.d.2⟩,trivial⟩
def of_ok {T:Zb} (hT:XOk T) (l:List Int) (hl:l.length≤2) (hx:∀ x,x∈l→0≤x∧x≤14):Ok (Zsn T l) F2:=by
 have hlim:=lim_eq;have hfu:=Z6
 have L:∀ n a b (i:Int),0≤i→i≤l.length→a.length≤i→b.length≤i→(∀ y∈a,sk_i64 y)→(∀ y∈b,sk_i64 y)→(l.length-i).toNat<n→Ok (Zpj T l n a b i) λr=>F2 ⟨r.1,r.2⟩:=by
  intro n
  induction n with
  |zero=>omega
  |succ n ih=>
   intro a b i h0 h1 ha hb hay hby hn;unfold Zpj;rw[wi (i+1) om om]
   refine Wx (λhc=>Wa (p:=λo=>o.1.length≤i+1∧o.2.length≤i+1∧(∀ y∈o.1,sk_i64 y)∧∀ y∈o.2,sk_i64 y) ?_ λ⟨u,v⟩ ho=>ih _ _ _ om om ho.1 ho.2.1 ho.2.2.1 ho.2.2.2 om) λ_=>Wb ⟨⟨gD,hay⟩,⟨gD,hby⟩⟩
   refine Ix h0 hc λx _=>Wx (λ_=>Ix h0 hc λz hz=>Ap gD (Wb ⟨gD,sO,hay,λy hy=>?_⟩)) λ_=>Ix h0 hc λz hz=>Ap sO (Wb ⟨sO,gD,λy hy=>?_,hby⟩)
   rcases Wj.1 hy with hy|hy
   exact hby y hy;rw[Wl.1 hy];have:=hx z hz;omega
   rcases Wj.1 hy with hy|hy
   exact hay y hy;rw[Wl.1 hy];exact Zafe _
 exact Wa (L fuel [] [] 0 om om sM sM sM sM om) λ⟨u,v⟩ hv=>Wb hv
def Zag6 {T:Zb} (hT:XOk T) (n:Nat):∀ w (i:Int),0≤i→i≤T.Devices.length+T.Links.length→w.length≤1+i→(∀ f,f∈w→F2 f)→(T.Devices.length+T.Links.length-i).toNat<n→Ok (Zn5 T n w i) λr=>r.length≤15∧∀ f,f∈r→F2 f:=by
 have hlim:=lim_eq;have d1:=hT.d1;have k1:=hT.k1
 induction n with
 |zero=>omega
 |succ n ih=>
  intro w i h0 h1 hw hy hn;unfold Zn5;rw[wi (i+1) om om,wi (T.Devices.length+T.Links.length) om om]
  refine Lf (Wi (λh=>?_) λ_=>Wb ⟨om,hy⟩)
  simp at h
  refine Wa (of_ok hT [i] sM λx hx=>gD) λf hf=>Ap gD (ih _ _ om om gD (λg hg=>?_) om)
  grind
def Zag7 {T:Zb} (hT:XOk T) (j:Int) (j0:0≤j) (j1:j≤14) (b:Int) (hb:b≤10000) (n:Nat):∀ w i,0≤i→i≤15→w.length≤b+i→(∀ f,f∈w→F2 f)→(15-i).toNat<n→Ok (Zn6 T j n w i) λr=>r.length≤b+15∧∀ f,f∈r→F2 f:=by
 have hlim:=lim_eq;have d1:=hT.d1;have k1:=hT.k1
 induction n with
 |zero=>grind
 |succ n ih=>
  intro w i h0 h1 hw hy hn;unfold Zn6;rw[wi (i+1) om om,wi (T.Devices.length+T.Links.length) om om]
  refine Wx (λhc=>Wa (of_ok hT [j,i] sM λx hx=>?_) λf hf=>Ap gD (ih _ _ om om gD (λg hg=>?_) om)) λ_=>Wb ⟨om,hy⟩
  simp at hx
  omega
  grind
def Zag8 {T:Zb} (hT:XOk T) (n:Nat):∀(w:List Zp) (i:Int),0≤i→i≤T.Devices.length+T.Links.length→w.length≤15+15*i→(∀ f,f∈w→F2 f)→(T.Devices.length+T.Links.length-i).toNat<n→Ok (Zn7 T n w i) λr=>r.length≤300∧∀ f,f∈r→F2 f:=by
 have hlim:=lim_eq;have hfu:=Z6;have d1:=hT.d1;have k1:=hT.k1
 induction n with
 |zero=>intro w i _ _ _ _ h;omega
 |succ n ih=>
  intro w i h0 h1 hw hy hn;unfold Zn7;rw[wi (i+1) om om,wi (T.Devices.length+T.Links.length) om om]
  refine Lf (Wi (λh=>?_) λ_=>Wb ⟨om,hy⟩)
  simp only[Wh,W4]at h
  exact Wa (Zag7 hT i h0 om (15+15*i) om fuel w (i+1) om om om hy om) λv hv=>ih _ _ om om (by have:=hv.1;omega) hv.2 om
def Zaia {T:Zb} (hT:XOk T):Ok (Zrp T) λr=>r.length≤300∧∀ f,f∈r→F2 f:=by
 have hfu:=Z6;have d1:=hT.d1;have k1:=hT.k1;unfold Zrp
 refine Wa (Zta T hT.sk) λv _=>Wi (λ_=>Wb ⟨sM,sM⟩) λ_=>Wa (Zag6 hT fuel _ 0 om om sM (λf hf=>?_) om) λw hw=>Wa (Zag8 hT fuel w 0 om om (by have:=hw.1;omega) hw.2 om) λr hr=>Wb hr
 rw[Wl.1 hf];exact⟨⟨sM,sM⟩,⟨sM,sM⟩⟩
def LC {ρ:Type} {L:Nat→Int→Option ρ} {m:Int} {Q:ρ→Prop} (h0:0≤m) (hm:m≤1000000000000) (step:∀ n i,0≤i→i<m→Ok (L n (i+1)) Q→Ok (L (n+1) i) Q) (stop:∀ n,Ok (L (n+1) m) Q):Ok (L fuel 0) Q:=by
 have hf:=Z6
 have key:∀ n i,0≤i→i≤m→(m-i).toNat<n→Ok (L n i) Q:=by
  intro n
  induction n with
  |zero=>grind
  |succ n ih=>
   grind
 grind
def idx_of {α:Type} {l:List α} {i:Int} (i0:0≤i) (i1:i<l.length):idx l i=some (l[i.toNat]'om):=by
 have hi:=om
 simp[AM.idx,i0]
def Zajw {a b c:List Bx} (ha:VS a) (hb:∀ x∈b,BOk x) (hbl:b.length≤1000) (hc:VS c) (hm:∀ p,vP tops5 p→mem b p=mem c p):∃ r,Zdn a b=some r∧(r=true↔∀ p,vP tops5 p→mem a p=true→mem b p=true):=by
 have la:=ha.len;have hC:=Zrl oW a c;have hC2:Can oW a b (can oW a c):=⟨hC.cf,λp hp=>by rw[hC.mem p hp,hm p hp]⟩;unfold Zdn;rw[Zvg om,Zvg om];simp only[Wc];rw[Wbr.2 λx hx=>ok_vB (ha.ok x hx),Wbr.2 λx hx=>ok_vB (hb x hx)];rw[Zyd (k:=2) om ha.ok hb (hC2) (hC.size2 rfl ha.cf hc.cf ha.len hc.len)]
 refine⟨_,rfl,?_⟩
 have e:((can oW a c).length==(0:Int))=true↔can oW a c=[]:=sM
 rw[e,hC.cf.nil_iff];constructor;intro h p hp hm;have:=h p hp;rw[hC2.mem p hp,oW,hm]at this
 simpa using this
 intro h p hp;rw[hC2.mem p hp,oW]
 grind
def tp (k:Nat):Zb:=⟨[],[],(subnets.take k).map λp=>⟨ByteArray.empty,0,ByteArray.empty,p,false⟩,[],0⟩
def tp_len {k:Nat} (h:k≤6):(tp k).Edges.length=k:=by unfold tp subnets;grind
def Zaib {T:Zb} (hT:XOk T) {i j:Int} (i0:0≤i) (i1:i<T.Edges.length) (j0:0≤j) (j1:j<T.Edges.length):Zbi T i j=Zbi (tp T.Edges.length) i j:=by
 have e1:=hT.e1
 have key:∀ i:Int,0≤i→i<T.Edges.length→∃ x y,idx T.Edges i=some x∧idx (tp T.Edges.length).Edges i=some y∧x.Prefix=y.Prefix:=by
  intro i i0 i1
  have hi:i.toNat<T.Edges.length:=om
  have hi2:i.toNat<(tp T.Edges.length).Edges.length:=by rw[tp_len om];omega
  refine⟨T.Edges[i.toNat],(tp T.Edges.length).Edges[i.toNat],by simp[AM.idx,i0],by simp[AM.idx,i0],?_⟩
  have g:=(hT.edge i.toNat T.Edges[i.toNat] gD).pre;simp  [tp]
  grind
 unfold Zbi
 grind
def Zaic {T:Zb} (hT:XOk T) {i:Int} (i0:0≤i) (i1:i<T.Edges.length) (n:Nat):∀(w:List Bx) (j:Int),0≤j→j≤T.Edges.length→Zip T i n w j=Zip (tp T.Edges.length) i n w j:=by
 have e1:=hT.e1
 induction n with
 |zero=>intro w j _ _;rfl
 |succ n ih=>
  intro w j j0 j1;unfold Zip;rw[tp_len om,wi (j+1) om om]
  by_cases h:j<T.Edges.length
  rw[if_pos (Wf h),if_pos (Wf h),Zaib hT i0 i1 j0 h]
  congr 1
  funext v
  exact ih v _ om om
  grind
def Zaid {T:Zb} (hT:XOk T) (n:Nat):∀(w:List Bx) (i:Int),0≤i→i≤T.Edges.length→Zel T n w i=Zel (tp T.Edges.length) n w i:=by
 have e1:=hT.e1
 induction n with
 |zero=>intro w j _ _;rfl
 |succ n ih=>
  intro w i i0 i1;unfold Zel;rw[tp_len om,wi (i+1) om om]
  by_cases h:i<T.Edges.length
  rw[if_pos (Wf h),if_pos (Wf h),Zaic hT i0 h fuel w 0 om om]
  congr 1
  funext v
  exact ih v _ om om
  grind
def rl (k:Nat):List Bx:=(Zel (tp k) fuel [] 0).getD []
def rc (k:Nat):List Bx:=((Zeu (rl k)).getD ([],1)).1
def rlB (b:Bx):Bool:=let r (x:Za) (t:Int):=decide (0≤x.Lo)&&decide (x.Lo≤x.Hi)&&decide (x.Hi≤t);r b.x0 4294967295&&r b.x1 4294967295&&r b.x2 255&&r b.x3 65535&&r b.x4 65535
def rlB_ok {b:Bx} (h:rlB b=true):BOk b:=by
 simp  [rlB,Wh,W4]at h
 obtain⟨⟨⟨⟨⟨⟨a1,a2⟩,a3⟩,⟨b1,b2⟩,b3⟩,⟨c1,c2⟩,c3⟩,⟨d1,d2⟩,d3⟩,⟨e1,e2⟩,e3⟩:=h;exact⟨⟨a1,a2,a3⟩,⟨b1,b2,b3⟩,⟨c1,c2,c3⟩,⟨d1,d2,d3⟩,⟨e1,e2,e3⟩⟩
structure Rk (k:Nat):Prop where
 e:Zel (tp k) fuel [] 0=some (rl k)
 m:Zeu (rl k)=some (rc k,0)
 b:(rl k).all rlB=true
 l:(rl k).length≤1000
def Rk.all:∀ k,k≤5→Rk k:=by
 intro k hk
 rcases(by omega:k=0∨k=1∨k=2∨k=3∨k=4∨k=5)with rfl|rfl|rfl|rfl|rfl|rfl<;>exact⟨kR,kR,kR,Wb9 kR⟩
def Zajx {T:Zb} (hT:XOk T) {a:List Bx} (ha:VS a):Ok (Zqo T a) λ_=>True:=by
 have e1:=hT.e1;have g:=Rk.all T.Edges.length om
 have hb:=λx hx=>rlB_ok (W7.1 g.b x hx)
 have q:=Waw ((Z6b (by have:=g.l;omega) λx hx=>(hb x hx).bin).symm.trans g.m);have w:=mkF_ok ((rl T.Edges.length).filter vB) [] We8;have q2:mkF [] ((rl T.Edges.length).filter vB)=(rc T.Edges.length,0):=q;rw[q2,Wbr.2 λx hx=>ok_vB (hb x hx)]at w;have hc:=w.1.vs
 have hm:=λp hp=>by
  have:=w.2 rfl p hp;exact this.symm
 unfold Zqo;rw[Zaid hT fuel [] 0 om om,g.e];obtain⟨r,h1,_⟩:=Zajw ha hb g.l hc hm;obtain⟨s,h2,_⟩:=Z7n ha ini_vs;exact Lf (Wa (p:=λ_=>True) ⟨r,h1,trivial⟩ λv _=>Lf (Wa (p:=λ_=>True) (Wi (λ_=>Lf (Wa (p:=λ_=>True) ⟨s,h2,trivial⟩ λv _=>Wb trivial)) λ_=>Wb trivial) λv _=>Wb trivial))
def Zaey {a:List Bx} (ha:VS a):Ok (Zea a) λ_=>True:=⟨_,rVal (by have:=ha.len;omega) ha.bin,trivial⟩
def Sub_ok {a b:List Bx} (ha:VS a) (hb:VS b):Ok (Zdn a b) λ_=>True:=by
 obtain⟨r,h,_⟩:=Z7n ha hb;exact⟨r,h,trivial⟩
def C4.sk {s:ByteArray} (h:C4 [s]):sk_str s:=by
 rcases h with h|h|h|h<;>simp at h<;>rw[h]<;>decide
def Z72 {T:Zb} (hT:XOk T) {p:Zaa} (hp:PoOk p):Ok (Zpi T p) λ_=>True:=by
 have hl:=hp.i.len
 have L2:∀(i:Int) x,0≤i→i<p.Inspect.length→x∈p.Inspect→Ok (Zl0 p i x fuel 0) λ_=>True:=by
  intro i x i0 i1 hx
  refine LC i0 om (λn j j0 j1 ih=>?_) λn=>?_
  unfold Zl0;rw[wi (j+1) om om]
  exact Wx (λ_=>Ix j0 om λy hy=>Wa (Zaju _ _ (by have:=(hp.i.s x hx).len;omega) (by have:=(hp.i.s y hy).len;omega)) λr _=>Wi (λ_=>Wb trivial) λ_=>ih) λ_=>Wb trivial
  exact Wx om λ_=>Wb trivial
 have L1:Ok (Zhv p fuel 0) λ_=>True:=by
  refine LC (m:=p.Inspect.length) om om (λn i i0 i1 ih=>?_) λn=>?_
  unfold Zhv;rw[wi (i+1) om om,wi (i-1) om om]
  refine Wx (λ_=>Ix i0 i1 λx hx=>Wa (Zcd _ (hp.i.cls hx).sk) λr _=>Lf (Wa (p:=λ_=>True) (Wi (λ_=>Wb trivial) λ_=>Lf (Wa (p:=λ_=>True) (Wx (λ_=>Ix om om λy _=>Wb trivial) λ_=>Wb trivial) λv _=>Wb trivial)) λv _=>Lf (Lf (Wa (p:=λ_=>True) (Wi (λ_=>Wb trivial) λ_=>Wa (Zaey (hp.i.s x hx)) λv _=>Wb trivial) λv _=>Lf (Wa (p:=λ_=>True) (Wi (λ_=>Wb trivial) λ_=>Wa (Sub_ok (hp.i.s x hx) hp.a) λv _=>Wb trivial) λv _=>Wi (λ_=>Wb trivial) λ_=>Wa (L2 i x i0 i1 hx) λo _=>?_)))) ) λ_=>Wb trivial
  rcases o with o|o
  exact ih;exact Wb trivial;unfold Zhv
  exact Wx gD λ_=>Wb trivial
 refine Wa (Zkx hT) λv _=>Lf (Wa (p:=λ_=>True) (Wi (λ_=>Wb trivial) λ_=>Wa (Zaey hp.a) λv _=>Wb trivial) λv _=>Lf (Wa (p:=λ_=>True) (Wi (λ_=>Wb trivial) λ_=>Wa (Zajx hT hp.a) λv _=>Wb trivial) λv _=>Wi (λ_=>Wb trivial) λ_=>Wa L1 λo _=>?_))
 rcases o with o|o<;>exact Wb trivial
def Zag9 {T:Zb} (hT:XOk T) {p:Zaa} (hp:PoOk p):Ok (Zr8 T p) λ_=>True:=by
 refine Wa (Z72 hT hp) λv _=>Wi (λ_=>Wb trivial) λ_=>Wa (Zafu hT hp) λ⟨D,e⟩ hD=>Wi (λ_=>Wb trivial) λ_=>Wa (Zaia hT) λL hL=>?_
 obtain⟨D1,D2⟩:=hD;obtain⟨l1,l2⟩:=hL
 dsimp  at D1 D2
 have L2:∀(i:Int),0≤i→i<L.length→Ok (Zgq T (D,e) L i fuel 0) λ_=>True:=by
  intro i i0 i1
  refine LC (m:=D.length) om om (λn j j0 j1 ih=>?_) λn=>?_
  unfold Zgq;rw[wi (j+1) om om]
  exact Wx (λ_=>Ix i0 i1 λf hf=>Ix j0 j1 λd hd=>Wa (Zafz hT (l2 f hf).sk (D2 d hd)) λr _=>Wi (λ_=>Ix i0 i1 λ_ _=>Wb trivial) λ_=>ih) λ_=>Wb trivial
  unfold Zgq
  exact Wx gD λ_=>Wb trivial
 have L1:Ok (Zgr T (D,e) L fuel 0) λ_=>True:=by
  refine LC (m:=L.length) om om (λn i i0 i1 ih=>?_) λn=>?_
  unfold Zgr;rw[wi (i+1) om om]
  refine Wx (λ_=>Wa (L2 i i0 i1) λo _=>?_) λ_=>Wb trivial
  rcases o with o|o
  exact ih;exact Wb trivial;unfold Zgr
  exact Wx gD λ_=>Wb trivial
 refine Wa L1 λo _=>?_
 rcases o with o|o<;>exact Wb trivial
end
end Go.AM

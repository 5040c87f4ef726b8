/- Parts of a proof, printed short. No condition. -/
import Derived.Test.YtdbopohjgcdpmaaGreatDoorLQ4
set_option maxRecDepth 100000
set_option linter.all false
namespace Go.AM
noncomputable section
open Go
open Go.IntKind(wrap)
def Zqh (a:ByteArray):Option Int:=if(a.toList==(⟨#[50,52,58,48,48]⟩:ByteArray).toList)=true then some (1440:Int)else (some ((ByteArray.size a:Int)!=(5:Int))).bind λd=>(if d=true then some true else (sidx a (2:Int)).bind λf=>some (f !=(58:Int))).bind λg=>if g=true then some (-1:Int)else if 0≤(0:Int)∧(0:Int)≤2∧(2:Int)≤(ByteArray.size a:Int)then (Zsk (ByteArray.extract a (Int.toNat (0:Int)) (Int.toNat (2:Int)))).bind λb=>if 0≤(3:Int)∧(3:Int)≤(ByteArray.size a:Int)∧(ByteArray.size a:Int)≤(ByteArray.size a:Int)then (Zsk (ByteArray.extract a (Int.toNat (3:Int)) (Int.toNat (ByteArray.size a:Int)))).bind λc=>(some (decide (b<0))).bind λi=>(some (i||(decide (b>23)))).bind λj=>(some (j||(decide (c<0)))).bind λk=>if(k||(decide (c>59)))=true then some (-1:Int)else some (wrap .i64 ((wrap .i64 ((60:Int)*b))+c))else none else none
def Ztq (d:ByteArray):Option (Int×Int):=(Zqg d 45).bind λa=>if((a.length:Int)!=(2:Int))=true then some ((-1:Int),(-1:Int))else (idx a (0:Int)).bind λf=>(Zqh f).bind λb=>(idx a (1:Int)).bind λg=>(Zqh g).bind λc=>(some (decide (b<0))).bind λi=>if(i||(decide (c≤b)))=true then some ((-1:Int),(-1:Int))else some (b,c)
def Zd3 (b:Ya) (c:Int):Nat→Int→Option Int
 |0,_=>none
 |d+1,a=>(some (decide (a<(b.length:Int)))).bind λf=>(if f=true then (idx b a).bind λg=>some (decide (g<c))else some false).bind λi=>if i=true then Zd3 b c d (wrap .i64 (a+1))else some a
def Zh5 (a:Ya) (c:Int) (d:Int):Option Ya:=if decide (c>(wrap .u64 d))=true then some a else (Zd3 a c fuel 0).bind λb=>(some (decide (b<(a.length:Int)))).bind λf=>(if f=true then (idx a b).bind λg=>some (g==c)else some false).bind λi=>if i=true then some a else if 0≤(0:Int)∧(0:Int)≤b∧b≤(a.length:Int)then if List.length ([]:Ya)+List.length (List.drop (Int.toNat (0:Int)) (List.take (Int.toNat b) a))≤lim then if List.length ([]++(List.drop (Int.toNat (0:Int)) (List.take (Int.toNat b) a)))+List.length [c]≤lim then if 0≤b∧b≤(a.length:Int)∧(a.length:Int)≤(a.length:Int)then if List.length (([]++(List.drop (Int.toNat (0:Int)) (List.take (Int.toNat b) a)))++[c])+List.length (List.drop (Int.toNat b) (List.take (Int.toNat (a.length:Int)) a))≤lim then some ((([]++(List.drop (Int.toNat (0:Int)) (List.take (Int.toNat b) a)))++[c])++(List.drop (Int.toNat b) (List.take (Int.toNat (a.length:Int)) a)))else none else none else none else none else none
def Zd4 (a:Yc) (c:Int):Nat→Ya→Int→Option Ya
 |0,_,_=>none
 |f+1,d,b=>if decide (b<(a.length:Int))=true then ((idx a b).bind λg=>(idx a b).bind λi=>if decide (g.Lo≤i.Hi)=true then (idx a b).bind λj=>(Zh5 d (wrap .u64 j.Lo) c).bind λk=>(idx a b).bind λl=>(Zh5 k (wrap .u64 ((wrap .u64 l.Hi)+1)) c).bind λm=>some m else some d).bind λn=>Zd4 a c f n (wrap .i64 (b+1))else some d
def Zh6 (a:Yc) (b:Int):Option Ya:=(Zd4 a b fuel [(0:Int)] (0:Int)).bind λc=>some c
def Zi1 (a:Yc) (c:Int):Nat→Int→Option Yb
 |0,_=>none
 |d+1,b=>if decide (b<(a.length:Int))=true then (idx a b).bind λf=>(some (decide (f.Lo≤c))).bind λg=>(if g=true then (idx a b).bind λi=>some (decide (c≤i.Hi))else some false).bind λj=>if j=true then some (.inr true)else Zi1 a c d (wrap .i64 (b+1))else some (.inl ())
def Zfv (a:Yc) (b:Int):Option Bool:=(Zi1 a b fuel 0).bind λ(c:Yb)=>match c with
 |.inl ()=>some false
 |.inr d=>some d
def Zg1 (j:Yc) (k:Yc) (d:Int) (l:Int) (b:Ya):Nat→Yc→Int→Option Yc
 |0,_,_=>none
 |n+1,a,c=>if decide (c<(b.length:Int))=true then ((if(decide ((wrap .i64 (c+1))<(b.length:Int)))=true then (idx b (wrap .i64 (c+1))).bind λo=>some (wrap .u64 (o-1))else some (wrap .u64 l)).bind λi=>(idx b c).bind λp=>(Zfv j (wrap .u32 p)).bind λf=>(idx b c).bind λq=>(Zfv k (wrap .u32 q)).bind λg=>(some f).bind λr=>(if(d==1)=true then (some f).bind λs=>some (s&&g)else if(d==2)=true then (some f).bind λt=>some (t&&(!g))else if(d==3)=true then (some (!f)).bind λu=>some (u&&(!g))else some (r||g)).bind λv=>if(!v)=true then some a else (some (decide ((a.length:Int)>0))).bind λw=>(if w=true then (idx a (wrap .i64 ((a.length:Int)-1))).bind λx=>(idx b c).bind λy=>some ((wrap .u64 ((wrap .u64 x.Hi)+1))==y)else some false).bind λz=>if z=true then (idx a (wrap .i64 ((a.length:Int)-1))).bind λa0=>some (List.set a (Int.toNat (wrap .i64 ((a.length:Int)-1))) ({a0 with Hi:=(wrap .u32 i)}:Za))else (idx b c).bind λm=>if a.length+List.length [Za.mk (wrap .u32 m) (wrap .u32 i)]≤lim then some (a++[Za.mk (wrap .u32 m) (wrap .u32 i)])else none).bind λa1=>Zg1 j k d l b n a1 (wrap .i64 (c+1))else some a
def Zkz (a:Yc) (b:Yc) (d:Int) (c:Int):Option Yc:=if List.length ([]:Yc)+a.length≤lim then if List.length ([]++a)+b.length≤lim then (Zh6 (([]++a)++b) c).bind λf=>(Zg1 a b d c f fuel [] 0).bind λg=>some g else none else none
def Zd8 (a:Yc) (b:Yc):Option Yc:=(Zkz a b 0 4294967295).bind λc=>some c
def Zmy (c:(Int×Int)) (r88:(Int×Int)):Nat→Yc→Int→Option Yc
 |0,_,_=>none
 |d+1,b,a=>if decide (a≤c.2)=true then if b.length+List.length [Za.mk (wrap .u32 (wrap .i64 ((wrap .i64 ((1440:Int)*a))+r88.1))) (wrap .u32 (wrap .i64 ((wrap .i64 ((wrap .i64 ((1440:Int)*a))+r88.2))-1)))]≤lim then Zmy c r88 d (b++[Za.mk (wrap .u32 (wrap .i64 ((wrap .i64 ((1440:Int)*a))+r88.1))) (wrap .u32 (wrap .i64 ((wrap .i64 ((wrap .i64 ((1440:Int)*a))+r88.2))-1)))]) (wrap .i64 (a+1))else none else some b
def Zmz (a:Yp):Nat→Yc→Int→Option (Yc⊕(Yc×Int))
 |0,_,_=>none
 |f+1,d,b=>if decide (b<(a.length:Int))=true then (idx a b).bind λg=>(Zul g).bind λc=>(idx a (wrap .i64 (b+1))).bind λi=>(Ztq i).bind λr88=>(some (decide (c.1<(0:Int)))).bind λj=>(some (j||(decide (r88.1<(0:Int))))).bind λk=>(if k=true then some true else (some (decide ((wrap .i64 (b+2))<(a.length:Int)))).bind λl=>(if l=true then (idx a (wrap .i64 (b+2))).bind λm=>some (!(m.toList==(⟨#[44]⟩:ByteArray).toList))else some false).bind λn=>some n).bind λo=>if o=true then some (.inr (([]:Yc),(4:Int)))else (Zmy c r88 fuel d c.1).bind λp=>Zmz a f p (wrap .i64 (b+3))else some (.inl d)
def Ztr (a:Yp):Option (Yc×Int):=(some ((a.length:Int)==1)).bind λb=>(if b=true then (idx a (0:Int)).bind λc=>some (c.toList==(⟨#[110,101,118,101,114]⟩:ByteArray).toList)else some false).bind λd=>if d=true then some (([]:Yc),(0:Int))else if((Int.tmod (a.length:Int) (3:Int))!=(2:Int))=true then some (([]:Yc),(4:Int))else (Zmz a fuel [] 0).bind λ(f:(Yc⊕(Yc×Int)))=>match f with
 |.inl g=>if(decide ((wrap .i64 ((wrap .i64 (Int.tdiv (a.length:Int) (3:Int)))+1))>16))=true then some (([]:Yc),(3:Int))else (Zd8 g []).bind λi=>some (i,(0:Int))
 |.inr j=>some j
def Zhf:Nat→Zc→Yp→Int→Option (Zc×Yp)
 |0,_,_,_=>none
 |j+1,b,a,c=>if decide (c>0)=true then (Zh b 6).bind λd=>(idx [(⟨#[109,111,110]⟩:ByteArray),⟨#[116,117,101]⟩,⟨#[115,117,110]⟩,⟨#[109,111,110,45,102,114,105]⟩,⟨#[115,97,116,45,115,117,110]⟩,⟨#[119,101,100,45,119,101,100]⟩] d.1).bind λf=>(Zh d.2 5).bind λg=>(idx [(⟨#[48,48,58,48,48,45,50,52,58,48,48]⟩:ByteArray),⟨#[48,56,58,48,48,45,49,55,58,48,48]⟩,⟨#[48,56,58,48,48,45,48,56,58,48,49]⟩,⟨#[50,51,58,53,57,45,50,52,58,48,48]⟩,⟨#[49,55,58,48,48,45,49,56,58,51,48]⟩] g.1).bind λi=>if a.length+List.length [(⟨#[44]⟩:ByteArray),f,i]≤lim then Zhf j g.2 (a++[(⟨#[44]⟩:ByteArray),f,i]) (wrap .i64 (c-1))else none else some (b,a)
def Zpc (d:Zc):Option (Yc×Zc):=(Zh d 6).bind λa=>(idx [(⟨#[109,111,110]⟩:ByteArray),⟨#[116,117,101]⟩,⟨#[115,117,110]⟩,⟨#[109,111,110,45,102,114,105]⟩,⟨#[115,97,116,45,115,117,110]⟩,⟨#[119,101,100,45,119,101,100]⟩] a.1).bind λf=>(Zh a.2 5).bind λb=>(idx [(⟨#[48,48,58,48,48,45,50,52,58,48,48]⟩:ByteArray),⟨#[48,56,58,48,48,45,49,55,58,48,48]⟩,⟨#[48,56,58,48,48,45,48,56,58,48,49]⟩,⟨#[50,51,58,53,57,45,50,52,58,48,48]⟩,⟨#[49,55,58,48,48,45,49,56,58,51,48]⟩] b.1).bind λg=>(Zh b.2 3).bind λc=>(Zhf fuel c.2 [f,g] c.1).bind λ(j,k)=>(Ztr k).bind λl=>some (l.1,j)
def Zdd (c:Zc) (b:Ye):Option (ByteArray×Zc):=(Zh c (wrap .i64 ((b.length:Int)+2))).bind λa=>if decide (a.1≥(b.length:Int))=true then some (ByteArray.empty,a.2)else (idx b a.1).bind λd=>some (d.Name,a.2)
def Zml (v:Zc) (c:Zb) (a:Zs):Option (Zam×Zc):=(Zh v 3).bind λd=>(Zdd d.2 a.Groups).bind λf=>(Zdd f.2 a.Groups).bind λg=>(Zdd g.2 a.Services).bind λi=>((Zh i.2 5).bind λj=>if(j.1==4)=true then (Zdd j.2 a.Groups).bind λn=>(Zdd n.2 a.Groups).bind λo=>some (o.2,({({({(Zam.mk (decide (d.1>(0:Int))) f.1 g.1 i.1 false ByteArray.empty ByteArray.empty ByteArray.empty ByteArray.empty 0)with Excepted:=true}:Zam)with ExceptFrom:=n.1}:Zam)with ExceptTo:=o.1}:Zam))else some (j.2,Zam.mk (decide (d.1>(0:Int))) f.1 g.1 i.1 false ByteArray.empty ByteArray.empty ByteArray.empty ByteArray.empty 0)).bind λ(x,k)=>((Zh x (c.Devices.length:Int)).bind λb=>(some k.Permit).bind λy=>(if y=true then (Zh b.2 4).bind λp=>some ((p.1==3),p.2)else some (false,b.2)).bind λl=>(some l.1).bind λz=>if(z&&(decide (b.1<(c.Devices.length:Int))))=true then (idx c.Devices b.1).bind λa0=>some (l.2,({k with Class:=a0.Class}:Zam))else some (l.2,k)).bind λ(q,r)=>((some (decide ((a.Windows.length:Int)>0))).bind λa2=>(if a2=true then (Zh q 3).bind λs=>some ((s.1==2),s.2)else some (false,q)).bind λm=>if m.1=true then (Zh m.2 (a.Windows.length:Int)).bind λt=>(idx a.Windows t.1).bind λa3=>some (t.2,({r with During:=a3.Name}:Zam))else some (m.2,r)).bind λ(a5,a6)=>(Zh a5 5).bind λu=>(idx [(0:Int),(0:Int),(1:Int),(5:Int),(1000:Int)] u.1).bind λa7=>some (({a6 with Priority:=a7}:Zam),u.2)
def Zhg (a:Zb) (b:Ye):Nat→Zc→ByteArray→Yg→Int→Option (Zc×ByteArray×Yg)
 |0,_,_,_,_=>none
 |q+1,i,j,c,k=>if decide (k>0)=true then ((Zgj i).bind λl=>((Zh l.2 (a.Edges.length:Int)).bind λd=>(some (decide ((a.Edges.length:Int)>0))).bind λr=>(if r=true then (Zh d.2 3).bind λm=>some ((decide (m.1<(2:Int))),m.2)else some (false,d.2)).bind λf=>if f.1=true then (idx a.Edges d.1).bind λs=>some (f.2,Z0.mk 1 s.Zone Zck 0 Zao)else some (f.2,Z0.mk 2 ByteArray.empty l.1 0 Zao)).bind λ(n,u)=>((some (decide ((b.length:Int)>0))).bind λv=>(if v=true then (Zh n 4).bind λo=>some ((o.1==3),o.2)else some (false,n)).bind λg=>if g.1=true then (idx b (0:Int)).bind λw=>some (g.2,Z0.mk 3 w.Name Zck 0 Zao)else some (g.2,u)).bind λ(y,p)=>if c.length+List.length [p]≤lim then some (y,c++[p])else none).bind λ(a0,a1)=>Zhg a b q a0 j a1 (wrap .i64 (k-1))else some (i,j,c)
def Zhh (b:Zb):Nat→Zc→Ye→Int→Option (Zc×Ye)
 |0,_,_,_=>none
 |j+1,c,a,d=>if decide (d>0)=true then (idx [(⟨#[103,49]⟩:ByteArray),⟨#[103,50]⟩,⟨#[103,51]⟩] (a.length:Int)).bind λk=>(Zh c 2).bind λf=>(Zhg b a fuel f.2 k [] (wrap .i64 ((1:Int)+f.1))).bind λ(m,g,i)=>if a.length+List.length [Zl.mk g i]≤lim then Zhh b j m (a++[Zl.mk g i]) (wrap .i64 (d-1))else none else some (c,a)
def Zhi (c:Ye):Nat→Zc→ByteArray→Yg→Int→Option (Zc×ByteArray×Yg)
 |0,_,_,_,_=>none
 |o+1,g,i,d,j=>if decide (j>0)=true then ((Zh g 5).bind λb=>(idx [(6:Int),(17:Int),(6:Int),(1:Int),(50:Int)] b.1).bind λa=>(if(a==1)=true then some (b.2,({(Z0.mk 4 ByteArray.empty Zck a Zao)with Ports:=(Za.mk 8 8)}:Z0))else (if(a==6)=true then some (a==6)else some (a==17)).bind λp=>if p=true then (Zfa b.2 65535).bind λk=>some (k.2,({(Z0.mk 4 ByteArray.empty Zck a Zao)with Ports:=k.1}:Z0))else some (b.2,Z0.mk 4 ByteArray.empty Zck a Zao)).bind λ(l,r)=>((some (decide ((c.length:Int)>0))).bind λs=>(if s=true then (Zh l 4).bind λm=>some ((m.1==3),m.2)else some (false,l)).bind λf=>if f.1=true then (idx c (0:Int)).bind λt=>some (f.2,Z0.mk 3 t.Name Zck 0 Zao)else some (f.2,r)).bind λ(v,n)=>if d.length+List.length [n]≤lim then some (v,d++[n])else none).bind λ(x,y)=>Zhi c o x i y (wrap .i64 (j-1))else some (g,i,d)
def Zhj:Nat→Zc→Ye→Int→Option (Zc×Ye)
 |0,_,_,_=>none
 |i+1,b,a,c=>if decide (c>0)=true then (idx [(⟨#[119,101,98]⟩:ByteArray),⟨#[115,115,104]⟩,⟨#[100,110,115]⟩] (a.length:Int)).bind λj=>(Zh b 2).bind λd=>(Zhi a fuel d.2 j [] (wrap .i64 ((1:Int)+d.1))).bind λ(l,f,g)=>if a.length+List.length [Zl.mk f g]≤lim then Zhj i l (a++[Zl.mk f g]) (wrap .i64 (c-1))else none else some (b,a)
def Zhk (j:Zb):Nat→Zc→Ye→Ye→Yt→Yy→Yw→Yz→Int→Option (Zc×Ye×Ye×Yt×Yy×Yw×Yz)
 |0,_,_,_,_,_,_,_,_=>none
 |m+1,k,b,c,d,a,f,g,l=>if decide (l>0)=true then (Zml k j (Zs.mk b c d a f g)).bind λi=>if a.length+List.length [i.1]≤lim then Zhk j m i.2 b c d (a++[i.1]) f g (wrap .i64 (l-1))else none else some (k,b,c,d,a,f,g)
def Zj6 (z:Zc) (a:Zb) (a0:Int):Option (Zs×Zc):=(Zh z 3).bind λm=>(Zhh a fuel m.2 [] (wrap .i64 ((1:Int)+m.1))).bind λ(a2,a3)=>(Zh a2 3).bind λn=>(Zhj fuel n.2 [] n.1).bind λ(a5,a6)=>((Zh a5 2).bind λb=>if(b.1==1)=true then (Zpc b.2).bind λc=>if List.length ([]:Yt)+List.length [Zbl.mk (⟨#[119,111,114,107]⟩:ByteArray) c.1]≤lim then some (c.2,[]++[Zbl.mk (⟨#[119,111,114,107]⟩:ByteArray) c.1])else none else some (b.2,([]:Yt))).bind λ(a8,a9)=>(Zh a8 (wrap .i64 (a0+1))).bind λo=>(Zhk a fuel o.2 a3 a6 a9 [] [] [] o.1).bind λ(p,b1,b2,b3,b4,d,f)=>((some (decide ((a.Edges.length:Int)>1))).bind λb5=>(if b5=true then (Zh p 2).bind λq=>some ((q.1==1),q.2)else some (false,p)).bind λg=>if g.1=true then (idx a.Edges (1:Int)).bind λb6=>(Za7 b6.Prefix).bind λr=>(Zh g.2 2).bind λs=>(idx [(6:Int),(17:Int)] s.1).bind λt=>(Zdj s.2 65535).bind λi=>(idx a.Edges (0:Int)).bind λu=>(Zdj i.2 65535).bind λj=>if d.length+List.length [Za4.mk 3405803781 t (wrap .i64 i.1) u.Name r.1.Lo (wrap .i64 j.1)]≤lim then some (j.2,d++[Za4.mk 3405803781 t (wrap .i64 i.1) u.Name r.1.Lo (wrap .i64 j.1)])else none else some (g.2,d)).bind λ(v,b8)=>((some (decide ((a.Edges.length:Int)>0))).bind λb9=>(if b9=true then (Zh v 3).bind λw=>some ((w.1==1),w.2)else some (false,v)).bind λk=>if k.1=true then (Zh k.2 (a.Edges.length:Int)).bind λx=>(idx a.Edges x.1).bind λy=>(Zh x.2 40).bind λl=>if f.length+List.length [Zbf.mk (⟨#[103,49]⟩:ByteArray) y.Name 3325256705 (Za.mk 1024 (wrap .u32 ((1024:Int)+(wrap .u32 l.1))))]≤lim then some (l.2,f++[Zbf.mk (⟨#[103,49]⟩:ByteArray) y.Name 3325256705 (Za.mk 1024 (wrap .u32 ((1024:Int)+(wrap .u32 l.1))))])else none else some (k.2,f)).bind λ(c1,c2)=>some ((Zs.mk b1 b2 b3 b4 b8 c2),c1)
def Zpd (c:Zc):Option (Int×Zc):=(Zh c 7).bind λa=>(Zh a.2 8).bind λb=>(idx [(0:Int),(479:Int),(480:Int),(481:Int),(1019:Int),(1020:Int),(1439:Int),(700:Int)] b.1).bind λd=>some ((wrap .i64 ((wrap .i64 ((1440:Int)*a.1))+d)),b.2)
def Zr5 (d:Zc) (f:Int) (g:Int):Option (Zb×Zs×Int×Zc):=(Znv d f).bind λa=>(Zj6 a.2 a.1 g).bind λb=>(Zpd b.2).bind λc=>some (a.1,b.1,c.1,c.2)
def Zk6 (d:Zb):Nat→Zc→Ya→Int→Option (Zc×Ya)
 |0,_,_,_=>none
 |g+1,f,a,b=>if decide (b<(d.Links.length:Int))=true then ((Zh f 5).bind λc=>if(c.1==4)=true then if a.length+List.length [b]≤lim then some (c.2,a++[b])else none else some (c.2,a)).bind λ(j,k)=>Zk6 d g j k (wrap .i64 (b+1))else some (f,a)
def Zk7 (d:Zb):Nat→Zc→Ya→Int→Option (Zc×Ya)
 |0,_,_,_=>none
 |g+1,f,a,b=>if decide (b<(d.Devices.length:Int))=true then ((Zh f 8).bind λc=>if(c.1==7)=true then if a.length+List.length [b]≤lim then some (c.2,a++[b])else none else some (c.2,a)).bind λ(j,k)=>Zk7 d g j k (wrap .i64 (b+1))else some (f,a)
def Zos (b:Zc) (a:Zb):Option (Zp×Zc):=(Zk6 a fuel b [] 0).bind λ(d,f)=>(Zk7 a fuel d [] 0).bind λ(i,j)=>some ((Zp.mk f j),i)
def Zdh (b:ByteArray):Nat→Int→Option Yb
 |0,_=>none
 |c+1,a=>if decide (a<(ByteArray.size b:Int))=true then (sidx b a).bind λd=>(some (decide (d≥97))).bind λf=>(if f=true then (sidx b a).bind λg=>some (decide (g≤122))else some false).bind λi=>(sidx b a).bind λj=>(some (decide (j≥48))).bind λk=>(if k=true then (sidx b a).bind λl=>some (decide (l≤57))else some false).bind λm=>(some m).bind λn=>(if n=true then some true else (sidx b a).bind λo=>some (o==45)).bind λp=>(some p).bind λq=>(if q=true then some true else (sidx b a).bind λr=>some (r==95)).bind λs=>(some (!i)).bind λt=>(if t=true then (some (!s)).bind λu=>some (u||(a==0))else some false).bind λv=>if v=true then some (.inr false)else Zdh b c (wrap .i64 (a+1))else some (.inl ())
def Zac (a:ByteArray):Option Bool:=(some (a.toList==ByteArray.empty.toList)).bind λb=>(some (b||(decide ((ByteArray.size a:Int)>24)))).bind λc=>if(c||(a.toList==(⟨#[97,110,121]⟩:ByteArray).toList))=true then some false else (Zdh a fuel 0).bind λ(d:Yb)=>match d with
 |.inl ()=>some true
 |.inr f=>some f
def Zcz (b:Zb) (c:ByteArray):Nat→Int→Option Yf
 |0,_=>none
 |d+1,a=>if decide (a<(b.Devices.length:Int))=true then (idx b.Devices a).bind λf=>if(f.Name.toList==c.toList)=true then some (.inr a)else Zcz b c d (wrap .i64 (a+1))else some (.inl ())
def Ze0 (a:Zb) (b:ByteArray):Option Int:=(Zcz a b fuel 0).bind λ(c:Yf)=>match c with
 |.inl ()=>some (-1:Int)
 |.inr d=>some d
def Zbt (a:Ys):Nat→Int→Option Yb
 |0,_=>none
 |c+1,b=>if decide (b<(a.length:Int))=true then (idx a b).bind λd=>(Zac d.Name).bind λf=>(some (!f)).bind λg=>(if g=true then some true else (idx a b).bind λi=>(Ze0 (Zb.mk a [] [] [] 0) i.Name).bind λj=>some (j !=b)).bind λk=>(some k).bind λl=>(if l=true then some true else (idx a b).bind λm=>some (decide (m.Capacity<0))).bind λn=>(some n).bind λo=>(if o=true then some true else (idx a b).bind λp=>some (decide (p.Capacity>4096))).bind λq=>(some q).bind λr=>(if r=true then some true else (idx a b).bind λs=>(some (!(s.Class.toList==ByteArray.empty.toList))).bind λt=>(if t=true then (idx a b).bind λu=>(Zac u.Class).bind λv=>some (!v)else some false).bind λw=>some w).bind λx=>if x=true then some (.inr false)else Zbt a c (wrap .i64 (b+1))else some (.inl ())
def Zcr (a:Ys):Option Bool:=(some (decide ((a.length:Int)<1))).bind λb=>if(b||(decide ((a.length:Int)>12)))=true then some false else (Zbt a fuel 0).bind λ(c:Yb)=>match c with
 |.inl ()=>some true
 |.inr d=>some d
def Zdk (a:Z2) (b:Int):Option Bool:=(Zac a.Name).bind λc=>(some (!c)).bind λd=>(if d=true then some true else (Zac a.Zone).bind λf=>some (!f)).bind λg=>(some g).bind λi=>(some (i||(decide (a.Device<0)))).bind λj=>(some (j||(decide (a.Device≥b)))).bind λk=>if(k||(decide (a.Prefix.Bits<1)))=true then some false else (Zcx a.Prefix).bind λl=>(some l).bind λm=>(if m=true then (some (!a.Planned)).bind λn=>some (n||(a.Prefix.Addr==0))else some false).bind λo=>some o
def Zde (b:Zb) (c:ByteArray):Nat→Int→Option Yf
 |0,_=>none
 |d+1,a=>if decide (a<(b.Edges.length:Int))=true then (idx b.Edges a).bind λf=>if(f.Name.toList==c.toList)=true then some (.inr a)else Zde b c d (wrap .i64 (a+1))else some (.inl ())
def Zcg (a:Zb) (b:ByteArray):Option Int:=(Zde a b fuel 0).bind λ(c:Yf)=>match c with
 |.inl ()=>some (-1:Int)
 |.inr d=>some d
def Zcl (a:Zb):Nat→Yl→Int→Option Yl
 |0,_,_=>none
 |f+1,b,c=>if decide (c<(a.Edges.length:Int))=true then ((idx a.Edges c).bind λg=>if(!g.Planned)=true then (idx a.Edges c).bind λd=>if b.length+List.length [d.Prefix]≤lim then some (b++[d.Prefix])else none else some b).bind λi=>Zcl a f i (wrap .i64 (c+1))else some b
def Zdl (a:Zb):Option Yl:=(Zcl a fuel [] 0).bind λb=>some b
def Zb2 (c:Zn) (b:Int):Option Bool:=(Za7 c).bind λa=>(some a.2).bind λd=>(some (d&&(decide (a.1.Lo≤b)))).bind λf=>some (f&&(decide (b≤a.1.Hi)))
def Zh7 (b:Zn) (c:Zn):Option Bool:=(Za7 c).bind λa=>(some a.2).bind λd=>(if d=true then (Zb2 b a.1.Lo).bind λf=>some f else some false).bind λg=>(some g).bind λi=>(if i=true then (Zb2 b a.1.Hi).bind λj=>some j else some false).bind λk=>some k
def Zk0 (a:Zn) (b:Zn):Option Bool:=(Zh7 a b).bind λc=>(some c).bind λd=>(if d=true then some true else (Zh7 b a).bind λf=>some f).bind λg=>some g
def Zfb (c:Zn) (a:Yl):Nat→Int→Option Yb
 |0,_=>none
 |d+1,b=>if decide (b<(a.length:Int))=true then (idx a b).bind λf=>(Zk0 c f).bind λg=>if g=true then some (.inr true)else Zfb c a d (wrap .i64 (b+1))else some (.inl ())
def Zh8 (a:Zn) (b:Yl):Option Bool:=(Zfb a b fuel 0).bind λ(c:Yb)=>match c with
 |.inl ()=>some false
 |.inr d=>some d
def Zcm (b:Zb):Nat→Int→Option Yb
 |0,_=>none
 |d+1,c=>if decide (c<(b.Links.length:Int))=true then (idx b.Links c).bind λa=>(some (decide (a.A<0))).bind λf=>(some (f||(decide (a.B≤a.A)))).bind λg=>(some (g||(decide (a.B≥(b.Devices.length:Int))))).bind λi=>(some (i||(decide (a.Cost<1)))).bind λj=>if(j||(decide (a.Cost>1000)))=true then some (.inr false)else Zcm b d (wrap .i64 (c+1))else some (.inl ())
def Zcn (a:Zb):Nat→Int→Option Yb
 |0,_=>none
 |c+1,b=>if decide (b<(a.Edges.length:Int))=true then (idx a.Edges b).bind λd=>(Zdk d (a.Devices.length:Int)).bind λf=>(some (!f)).bind λg=>(if g=true then some true else (idx a.Edges b).bind λi=>(Zcg a i.Name).bind λj=>some (j !=b)).bind λk=>if k=true then some (.inr false)else Zcn a c (wrap .i64 (b+1))else some (.inl ())
def Zco (b:Yl):Nat→Int→Option Yb
 |0,_=>none
 |c+1,a=>if decide (a<(b.length:Int))=true then (idx b a).bind λd=>if 0≤(0:Int)∧(0:Int)≤a∧a≤(b.length:Int)then (Zh8 d (List.drop (Int.toNat (0:Int)) (List.take (Int.toNat a) b))).bind λf=>if f=true then some (.inr false)else Zco b c (wrap .i64 (a+1))else none else some (.inl ())
def Zc6 (b:Zb):Nat→Int→Option Yb
 |0,_=>none
 |c+1,a=>if decide (a<(b.Pools.length:Int))=true then (idx b.Pools a).bind λd=>(Zcx d).bind λf=>(some (!f)).bind λg=>(if g=true then some true else (idx b.Pools a).bind λi=>if 0≤(0:Int)∧(0:Int)≤a∧a≤(b.Pools.length:Int)then (Zh8 i (List.drop (Int.toNat (0:Int)) (List.take (Int.toNat a) b.Pools))).bind λj=>some j else none).bind λk=>if k=true then some (.inr false)else Zc6 b c (wrap .i64 (a+1))else some (.inl ())
def Zc3 (a:Zb):Option Bool:=(Zcr a.Devices).bind λb=>(some (!b)).bind λc=>(some (c||(decide ((a.Links.length:Int)>24)))).bind λd=>(some (d||(decide ((a.Edges.length:Int)>12)))).bind λf=>(some (f||(decide ((a.Pools.length:Int)>8)))).bind λg=>(some (g||(decide (a.Tolerate<0)))).bind λi=>if(i||(decide (a.Tolerate>2)))=true then some false else (Zcm a fuel 0).bind λ(j:Yb)=>match j with
 |.inl ()=>(Zcn a fuel 0).bind λ(k:Yb)=>match k with
  |.inl ()=>(Zdl a).bind λl=>(Zco l fuel 0).bind λ(m:Yb)=>match m with
   |.inl ()=>(Zc6 a fuel 0).bind λ(n:Yb)=>match n with
    |.inl ()=>some true
    |.inr o=>some o
   |.inr p=>some p
  |.inr q=>some q
 |.inr r=>some r
def Zaz (a:Zb):Option Bool:=(Zc3 a).bind λb=>(some b).bind λc=>(if c=true then (Zdl a).bind λd=>some ((d.length:Int)==(a.Edges.length:Int))else some false).bind λf=>some f
def Zij (b:Ye) (c:ByteArray):Nat→Int→Option Yf
 |0,_=>none
 |d+1,a=>if decide (a<(b.length:Int))=true then (idx b a).bind λf=>if(f.Name.toList==c.toList)=true then some (.inr a)else Zij b c d (wrap .i64 (a+1))else some (.inl ())
def Zc0 (a:Ye) (b:ByteArray):Option Int:=(Zij a b fuel 0).bind λ(c:Yf)=>match c with
 |.inl ()=>some (-1:Int)
 |.inr d=>some d
def Zk8 (a:Za) (b:Int):Option Bool:=(some (decide (a.Lo≥b))).bind λc=>(some (c&&(decide (a.Lo≤a.Hi)))).bind λd=>some (d&&(decide (a.Hi≤65535)))
def Zj7 (a:Z0) (b:Bool):Option Bool:=if(a.Kind==3)=true then (Zac a.Name).bind λc=>(some c).bind λd=>some (d&&(Zu2 a (Z0.mk a.Kind a.Name Zck 0 Zao)))else if(a.Kind==1)=true then (some b).bind λf=>(if f=true then (Zac a.Name).bind λg=>some g else some false).bind λi=>(some i).bind λj=>some (j&&(Zu2 a (Z0.mk a.Kind a.Name Zck 0 Zao)))else if(a.Kind==2)=true then (some b).bind λk=>(if k=true then (Zcx a.Prefix).bind λl=>some l else some false).bind λm=>(some m).bind λn=>some (n&&(Zu2 a (Z0.mk a.Kind ByteArray.empty a.Prefix 0 Zao)))else if(a.Kind==4)=true then (some b).bind λo=>(some (o||(!(Zu2 a (Z0.mk a.Kind ByteArray.empty Zck a.Proto a.Ports))))).bind λp=>(some (p||(decide (a.Proto<0)))).bind λq=>if(q||(decide (a.Proto>255)))=true then some false else ((if(a.Proto==6)=true then some (a.Proto==6)else some (a.Proto==17)).bind λr=>if r=true then (Zk8 a.Ports 0).bind λs=>some (.inr s)else if(a.Proto==1)=true then some (.inr (Zbe a.Ports (Za.mk 8 8)))else some (.inl ())).bind λ(t:Yb)=>match t with
 |.inl ()=>some (Zbe a.Ports (Za.mk 0 0))
 |.inr u=>some u else some false
def Zc1 (a:Ye) (d:Bool) (b:Int):Nat→Int→Option Yb
 |0,_=>none
 |f+1,c=>(idx a b).bind λg=>if decide (c<(g.Items.length:Int))=true then (idx a b).bind λi=>(idx i.Items c).bind λj=>(Zj7 j d).bind λk=>if(!k)=true then some (.inr false)else Zc1 a d b f (wrap .i64 (c+1))else some (.inl ())
def Zd9 (a:Ye) (c:Bool):Nat→Int→Option Yb
 |0,_=>none
 |d+1,b=>if decide (b<(a.length:Int))=true then (idx a b).bind λf=>(Zac f.Name).bind λg=>(some (!g)).bind λi=>(if i=true then some true else (idx a b).bind λj=>(Zc0 a j.Name).bind λk=>some (k !=b)).bind λl=>(some l).bind λm=>(if m=true then some true else (idx a b).bind λn=>some (decide ((n.Items.length:Int)<1))).bind λo=>(some o).bind λp=>(if p=true then some true else (idx a b).bind λq=>some (decide ((q.Items.length:Int)>16))).bind λr=>if r=true then some (.inr false)else (Zc1 a c b fuel 0).bind λ(s:Yb)=>match s with
  |.inl ()=>Zd9 a c d (wrap .i64 (b+1))
  |.inr t=>some (.inr t)else some (.inl ())
def Zdf (a:Ye) (b:Bool):Option Bool:=if decide ((a.length:Int)>32)=true then some false else (Zd9 a b fuel 0).bind λ(c:Yb)=>match c with
 |.inl ()=>some true
 |.inr d=>some d
def Zgk (b:Yt) (c:ByteArray):Nat→Int→Option Yf
 |0,_=>none
 |d+1,a=>if decide (a<(b.length:Int))=true then (idx b a).bind λf=>if(f.Name.toList==c.toList)=true then some (.inr a)else Zgk b c d (wrap .i64 (a+1))else some (.inl ())
def Zef (a:Yt) (b:ByteArray):Option Int:=(Zgk a b fuel 0).bind λ(c:Yf)=>match c with
 |.inl ()=>some (-1:Int)
 |.inr d=>some d
def Zm0 (b:Yc) (c:Int):Nat→Int→Option Yb
 |0,_=>none
 |d+1,a=>if decide (a<(b.length:Int))=true then (idx b a).bind λf=>(idx b a).bind λg=>(some (decide (f.Lo>g.Hi))).bind λi=>(if i=true then some true else (idx b a).bind λj=>some (decide (j.Hi>c))).bind λk=>(some k).bind λl=>(if l=true then some true else (some (decide (a>0))).bind λm=>(if m=true then (idx b a).bind λn=>(idx b (wrap .i64 (a-1))).bind λo=>some (decide ((wrap .u64 n.Lo)<(wrap .u64 ((wrap .u64 o.Hi)+2))))else some false).bind λp=>some p).bind λq=>if q=true then some (.inr false)else Zm0 b c d (wrap .i64 (a+1))else some (.inl ())
def Zqi (a:Yc) (b:Int):Option Bool:=(Zm0 a b fuel 0).bind λ(c:Yb)=>match c with
 |.inl ()=>some true
 |.inr d=>some d
def Zk9 (a:Yc):Option Bool:=(Zqi a 10079).bind λb=>some b
def Zp9 (a:Yc) (b:Yc):Option Yc:=(Zkz a b 1 4294967295).bind λc=>some c
def Zh9:Nat→Int→Option ByteArray
 |0,_=>none
 |nr+1,a=>if decide (a<10)=true then some (strOf [wrap .u8 (wrap .i64 ((48:Int)+a))])else ((Zh9 nr) (wrap .i64 (Int.tdiv a (10:Int)))).bind λb=>if b.size+(strOf [wrap .u8 (wrap .i64 ((48:Int)+(Int.tmod a (10:Int))))]).size≤9223372036854775807 then some (b++(strOf [wrap .u8 (wrap .i64 ((48:Int)+(Int.tmod a (10:Int))))]))else none
def Zsl (a:Int):Option ByteArray:=if decide (a<10)=true then (Zh9 fuel a).bind λb=>if(⟨#[48]⟩:ByteArray).size+b.size≤9223372036854775807 then some ((⟨#[48]⟩:ByteArray)++b)else none else (Zh9 fuel a).bind λc=>some c
def Zot (b:Int):Option ByteArray:=(Zsl (wrap .i64 (Int.tdiv b (60:Int)))).bind λa=>if a.size+(⟨#[58]⟩:ByteArray).size≤9223372036854775807 then (Zsl (Int.tmod b (60:Int))).bind λc=>if(a++(⟨#[58]⟩:ByteArray)).size+c.size≤9223372036854775807 then some ((a++(⟨#[58]⟩:ByteArray))++c)else none else none
def Zli (b:Int) (c:Yc):Nat→Yp→Int→Option Yp
 |0,_,_=>none
 |k+1,a,d=>if decide (d<(c.length:Int))=true then ((if decide ((a.length:Int)>0)=true then if a.length+List.length [(⟨#[44]⟩:ByteArray)]≤lim then some (a++[(⟨#[44]⟩:ByteArray)])else none else some a).bind λi=>(Zuk).bind λl=>(idx l b).bind λj=>(idx c d).bind λm=>(Zot (wrap .i64 (wrap .u32 (m.Lo-(wrap .u32 (wrap .i64 ((1440:Int)*b))))))).bind λf=>if f.size+(⟨#[45]⟩:ByteArray).size≤9223372036854775807 then (idx c d).bind λn=>(Zot (wrap .i64 ((wrap .i64 (wrap .u32 (n.Hi-(wrap .u32 (wrap .i64 ((1440:Int)*b))))))+1))).bind λg=>if(f++(⟨#[45]⟩:ByteArray)).size+g.size≤9223372036854775807 then if i.length+List.length [j,(f++(⟨#[45]⟩:ByteArray))++g]≤lim then some (i++[j,(f++(⟨#[45]⟩:ByteArray))++g])else none else none else none).bind λo=>Zli b c k o (wrap .i64 (d+1))else some a
def Zqa (b:Yc):Nat→Yp→Int→Option Yp
 |0,_,_=>none
 |d+1,c,a=>if decide (a<7)=true then (Zp9 b [Za.mk (wrap .u32 (wrap .i64 ((1440:Int)*a))) (wrap .u32 ((wrap .u32 (wrap .i64 ((1440:Int)*a)))+1439))]).bind λf=>(Zli a f fuel c 0).bind λg=>Zqa b d g (wrap .i64 (a+1))else some c
def Zsv (a:Yc):Option Yp:=(Zk9 a).bind λb=>if(!b)=true then some ([]:Yp)else if((a.length:Int)==0)=true then some [(⟨#[110,101,118,101,114]⟩:ByteArray)]else (Zqa a fuel [] 0).bind λc=>some c
def Zm1 (a:Yc):Option Bool:=(Zk9 a).bind λb=>(some b).bind λc=>(if c=true then (Zsv a).bind λd=>some (decide ((d.length:Int)≤47))else some false).bind λf=>some f
def Zb9 (a:ByteArray):Option Bool:=(some (a.toList==ByteArray.empty.toList)).bind λb=>(if b=true then some true else (Zac a).bind λc=>some c).bind λd=>some d
def Zgd (a:Zam):Option Bool:=(Zb9 a.From).bind λb=>(some (!b)).bind λc=>(if c=true then some true else (Zb9 a.To).bind λd=>some (!d)).bind λf=>(some f).bind λg=>(if g=true then some true else (Zb9 a.Service).bind λi=>some (!i)).bind λj=>(some j).bind λk=>(if k=true then some true else (Zb9 a.Class).bind λl=>some (!l)).bind λm=>(some m).bind λn=>(if n=true then some true else (Zb9 a.During).bind λo=>some (!o)).bind λp=>(some p).bind λq=>(if q=true then some true else (Zb9 a.ExceptFrom).bind λr=>some (!r)).bind λs=>(some s).bind λt=>(if t=true then some true else (Zb9 a.ExceptTo).bind λu=>some (!u)).bind λv=>if v=true then some false else (some a.Permit).bind λw=>(some (w||(a.Class.toList==ByteArray.empty.toList))).bind λx=>(if x=true then (some a.Excepted).bind λy=>(if y=true then some true else (some (a.ExceptFrom.toList==ByteArray.empty.toList)).bind λz=>some (z&&(a.ExceptTo.toList==ByteArray.empty.toList))).bind λa0=>some a0 else some false).bind λa1=>(some a1).bind λa2=>(some (a2&&(decide (a.Priority≥0)))).bind λa3=>some (a3&&(decide (a.Priority≤1000)))
def Zm2 (a:Int):Option Bool:=(some (decide (a≥0))).bind λb=>some (b&&(decide (a≤65535)))
def Zlj (a:Zs):Nat→Int→Option Yb
 |0,_=>none
 |c+1,b=>if decide (b<(a.Windows.length:Int))=true then (idx a.Windows b).bind λd=>(Zac d.Name).bind λf=>(some (!f)).bind λg=>(if g=true then some true else (idx a.Windows b).bind λi=>(Zef a.Windows i.Name).bind λj=>some (j !=b)).bind λk=>(some k).bind λl=>(if l=true then some true else (idx a.Windows b).bind λm=>(Zm1 m.Active).bind λn=>some (!n)).bind λo=>if o=true then some (.inr false)else Zlj a c (wrap .i64 (b+1))else some (.inl ())
def Zlk (a:Zs):Nat→Int→Option Yb
 |0,_=>none
 |c+1,b=>if decide (b<(a.Statements.length:Int))=true then (idx a.Statements b).bind λd=>(Zgd d).bind λf=>if(!f)=true then some (.inr false)else Zlk a c (wrap .i64 (b+1))else some (.inl ())
def Zll (b:Zs):Nat→Int→Option Yb
 |0,_=>none
 |d+1,c=>if decide (c<(b.Published.length:Int))=true then (idx b.Published c).bind λa=>(some (a.Proto !=(6:Int))).bind λf=>(some (f&&(a.Proto !=(17:Int)))).bind λg=>(if g=true then some true else (Zm2 a.Port).bind λi=>some (!i)).bind λj=>(some j).bind λk=>(if k=true then some true else (Zm2 a.RealPort).bind λl=>some (!l)).bind λm=>(some m).bind λn=>(if n=true then some true else (Zac a.Edge).bind λo=>some (!o)).bind λp=>if p=true then some (.inr false)else Zll b d (wrap .i64 (c+1))else some (.inl ())
def Zlm (a:Zs):Nat→Int→Option Yb
 |0,_=>none
 |d+1,b=>if decide (b<(a.Hidden.length:Int))=true then (idx a.Hidden b).bind λc=>(Zac c.Group).bind λf=>(some (!f)).bind λg=>(if g=true then some true else (Zac c.Edge).bind λi=>some (!i)).bind λj=>(some j).bind λk=>(if k=true then some true else (Zk8 c.Ports 1024).bind λl=>some (!l)).bind λm=>if m=true then some (.inr false)else Zlm a d (wrap .i64 (b+1))else some (.inl ())
def Zc4 (a:Zs):Option Bool:=(Zdf a.Groups true).bind λb=>(some (!b)).bind λc=>(if c=true then some true else (Zdf a.Services false).bind λd=>some (!d)).bind λf=>(some f).bind λg=>(some (g||(decide ((a.Windows.length:Int)>32)))).bind λi=>(some (i||(decide ((a.Statements.length:Int)>64)))).bind λj=>(some (j||(decide ((a.Published.length:Int)>16)))).bind λk=>if(k||(decide ((a.Hidden.length:Int)>8)))=true then some false else (Zlj a fuel 0).bind λ(l:Yb)=>match l with
 |.inl ()=>(Zlk a fuel 0).bind λ(m:Yb)=>match m with
  |.inl ()=>(Zll a fuel 0).bind λ(n:Yb)=>match n with
   |.inl ()=>(Zlm a fuel 0).bind λ(o:Yb)=>match o with
    |.inl ()=>some true
    |.inr p=>some p
   |.inr q=>some q
  |.inr r=>some r
 |.inr s=>some s
def Zn1 (c:Zb):Nat→Ya→Int→Option Ya
 |0,_,_=>none
 |d+1,b,a=>if decide (a<(c.Edges.length:Int))=true then if b.length+List.length [a]≤lim then Zn1 c d (b++[a]) (wrap .i64 (a+1))else none else some b
def Zum (a:Zb):Option Ya:=(Zn1 a fuel [] 0).bind λb=>some b
def Zln (d:Zb) (a:Ya):Nat→Yc→Int→Option Yc
 |0,_,_=>none
 |g+1,b,c=>if decide (c<(a.length:Int))=true then (idx a c).bind λi=>(idx d.Edges i).bind λj=>(Za7 j.Prefix).bind λf=>if b.length+List.length [f.1]≤lim then Zln d a g (b++[f.1]) (wrap .i64 (c+1))else none else some b
def Zpe (a:Zb) (b:Ya):Option Yc:=(Zln a b fuel [] 0).bind λc=>some c
def Zn2 (a:Ya) (c:Int):Nat→Int→Option Yb
 |0,_=>none
 |d+1,b=>if decide (b<(a.length:Int))=true then (idx a b).bind λf=>if(f==c)=true then some (.inr true)else Zn2 a c d (wrap .i64 (b+1))else some (.inl ())
def Zdw (a:Ya) (b:Int):Option Bool:=(Zn2 a b fuel 0).bind λ(c:Yb)=>match c with
 |.inl ()=>some false
 |.inr d=>some d
def Zm3 (c:Zb) (d:ByteArray):Nat→Ya→Int→Option Ya
 |0,_,_=>none
 |f+1,b,a=>if decide (a<(c.Edges.length:Int))=true then ((idx c.Edges a).bind λg=>if(g.Zone.toList==d.toList)=true then if b.length+List.length [a]≤lim then some (b++[a])else none else some b).bind λi=>Zm3 c d f i (wrap .i64 (a+1))else some b
def Zgl (a:Zb) (b:ByteArray):Option Ya:=(Zm3 a b fuel [] 0).bind λc=>some c
def Zou (d:Ya) (i:Zb) (f:Int):Nat→Ye→Yg→Int→Option ((Ye×Yg)⊕(Int×Ye×Ya×Yg))
 |0,_,_,_=>none
 |j+1,a,c,g=>(idx a f).bind λk=>if decide (g<(k.Items.length:Int))=true then ((idx a f).bind λl=>(idx l.Items g).bind λb=>if(b.Kind !=(3:Int))=true then (some (b.Kind==1)).bind λm=>(if m=true then (Zgl i b.Name).bind λn=>some ((n.length:Int)==0)else some false).bind λo=>if o=true then some (.inr ((5:Int),a,d,c))else if c.length+List.length [b]≤lim then some (.inl (c++[b]))else none else (Zc0 a b.Name).bind λp=>if decide (p<0)=true then some (.inr ((5:Int),a,d,c))else none).bind λ(q:(Yg⊕(Int×Ye×Ya×Yg)))=>match q with
  |.inl r=>Zou d i f j a r (wrap .i64 (g+1))
  |.inr s=>some (.inr s)else some (.inl (a,c))
def Zqj (o:Zb) (c:Ye) (a:Ya) (d:Yg) (p:Zb) (q:Ya) (r:Z0) (s:Zb) (t:Ya) (u:Z0) (v:Zb) (w:Ya) (x:Z0) (g:Zb) (b:Int) (f:Ya):Option (Int×Ye×Ya×Yg):=(Zdw f b).bind λi=>if i=true then some ((8:Int),c,a,d)else (Zdw a b).bind λj=>if j=true then some ((0:Int),c,a,d)else if List.length ([]:Ya)+f.length≤lim then if List.length ([]++f)+List.length [b]≤lim then (Zou a g b fuel c d 0).bind λ(k:((Ye×Yg)⊕(Int×Ye×Ya×Yg)))=>match k with
 |.inl (l,m)=>if a.length+List.length [b]≤lim then some ((0:Int),l,a++[b],m)else none
 |.inr n=>some n else none else none
def Zov (l:Zb) (m:Zb) (n:Ya) (o:Z0) (p:Zb) (q:Ya) (r:Z0) (g:Zb) (j:Int):Nat→Ye→Ya→Yg→Ya→Int→Option ((Ye×Ya×Yg×Ya)⊕(Int×Ye×Ya×Yg))
 |0,_,_,_,_,_=>none
 |t+1,a,f,d,i,k=>(idx a j).bind λu=>if decide (k<(u.Items.length:Int))=true then ((idx a j).bind λv=>(idx v.Items k).bind λc=>if(c.Kind !=(3:Int))=true then (some (c.Kind==1)).bind λw=>(if w=true then (Zgl g c.Name).bind λx=>some ((x.length:Int)==0)else some false).bind λy=>if y=true then some (.inr ((5:Int),a,f,d))else if d.length+List.length [c]≤lim then some (.inl (a,f,d++[c]))else none else (Zc0 a c.Name).bind λs=>if decide (s<0)=true then some (.inr ((5:Int),a,f,d))else (Zqj l a f d m n o p q r g i c g s i).bind λb=>if(b.1 !=(0:Int))=true then some (.inr (b.1,b.2.1,b.2.2.1,b.2.2.2))else some (.inl (b.2.1,b.2.2.1,b.2.2.2))).bind λ(z:((Ye×Ya×Yg)⊕(Int×Ye×Ya×Yg)))=>match z with
  |.inl (a0,a1,a2)=>Zov l m n o p q r g j t a0 a1 a2 i (wrap .i64 (k+1))
  |.inr a3=>some (.inr a3)else some (.inl (a,f,d,i))
def Zqk (i:Zb) (d:Ye) (b:Ya) (f:Yg) (j:Zb) (k:Ya) (l:Z0) (m:Zb) (n:Ya) (o:Z0) (p:Zb) (a:Int) (c:Ya):Option (Int×Ye×Ya×Yg):=(Zdw c a).bind λq=>if q=true then some ((8:Int),d,b,f)else (Zdw b a).bind λr=>if r=true then some ((0:Int),d,b,f)else if List.length ([]:Ya)+c.length≤lim then if List.length ([]++c)+List.length [a]≤lim then (Zov i j k l m n o p a fuel d b f (([]++c)++[a]) (0:Int)).bind λ(s:((Ye×Ya×Yg×Ya)⊕(Int×Ye×Ya×Yg)))=>match s with
 |.inl (t,g,u,_)=>if g.length+List.length [a]≤lim then some ((0:Int),t,g++[a],u)else none
 |.inr v=>some v else none else none
def Zes (l:Zb) (m:Zb) (n:Ya) (o:Z0) (g:Zb) (j:Int):Nat→Ye→Ya→Yg→Ya→Int→Option ((Ye×Ya×Yg×Ya)⊕(Int×Ye×Ya×Yg))
 |0,_,_,_,_,_=>none
 |q+1,a,f,d,i,k=>(idx a j).bind λr=>if decide (k<(r.Items.length:Int))=true then ((idx a j).bind λs=>(idx s.Items k).bind λc=>if(c.Kind !=(3:Int))=true then (some (c.Kind==1)).bind λt=>(if t=true then (Zgl g c.Name).bind λu=>some ((u.length:Int)==0)else some false).bind λv=>if v=true then some (.inr ((5:Int),a,f,d))else if d.length+List.length [c]≤lim then some (.inl (a,f,d++[c]))else none else (Zc0 a c.Name).bind λp=>if decide (p<0)=true then some (.inr ((5:Int),a,f,d))else (Zqk l a f d m n o g i c g p i).bind λb=>if(b.1 !=(0:Int))=true then some (.inr (b.1,b.2.1,b.2.2.1,b.2.2.2))else some (.inl (b.2.1,b.2.2.1,b.2.2.2))).bind λ(w:((Ye×Ya×Yg)⊕(Int×Ye×Ya×Yg)))=>match w with
  |.inl (x,y,z)=>Zes l m n o g j q x y z i (wrap .i64 (k+1))
  |.inr a0=>some (.inr a0)else some (.inl (a,f,d,i))
def Zj8 (i:Zb) (d:Ye) (b:Ya) (f:Yg) (j:Zb) (k:Ya) (l:Z0) (m:Zb) (a:Int) (c:Ya):Option (Int×Ye×Ya×Yg):=(Zdw c a).bind λn=>if n=true then some ((8:Int),d,b,f)else (Zdw b a).bind λo=>if o=true then some ((0:Int),d,b,f)else if List.length ([]:Ya)+c.length≤lim then if List.length ([]++c)+List.length [a]≤lim then (Zes i j k l m a fuel d b f (([]++c)++[a]) (0:Int)).bind λ(p:((Ye×Ya×Yg×Ya)⊕(Int×Ye×Ya×Yg)))=>match p with
 |.inl (q,g,r,_)=>if g.length+List.length [a]≤lim then some ((0:Int),q,g++[a],r)else none
 |.inr s=>some s else none else none
def Zet (l:Zb) (g:Zb) (j:Int):Nat→Ye→Ya→Yg→Ya→Int→Option ((Ye×Ya×Yg×Ya)⊕(Int×Ye×Ya×Yg))
 |0,_,_,_,_,_=>none
 |n+1,a,f,d,i,k=>(idx a j).bind λo=>if decide (k<(o.Items.length:Int))=true then ((idx a j).bind λp=>(idx p.Items k).bind λc=>if(c.Kind !=(3:Int))=true then (some (c.Kind==1)).bind λq=>(if q=true then (Zgl g c.Name).bind λr=>some ((r.length:Int)==0)else some false).bind λs=>if s=true then some (.inr ((5:Int),a,f,d))else if d.length+List.length [c]≤lim then some (.inl (a,f,d++[c]))else none else (Zc0 a c.Name).bind λm=>if decide (m<0)=true then some (.inr ((5:Int),a,f,d))else (Zj8 l a f d g i c g m i).bind λb=>if(b.1 !=(0:Int))=true then some (.inr (b.1,b.2.1,b.2.2.1,b.2.2.2))else some (.inl (b.2.1,b.2.2.1,b.2.2.2))).bind λ(t:((Ye×Ya×Yg)⊕(Int×Ye×Ya×Yg)))=>match t with
  |.inl (u,v,w)=>Zet l g j n u v w i (wrap .i64 (k+1))
  |.inr x=>some (.inr x)else some (.inl (a,f,d,i))
def Zql (g:Zb) (c:Ye) (b:Ya) (d:Yg) (i:Zb) (a:Int):Option (Int×Ye×Ya×Yg):=(Zdw [] a).bind λj=>if j=true then some ((8:Int),c,b,d)else (Zdw b a).bind λk=>if k=true then some ((0:Int),c,b,d)else if List.length ([]:Ya)+List.length ([]:Ya)≤lim then if List.length ([]++([]:Ya))+List.length [a]≤lim then (Zet g i a fuel c b d (([]++([]:Ya))++[a]) (0:Int)).bind λ(l:((Ye×Ya×Yg×Ya)⊕(Int×Ye×Ya×Yg)))=>match l with
 |.inl (m,f,n,_)=>if f.length+List.length [a]≤lim then some ((0:Int),m,f++[a],n)else none
 |.inr o=>some o else none else none
def Zqm (a:Zb) (b:Ye) (f:ByteArray):Option (Yg×Int):=(Zc0 b f).bind λc=>if decide (c<0)=true then some (([]:Yg),(5:Int))else (Zql a b [] [] a c).bind λd=>some (d.2.2.2,d.1)
def Zlo (d:Zb) (a:(Yg×Int)):Nat→Yc→Int→Option Yc
 |0,_,_=>none
 |i+1,b,c=>if decide (c<(a.1.length:Int))=true then ((idx a.1 c).bind λj=>if(j.Kind==1)=true then (idx a.1 c).bind λk=>(Zgl d k.Name).bind λl=>(Zpe d l).bind λf=>if b.length+f.length≤lim then some (b++f)else none else (idx a.1 c).bind λm=>(Za7 m.Prefix).bind λg=>if b.length+List.length [g.1]≤lim then some (b++[g.1])else none).bind λn=>Zlo d a i n (wrap .i64 (c+1))else some b
def Zdm (a:Zb) (c:Zs) (d:ByteArray):Option (Yc×Int):=(Zaz a).bind λf=>(some (!f)).bind λg=>(if g=true then some true else (Zc4 c).bind λi=>some (!i)).bind λj=>if j=true then some (([]:Yc),(1:Int))else if(d.toList==ByteArray.empty.toList)=true then (Zum a).bind λk=>(Zpe a k).bind λl=>(Zd8 l []).bind λm=>some (m,(0:Int))else (Zqm a c.Groups d).bind λb=>if(b.2 !=(0:Int))=true then some (([]:Yc),b.2)else (Zlo a b fuel [] 0).bind λn=>(Zd8 n []).bind λo=>some (o,(0:Int))
def Zms (a:Int):Option Int:=((if(a==0)=true then some (a==0)else some (a==1)).bind λb=>if b=true then some (.inr (4294967295:Int))else if(a==2)=true then some (.inr (255:Int))else (if(a==3)=true then some (a==3)else some (a==4)).bind λc=>if c=true then some (.inr (65535:Int))else some (.inl ())).bind λ(d:Yf)=>match d with
 |.inl ()=>some (0:Int)
 |.inr f=>some f
def Zvo:Nat→ZB→Int→Option ZB
 |0,_,_=>none
 |c+1,b,a=>if decide (a<5)=true then (Zms a).bind λd=>if 0≤a∧a<5 then Zvo c (Arr5.set b a ({(Arr5.get b a)with Hi:=d}:Za)) (wrap .i64 (a+1))else none else some b
def Zcv:Option ZB:=(Zvo fuel Zfu 0).bind λa=>some a
def Zaw (b:ZB):Nat→Int→Option Yb
 |0,_=>none
 |c+1,a=>if decide (a<5)=true then if 0≤a∧a<5 then if 0≤a∧a<5 then (some (decide ((Arr5.get b a).Lo>(Arr5.get b a).Hi))).bind λd=>(if d=true then some true else if 0≤a∧a<5 then (Zms a).bind λf=>some (decide ((Arr5.get b a).Hi>f))else none).bind λg=>if g=true then some (.inr false)else Zaw b c (wrap .i64 (a+1))else none else none else some (.inl ())
def Zbq (a:ZB):Option Bool:=(Zaw a fuel 0).bind λ(b:Yb)=>match b with
 |.inl ()=>some true
 |.inr c=>some c
def Zik (a:ZL):Nat→ZL→Int→Option ZL
 |0,_,_=>none
 |f+1,b,c=>if decide (c<(a.length:Int))=true then ((idx a c).bind λg=>(Zbq g).bind λi=>if i=true then (idx a c).bind λd=>if b.length+List.length [d]≤lim then some (b++[d])else none else some b).bind λj=>Zik a f j (wrap .i64 (c+1))else some b
def Zgm (a:ZL):Option ZL:=(Zik a fuel ([]:ZL) 0).bind λb=>some b
def Zqn (c:Int) (a:Bool) (b:Bool):Option Bool:=if(c==0)=true then (some a).bind λd=>some (d||b)else if(c==1)=true then (some a).bind λf=>some (f&&b)else if(c==2)=true then (some a).bind λg=>some (g&&(!b))else some (!(a==b))
def Zro (b:Int) (a:Bool) (c:Bool):Option Bool:=if(b==1)=true then (some (!a)).bind λd=>some (d||(!c))else if(b==2)=true then some (!a)else (some (!a)).bind λf=>some (f&&(!c))
def Zht (b:ZL) (a:Int):Nat→Yc→Int→Option Yc
 |0,_,_=>none
 |g+1,c,d=>if decide (d<(b.length:Int))=true then (idx b d).bind λf=>if 0≤a∧a<5 then if c.length+List.length [Arr5.get f a]≤lim then Zht b a g (c++[Arr5.get f a]) (wrap .i64 (d+1))else none else none else some c
def Zhu (b:ZL) (a:Int):Nat→Yc→Int→Option Yc
 |0,_,_=>none
 |g+1,c,d=>if decide (d<(b.length:Int))=true then (idx b d).bind λf=>if 0≤a∧a<5 then if c.length+List.length [Arr5.get f a]≤lim then Zhu b a g (c++[Arr5.get f a]) (wrap .i64 (d+1))else none else none else some c
def Zpf (b:ZL) (c:ZL) (a:Int):Option Yc:=(Zht b a fuel [] 0).bind λd=>(Zhu c a fuel d 0).bind λf=>some f
def Zm4 (b:ZL) (a:Int) (f:Int):Nat→ZL→Int→Option ZL
 |0,_,_=>none
 |i+1,d,c=>if decide (c<(b.length:Int))=true then ((idx b c).bind λj=>if 0≤a∧a<5 then (some (decide ((wrap .u64 (Arr5.get j a).Lo)≤f))).bind λk=>(if k=true then (idx b c).bind λl=>if 0≤a∧a<5 then some (decide (f≤(wrap .u64 (Arr5.get l a).Hi)))else none else some false).bind λm=>if m=true then (idx b c).bind λg=>if d.length+List.length [g]≤lim then some (d++[g])else none else some d else none).bind λn=>Zm4 b a f i n (wrap .i64 (c+1))else some d
def Zq8 (a:ZL) (b:Int) (c:Int):Option ZL:=(Zm4 a b c fuel ([]:ZL) 0).bind λd=>some d
def Zjw (b:ZL) (c:ZL):Nat→Int→Option Yb
 |0,_=>none
 |d+1,a=>if decide (a<(b.length:Int))=true then (idx b a).bind λf=>(idx c a).bind λg=>if(!(Ztp f g))=true then some (.inr false)else Zjw b c d (wrap .i64 (a+1))else some (.inl ())
def Zow (a:ZL) (b:ZL):Option Bool:=if((a.length:Int)!=(b.length:Int))=true then some false else (Zjw a b fuel 0).bind λ(c:Yb)=>match c with
 |.inl ()=>some true
 |.inr d=>some d
def Zil (a:Int) (d:Int):Nat→ZL→Int→Option ZL
 |0,_,_=>none
 |g+1,b,c=>if decide (c<(b.length:Int))=true then (idx b c).bind λf=>if 0≤a∧a<5 then Zil a d g (List.set b (Int.toNat c) (Arr5.set f a ({(Arr5.get f a)with Hi:=(wrap .u32 d)}:Za))) (wrap .i64 (c+1))else none else some b
def Zfw (a:Int) (g:Ya) (i:Int) (b:Int) (c:ZL):Nat→ZL→Int→Option ZL
 |0,_,_=>none
 |l+1,d,f=>if decide (f<(c.length:Int))=true then (idx c f).bind λj=>(idx g i).bind λk=>if 0≤a∧a<5 then if d.length+List.length [Arr5.set j a (Za.mk (wrap .u32 k) (wrap .u32 b))]≤lim then Zfw a g i b c l (d++[Arr5.set j a (Za.mk (wrap .u32 k) (wrap .u32 b))]) (wrap .i64 (f+1))else none else none else some d
def Zim (g:ZL) (i:ZL) (j:Int) (b:Int) (k:ZL→ZL→Int→Int→Option ZL) (c:Ya):Nat→ZL→ZL→Int→Option ZL
 |0,_,_,_=>none
 |n+1,f,l,a=>if decide (a<(c.length:Int))=true then ((Zms b).bind λo=>(if(decide ((wrap .i64 (a+1))<(c.length:Int)))=true then (idx c (wrap .i64 (a+1))).bind λp=>some (wrap .u64 (p-1))else some (wrap .u64 o)).bind λm=>(idx c a).bind λq=>(Zq8 g b q).bind λr=>(idx c a).bind λs=>(Zq8 i b s).bind λt=>(k r t j (wrap .i64 (b+1))).bind λd=>(some (decide (a>0))).bind λu=>(some (u&&(decide ((d.length:Int)>0)))).bind λv=>(if v=true then (Zow d l).bind λw=>some w else some false).bind λx=>if x=true then (Zil b m fuel f (wrap .i64 ((f.length:Int)-(d.length:Int)))).bind λy=>some (y,l)else (Zfw b c a m d fuel f 0).bind λz=>some (z,d)).bind λ(a1,a2)=>Zim g i j b k c n a1 a2 (wrap .i64 (a+1))else some f
def Zch:Nat→ZL→ZL→Int→Int→Option ZL
 |0,_,_,_,_=>none
 |nr+1,a,b,d,c=>if(c==5)=true then (Zqn d (decide ((a.length:Int)>0)) (decide ((b.length:Int)>0))).bind λf=>if f=true then some [Arr5.mk Zao Zao Zao Zao Zao]else some ([]:ZL)else (Zro d (decide ((a.length:Int)>0)) (decide ((b.length:Int)>0))).bind λg=>if g=true then some ([]:ZL)else (Zpf a b c).bind λi=>(Zms c).bind λj=>(Zh6 i j).bind λk=>(Zim a b d c (Zch nr) k fuel ([]:ZL) ([]:ZL) 0).bind λl=>some l
def Zxq (a:ZL):Option ZL:=(Zgm a).bind λb=>(Zch fuel b ([]:ZL) 0 0).bind λc=>some c
def Zts:Nat→ZL→Int→Option ZL
 |0,_,_=>none
 |f+1,a,b=>if(decide (b<(List.length [Za.mk 0 0,Za.mk 2 5,Za.mk 7 16,Za.mk 18 255]:Int)))=true then (Zcv).bind λc=>(idx [Za.mk 0 0,Za.mk 2 5,Za.mk 7 16,Za.mk 18 255] b).bind λd=>if a.length+List.length [({({({c with x2:=d}:ZB)with x3:=(Za.mk 0 0)}:ZB)with x4:=(Za.mk 0 0)}:ZB)]≤lim then Zts f (a++[({({({c with x2:=d}:ZB)with x3:=(Za.mk 0 0)}:ZB)with x4:=(Za.mk 0 0)}:ZB)]) (wrap .i64 (b+1))else none else some a
def Ztt:Nat→ZL→Int→Option ZL
 |0,_,_=>none
 |d+1,b,a=>if decide (a≤17)=true then (Zcv).bind λc=>if b.length+List.length [({c with x2:=(Za.mk a a)}:ZB)]≤lim then Ztt d (b++[({c with x2:=(Za.mk a a)}:ZB)]) (wrap .u32 (a+11))else none else some b
def Zg2:Option ZL:=(Zts fuel ([]:ZL) 0).bind λc=>(Ztt fuel c 6).bind λb=>(Zcv).bind λa=>if b.length+List.length [({({({a with x2:=(Za.mk 1 1)}:ZB)with x4:=(Za.mk 8 8)}:ZB)with x3:=({a.x3 with Hi:=(7:Int)}:Za)}:ZB),({({({a with x2:=(Za.mk 1 1)}:ZB)with x4:=(Za.mk 8 8)}:ZB)with x3:=({a.x3 with Lo:=(9:Int)}:Za)}:ZB)]≤lim then (Zxq (b++[({({({a with x2:=(Za.mk 1 1)}:ZB)with x4:=(Za.mk 8 8)}:ZB)with x3:=({a.x3 with Hi:=(7:Int)}:Za)}:ZB),({({({a with x2:=(Za.mk 1 1)}:ZB)with x4:=(Za.mk 8 8)}:ZB)with x3:=({a.x3 with Lo:=(9:Int)}:Za)}:ZB)])).bind λd=>some d else none
def Zin (c:ZL) (d:ZL) (b:Int):Nat→Int→Option Yb
 |0,_=>none
 |f+1,a=>if decide (a<5)=true then (idx c b).bind λg=>if 0≤a∧a<5 then (idx d b).bind λi=>if 0≤a∧a<5 then if(!(Zbe (Arr5.get g a) (Arr5.get i a)))=true then some (.inr false)else Zin c d b f (wrap .i64 (a+1))else none else none else some (.inl ())
def Zio (a:ZL) (c:ZL) (d:Int):Nat→Int→Option Yb
 |0,_=>none
 |f+1,b=>if decide (b<(a.length:Int))=true then (Zin a c b fuel d).bind λ(g:Yb)=>match g with
  |.inl ()=>Zio a c d f (wrap .i64 (b+1))
  |.inr i=>some (.inr i)else some (.inl ())
def Zm5 (a:ZL) (b:ZL) (c:Int):Option Bool:=if((a.length:Int)!=(b.length:Int))=true then some false else (Zio a b c fuel 0).bind λ(d:Yb)=>match d with
 |.inl ()=>some true
 |.inr f=>some f
def Zfe (b:ZL) (a:Int) (d:Int):Nat→Int→Option Int
 |0,_=>none
 |f+1,c=>(some (decide (c<(b.length:Int)))).bind λg=>(if g=true then (idx b c).bind λi=>if 0≤a∧a<5 then (idx b d).bind λj=>if 0≤a∧a<5 then some (Zbe (Arr5.get i a) (Arr5.get j a))else none else none else some false).bind λk=>if k=true then Zfe b a d f (wrap .i64 (c+1))else some c
def Zdx (c:ZL) (a:Int) (f:ZL→Int→Option Bool):Nat→ZL→Int→Option Yb
 |0,_,_=>none
 |k+1,l,b=>if decide (b<(c.length:Int))=true then ((Zfe c a b fuel b).bind λd=>if 0≤b∧b≤d∧d≤(c.length:Int)then (if decide (b>0)=true then (idx c (wrap .i64 (b-1))).bind λg=>if 0≤a∧a<5 then (idx c b).bind λi=>if 0≤a∧a<5 then (some (decide ((Arr5.get i a).Lo≤(Arr5.get g a).Hi))).bind λm=>(if m=true then some true else (some ((Arr5.get i a).Lo==(wrap .u32 ((Arr5.get g a).Hi+1)))).bind λn=>(if n=true then (Zm5 l (List.drop (Int.toNat b) (List.take (Int.toNat d) c)) (wrap .i64 (a+1))).bind λo=>some o else some false).bind λp=>some p).bind λq=>if q=true then some (.inr false)else some (.inl ())else none else none else some (.inl ())).bind λ(r:Yb)=>match r with
  |.inl ()=>(f (List.drop (Int.toNat b) (List.take (Int.toNat d) c)) (wrap .i64 (a+1))).bind λs=>if(!s)=true then some (.inr false)else some (.inl (List.drop (Int.toNat b) (List.take (Int.toNat d) c)))
  |.inr t=>some (.inr t)else none).bind λ(u:(ZL⊕Bool))=>match u with
  |.inl j=>Zdx c a f k j (wrap .i64 (b+(j.length:Int)))
  |.inr v=>some (.inr v)else some (.inl ())
def Zd5:Nat→ZL→Int→Option Bool
 |0,_,_=>none
 |nr+1,a,b=>if(b==5)=true then some ((a.length:Int)==1)else (Zdx a b (Zd5 nr) fuel ([]:ZL) 0).bind λ(c:Yb)=>match c with
  |.inl ()=>some true
  |.inr d=>some d
def Zea (a:ZL):Option Bool:=(some (decide ((a.length:Int)≤4096))).bind λb=>(if b=true then (Zgm a).bind λc=>some ((c.length:Int)==(a.length:Int))else some false).bind λd=>(some d).bind λf=>(if f=true then (Zd5 fuel a 0).bind λg=>some g else some false).bind λi=>some i
def Zjx (a:ZL):Option (ZL×Int):=if decide ((a.length:Int)>4096)=true then some (([]:ZL),(3:Int))else some (a,(0:Int))
def Zjy (b:ZL):Nat→ZL→Int→Option (ZL⊕(ZL×Int))
 |0,_,_=>none
 |f+1,c,a=>if decide (a<(b.length:Int))=true then ((idx b a).bind λg=>(Zbq g).bind λi=>if(!i)=true then some (.inl c)else if 0≤a∧a≤(wrap .i64 (a+1))∧(wrap .i64 (a+1))≤(b.length:Int)then (Zch fuel c (List.drop (Int.toNat a) (List.take (Int.toNat (wrap .i64 (a+1))) b)) (0:Int) (0:Int)).bind λj=>(Zjx j).bind λd=>if(d.2 !=(0:Int))=true then some (.inr (([]:ZL),d.2))else some (.inl d.1)else none).bind λ(k:(ZL⊕(ZL×Int)))=>match k with
  |.inl l=>Zjy b f l (wrap .i64 (a+1))
  |.inr m=>some (.inr m)else some (.inl c)
def Zeu (a:ZL):Option (ZL×Int):=(Zjy a fuel ([]:ZL) 0).bind λ(b:(ZL⊕(ZL×Int)))=>match b with
 |.inl c=>some (c,(0:Int))
 |.inr d=>some d
def Zm6 (a:ZL):Option (ZL×Int):=(Zea a).bind λc=>if c=true then some (a,(0:Int))else (Zeu a).bind λb=>some (b.1,b.2)
def Zg3 (d:ZL) (f:ZL) (g:Int):Option (ZL×Int):=(Zm6 d).bind λa=>if(a.2 !=(0:Int))=true then some (([]:ZL),a.2)else (Zm6 f).bind λb=>if(b.2 !=(0:Int))=true then some (([]:ZL),b.2)else (Zch fuel a.1 b.1 g 0).bind λi=>(Zjx i).bind λc=>some (c.1,c.2)
def Zb3 (b:ZL) (c:ZL):Option (ZL×Int):=(Zg3 b c 1).bind λa=>some (a.1,a.2)
def Zm7 (a:Z0):Option ZL:=(Zcv).bind λb=>(Zg2).bind λc=>(Zb3 c [({({b with x2:=(Za.mk (wrap .u32 a.Proto) (wrap .u32 a.Proto))}:ZB)with x4:=a.Ports}:ZB)]).bind λd=>some d.1
def Ze5 (b:ZL) (c:ZL):Option (ZL×Int):=(Zg3 b c 0).bind λa=>some (a.1,a.2)
def Zi2 (a:(Yg×Int)):Nat→ZL→Int→Option (ZL⊕(ZL×Int))
 |0,_,_=>none
 |f+1,d,b=>if decide (b<(a.1.length:Int))=true then (idx a.1 b).bind λg=>(Zm7 g).bind λi=>(Ze5 d i).bind λc=>if(c.2 !=(0:Int))=true then some (.inr (([]:ZL),c.2))else Zi2 a f c.1 (wrap .i64 (b+1))else some (.inl d)
def Zm8 (b:Zs) (c:ByteArray):Option (ZL×Int):=(Zc4 b).bind λd=>if(!d)=true then some (([]:ZL),(1:Int))else if(c.toList==ByteArray.empty.toList)=true then (Zg2).bind λf=>some (f,(0:Int))else (Zqm (Zb.mk [] [] [] [] 0) b.Services c).bind λa=>if(a.2 !=(0:Int))=true then some (([]:ZL),a.2)else (Zi2 a fuel ([]:ZL) 0).bind λ(g:(ZL⊕(ZL×Int)))=>match g with
 |.inl i=>some (i,(0:Int))
 |.inr j=>some j
def Zi3 (d:Yc) (a:Yc) (f:Int):Nat→ZL→Int→Option ZL
 |0,_,_=>none
 |k+1,b,c=>if decide (c<(a.length:Int))=true then (Zcv).bind λg=>(idx d f).bind λi=>(idx a c).bind λj=>if b.length+List.length [({({g with x0:=i}:ZB)with x1:=j}:ZB)]≤lim then Zi3 d a f k (b++[({({g with x0:=i}:ZB)with x1:=j}:ZB)]) (wrap .i64 (c+1))else none else some b
def Zi4 (a:Yc) (c:Yc):Nat→ZL→Int→Option ZL
 |0,_,_=>none
 |f+1,d,b=>if decide (b<(a.length:Int))=true then (Zi3 a c b fuel d 0).bind λg=>Zi4 a c f g (wrap .i64 (b+1))else some d
def Zm9 (a:Yc) (b:Yc):Option (ZL×Int):=(Zi4 a b fuel ([]:ZL) 0).bind λc=>(Zeu c).bind λr88=>some (r88.1,r88.2)
def Zfx (b:ZL) (c:ZL):Option (ZL×Int):=(Zg3 b c 2).bind λa=>some (a.1,a.2)
def Zj9 (c:Zb) (a:Zs) (f:Int):Option (ZL×Int):=(Zaz c).bind λp=>(some (!p)).bind λq=>(if q=true then some true else (Zc4 a).bind λr=>some (!r)).bind λs=>if s=true then some (([]:ZL),(1:Int))else (some (decide (f<0))).bind λt=>if(t||(decide (f≥(a.Statements.length:Int))))=true then some (([]:ZL),(2:Int))else (idx a.Statements f).bind λb=>(Zdm c a b.From).bind λg=>if(g.2 !=(0:Int))=true then some (([]:ZL),g.2)else (Zdm c a b.To).bind λi=>if(i.2 !=(0:Int))=true then some (([]:ZL),i.2)else (Zm8 a b.Service).bind λj=>if(j.2 !=(0:Int))=true then some (([]:ZL),j.2)else (if b.Excepted=true then (Zdm c a b.ExceptFrom).bind λk=>if(k.2 !=(0:Int))=true then some (.inr (([]:ZL),k.2))else (Zdm c a b.ExceptTo).bind λl=>if(l.2 !=(0:Int))=true then some (.inr (([]:ZL),l.2))else some (.inl (k.1,l.1))else some (.inl (([]:Yc),([]:Yc)))).bind λ(u:((Yc×Yc)⊕(ZL×Int)))=>match u with
 |.inl (v,w)=>(Zm9 g.1 i.1).bind λm=>if(m.2 !=(0:Int))=true then some (([]:ZL),m.2)else (Zb3 m.1 j.1).bind λd=>(some (d.2 !=(0:Int))).bind λx=>if(x||(!b.Excepted))=true then some (d.1,d.2)else (Zm9 v w).bind λn=>if(n.2 !=(0:Int))=true then some (([]:ZL),n.2)else (Zfx d.1 n.1).bind λo=>some (o.1,o.2)
 |.inr y=>some y
def Zi5 (a:Zb) (c:ByteArray):Nat→Int→Option Yb
 |0,_=>none
 |d+1,b=>if decide (b<(a.Devices.length:Int))=true then (idx a.Devices b).bind λf=>if(f.Class.toList==c.toList)=true then some (.inr true)else Zi5 a c d (wrap .i64 (b+1))else some (.inl ())
def Zq9 (a:Zb) (b:ByteArray):Option Bool:=(Zi5 a b fuel 0).bind λ(c:Yb)=>match c with
 |.inl ()=>some false
 |.inr d=>some d
def Zlp (c:Zb) (a:Zs):Nat→Int→Option Yf
 |0,_=>none
 |f+1,b=>if decide (b<(a.Groups.length:Int))=true then (idx a.Groups b).bind λg=>(Zdm c a g.Name).bind λd=>if(d.2 !=(0:Int))=true then some (.inr d.2)else Zlp c a f (wrap .i64 (b+1))else some (.inl ())
def Zlq (a:Zs):Nat→Int→Option Yf
 |0,_=>none
 |d+1,b=>if decide (b<(a.Services.length:Int))=true then (idx a.Services b).bind λf=>(Zm8 a f.Name).bind λc=>if(c.2 !=(0:Int))=true then some (.inr c.2)else Zlq a d (wrap .i64 (b+1))else some (.inl ())
def Zlr (d:Zb) (a:Zs):Nat→Int→Option Yf
 |0,_=>none
 |g+1,b=>if decide (b<(a.Statements.length:Int))=true then (idx a.Statements b).bind λc=>(Zj9 d a b).bind λf=>if(f.2 !=(0:Int))=true then some (.inr f.2)else (some (!(c.Class.toList==ByteArray.empty.toList))).bind λi=>(if i=true then (Zq9 d c.Class).bind λj=>some (!j)else some false).bind λk=>(some k).bind λl=>(if l=true then some true else (some (!(c.During.toList==ByteArray.empty.toList))).bind λm=>(if m=true then (Zef a.Windows c.During).bind λn=>some (decide (n<0))else some false).bind λo=>some o).bind λp=>if p=true then some (.inr (5:Int))else Zlr d a g (wrap .i64 (b+1))else some (.inl ())
def Zls (c:Zb) (a:Zs):Nat→Int→Option Yf
 |0,_=>none
 |d+1,b=>if decide (b<(a.Published.length:Int))=true then (idx a.Published b).bind λf=>(Zcg c f.Edge).bind λg=>if decide (g<0)=true then some (.inr (5:Int))else Zls c a d (wrap .i64 (b+1))else some (.inl ())
def Zlt (c:Zb) (a:Zs):Nat→Int→Option Yf
 |0,_=>none
 |f+1,b=>if decide (b<(a.Hidden.length:Int))=true then (idx a.Hidden b).bind λg=>(Zcg c g.Edge).bind λi=>if decide (i<0)=true then some (.inr (5:Int))else (idx a.Hidden b).bind λj=>(Zdm c a j.Group).bind λd=>if(d.2 !=(0:Int))=true then some (.inr d.2)else Zlt c a f (wrap .i64 (b+1))else some (.inl ())
def Zla (b:Zb) (a:Zs):Option Int:=(Zaz b).bind λc=>(some (!c)).bind λd=>(if d=true then some true else (Zc4 a).bind λf=>some (!f)).bind λg=>if g=true then some (1:Int)else (Zlp b a fuel 0).bind λ(i:Yf)=>match i with
 |.inl ()=>(Zlq a fuel 0).bind λ(j:Yf)=>match j with
  |.inl ()=>(Zlr b a fuel 0).bind λ(k:Yf)=>match k with
   |.inl ()=>(Zls b a fuel 0).bind λ(l:Yf)=>match l with
    |.inl ()=>(Zlt b a fuel 0).bind λ(m:Yf)=>match m with
     |.inl ()=>some (0:Int)
     |.inr n=>some n
    |.inr o=>some o
   |.inr p=>some p
  |.inr q=>some q
 |.inr r=>some r
def Zbi (a:Zb) (b:Int) (c:Int):Option ZB:=(Zcv).bind λd=>(idx a.Edges b).bind λf=>(Za7 f.Prefix).bind λg=>(idx a.Edges c).bind λi=>(Za7 i.Prefix).bind λj=>some ({({d with x0:=g.1}:ZB)with x1:=j.1}:ZB)
def Zna (c:Zb) (d:Int):Nat→ZL→Int→Option ZL
 |0,_,_=>none
 |g+1,a,b=>if decide (b<(c.Edges.length:Int))=true then (if(d !=b)=true then (Zbi c d b).bind λf=>if a.length+List.length [f]≤lim then some (a++[f])else none else some a).bind λi=>Zna c d g i (wrap .i64 (b+1))else some a
def Znb (a:Zb):Nat→ZL→Int→Option ZL
 |0,_,_=>none
 |d+1,c,b=>if decide (b<(a.Edges.length:Int))=true then (Zna a b fuel c 0).bind λf=>Znb a d f (wrap .i64 (b+1))else some c
def Ztu (b:Zb):Option (ZL×Int):=(Zaz b).bind λd=>if(!d)=true then some (([]:ZL),(1:Int))else (Znb b fuel ([]:ZL) 0).bind λf=>(Zeu f).bind λa=>if(a.2 !=(0:Int))=true then some (([]:ZL),a.2)else (Zg2).bind λg=>(Zb3 a.1 g).bind λc=>some (c.1,c.2)
def Zsw (b:Yc) (a:Int):Option Bool:=(some (decide (a≥0))).bind λc=>(some (c&&(decide (a≤4294967295)))).bind λd=>(if d=true then (Zfv b (wrap .u32 a)).bind λf=>some f else some false).bind λg=>some g
def Zr6 (a:Zs) (d:Int) (f:Int):Option Bool:=(idx a.Statements d).bind λb=>(Zef a.Windows b.During).bind λc=>(some (b.During.toList==ByteArray.empty.toList)).bind λg=>(if g=true then some true else (some (decide (c≥0))).bind λi=>(if i=true then (idx a.Windows c).bind λj=>(Zsw j.Active f).bind λk=>some k else some false).bind λl=>some l).bind λm=>some m
def Zlu (b:Zs) (d:Int) (f:Int):Nat→Ya→Int→Option Ya
 |0,_,_=>none
 |g+1,c,a=>if decide (a<(b.Statements.length:Int))=true then ((idx b.Statements a).bind λi=>(some (i.Priority==f)).bind λj=>(if j=true then (Zr6 b a d).bind λk=>some k else some false).bind λl=>if l=true then if c.length+List.length [a]≤lim then some (c++[a])else none else some c).bind λm=>Zlu b d f g m (wrap .i64 (a+1))else some c
def Zlv (b:Zs) (c:Int):Nat→Ya→Int→Option Ya
 |0,_,_=>none
 |f+1,d,a=>if decide (a≥0)=true then (Zlu b c a fuel d 0).bind λg=>Zlv b c f g (wrap .i64 (a-1))else some d
def Zsx (b:Zs) (a:Int):Option Ya:=(Zc4 b).bind λc=>(some (!c)).bind λd=>(some (d||(decide (a<0)))).bind λf=>if(f||(decide (a≥10080)))=true then some ([]:Ya)else (Zlv b a fuel [] 1000).bind λg=>some g
def Zn3 (b:Yu) (c:ByteArray):Nat→Int→Option Int
 |0,_=>none
 |d+1,a=>(some (decide (a<(b.length:Int)))).bind λf=>(if f=true then (idx b a).bind λg=>some (Op.bytesLess g.Class.toList c.toList)else some false).bind λi=>if i=true then Zn3 b c d (wrap .i64 (a+1))else some a
def Zun (a:Yu) (c:ByteArray) (d:ZL):Option (Yu×Int):=(some (c.toList==ByteArray.empty.toList)).bind λg=>if(g||((d.length:Int)==0))=true then some (a,(0:Int))else (Zn3 a c fuel 0).bind λb=>(some (b==(a.length:Int))).bind λi=>(if i=true then some true else (idx a b).bind λj=>some (!(j.Class.toList==c.toList))).bind λk=>if k=true then if 0≤(0:Int)∧(0:Int)≤b∧b≤(a.length:Int)then if List.length ([]:Yu)+List.length (List.drop (Int.toNat (0:Int)) (List.take (Int.toNat b) a))≤lim then if List.length ([]++(List.drop (Int.toNat (0:Int)) (List.take (Int.toNat b) a)))+List.length [Z7.mk c d]≤lim then if 0≤b∧b≤(a.length:Int)∧(a.length:Int)≤(a.length:Int)then if List.length (([]++(List.drop (Int.toNat (0:Int)) (List.take (Int.toNat b) a)))++[Z7.mk c d])+List.length (List.drop (Int.toNat b) (List.take (Int.toNat (a.length:Int)) a))≤lim then some (((([]++(List.drop (Int.toNat (0:Int)) (List.take (Int.toNat b) a)))++[Z7.mk c d])++(List.drop (Int.toNat b) (List.take (Int.toNat (a.length:Int)) a))),(0:Int))else none else none else none else none else none else (idx a b).bind λl=>(Ze5 l.Set d).bind λf=>if List.length ([]:Yu)+a.length≤lim then (idx ([]++a) b).bind λm=>some ((List.set ([]++a) (Int.toNat b) ({m with Set:=f.1}:Z7)),f.2)else none
def Zpg (k:Zb) (f:Zs) (a:Ya):Nat→Zaa→ZL→Int→Option (Zaa⊕(Zaa×Int))
 |0,_,_,_=>none
 |r+1,b,l,c=>if decide (c<(a.length:Int))=true then ((idx a c).bind λs=>(idx f.Statements s).bind λg=>(idx a c).bind λt=>(Zj9 k f t).bind λm=>(Zb3 l m.1).bind λd=>if(d.2 !=(0:Int))=true then some (.inr ((Zaa.mk ([]:ZL) []),d.2))else (Zfx l m.1).bind λi=>((some (i.2==0)).bind λu=>if(u&&g.Permit)=true then (Ze5 b.Allow d.1).bind λn=>some (({b with Allow:=n.1}:Zaa),n.2)else some (b,i.2)).bind λ(j,o)=>((some (o==0)).bind λw=>if(w&&g.Permit)=true then (Zun j.Inspect g.Class d.1).bind λp=>some (({j with Inspect:=p.1}:Zaa),p.2)else some (j,o)).bind λ(y,q)=>if(q !=(0:Int))=true then some (.inr ((Zaa.mk ([]:ZL) []),q))else some (.inl (y,i.1))).bind λ(z:((Zaa×ZL)⊕(Zaa×Int)))=>match z with
  |.inl (a0,a1)=>Zpg k f a r a0 a1 (wrap .i64 (c+1))
  |.inr a2=>some (.inr a2)else some (.inl b)
def Zsm (a:Zb) (b:Zs) (c:Int):Option (Zaa×Int):=(Zaz a).bind λg=>(some (!g)).bind λi=>(if i=true then some true else (Zc4 b).bind λj=>some (!j)).bind λk=>if k=true then some ((Zaa.mk ([]:ZL) []),(1:Int))else (some (decide (c<0))).bind λl=>if(l||(decide (c≥10080)))=true then some ((Zaa.mk ([]:ZL) []),(2:Int))else (Zla a b).bind λf=>if(f !=(0:Int))=true then some ((Zaa.mk ([]:ZL) []),f)else (Ztu a).bind λd=>if(d.2 !=(0:Int))=true then some ((Zaa.mk ([]:ZL) []),d.2)else (Zsx b c).bind λm=>(Zpg a b m fuel Z2s d.1 0).bind λ(n:(Zaa⊕(Zaa×Int)))=>match n with
 |.inl o=>some (o,(0:Int))
 |.inr p=>some p
def Zek (b:Zb) (c:Int):Nat→Int→Option Yf
 |0,_=>none
 |d+1,a=>if decide (a<(b.Edges.length:Int))=true then (idx b.Edges a).bind λf=>(some (!f.Planned)).bind λg=>(if g=true then (idx b.Edges a).bind λi=>(Zb2 i.Prefix c).bind λj=>some j else some false).bind λk=>if k=true then some (.inr a)else Zek b c d (wrap .i64 (a+1))else some (.inl ())
def Zfk (a:Zb) (b:Int):Option Int:=(Zek a b fuel 0).bind λ(c:Yf)=>match c with
 |.inl ()=>some (-1:Int)
 |.inr d=>some d
def Zlw (a:Zb) (c:Int):Nat→Int→Option Yb
 |0,_=>none
 |d+1,b=>if decide (b<(a.Pools.length:Int))=true then (idx a.Pools b).bind λf=>(Zb2 f c).bind λg=>if g=true then some (.inr true)else Zlw a c d (wrap .i64 (b+1))else some (.inl ())
def Zlb (a:Zb) (b:Int):Option Bool:=(Zlw a b fuel 0).bind λ(c:Yb)=>match c with
 |.inl ()=>(Zfk a b).bind λd=>some (decide (d≥0))
 |.inr f=>some f
def Zhl (d:Yw) (f:Int) (a:Za4):Nat→Int→Option Yf
 |0,_=>none
 |g+1,c=>if decide (c<f)=true then (idx d c).bind λb=>(some (a.Edge.toList==b.Edge.toList)).bind λi=>(some (i&&(a.Proto==b.Proto))).bind λj=>(if j=true then (some (a.Addr==b.Addr)).bind λk=>(some (k&&(a.Port==b.Port))).bind λl=>(if l=true then some true else (some (a.Real==b.Real)).bind λm=>some (m&&(a.RealPort==b.RealPort))).bind λn=>some n else some false).bind λo=>if o=true then some (.inr (12:Int))else Zhl d f a g (wrap .i64 (c+1))else some (.inl ())
def Zka (b:Zb) (c:Yw) (d:Int):Option Int:=(idx c d).bind λa=>(Zlb b a.Addr).bind λf=>if f=true then some (7:Int)else (Zfk b a.Real).bind λg=>if decide (g<0)=true then some (19:Int)else (Zfk b a.Real).bind λi=>(Zcg b a.Edge).bind λj=>if(i==j)=true then some (2:Int)else (Zhl c d a fuel 0).bind λ(k:Yf)=>match k with
 |.inl ()=>some (0:Int)
 |.inr l=>some l
def Zkb (a:Zs) (c:Zbf):Nat→Int→Option Yf
 |0,_=>none
 |d+1,b=>if decide (b<(a.Published.length:Int))=true then (idx a.Published b).bind λf=>(some (f.Edge.toList==c.Edge.toList)).bind λg=>(if g=true then (idx a.Published b).bind λi=>some (i.Addr==c.Addr)else some false).bind λj=>if j=true then some (.inr (12:Int))else Zkb a c d (wrap .i64 (b+1))else some (.inl ())
def Zkc (b:Zs) (d:Int) (c:Zbf):Nat→Int→Option Yf
 |0,_=>none
 |f+1,a=>if decide (a<d)=true then (idx b.Hidden a).bind λg=>(some (g.Edge.toList==c.Edge.toList)).bind λi=>(if i=true then (idx b.Hidden a).bind λj=>some (j.Addr==c.Addr)else some false).bind λk=>if k=true then some (.inr (12:Int))else Zkc b d c f (wrap .i64 (a+1))else some (.inl ())
def Zn4 (d:Zb) (a:Zs) (c:Int):Option Int:=(idx a.Hidden c).bind λb=>(Zlb d b.Addr).bind λf=>if f=true then some (7:Int)else (Zkb a b fuel 0).bind λ(g:Yf)=>match g with
 |.inl ()=>(Zkc a c b fuel 0).bind λ(i:Yf)=>match i with
  |.inl ()=>some (0:Int)
  |.inr j=>some j
 |.inr k=>some k
def Zi6 (c:Zs) (d:Int) (g:(Yc×Int)) (i:Int):Nat→Yn→Int→Option Yn
 |0,_,_=>none
 |n+1,f,a=>if(decide (a<(List.length [Za.mk 6 6,Za.mk 17 17,Za.mk 1 1,Za.mk 0 0,Za.mk 2 5,Za.mk 7 16,Za.mk 18 255]:Int)))=true then ((Zcv).bind λb=>(idx c.Hidden d).bind λj=>(idx g.1 i).bind λk=>(idx [Za.mk 6 6,Za.mk 17 17,Za.mk 1 1,Za.mk 0 0,Za.mk 2 5,Za.mk 7 16,Za.mk 18 255] a).bind λl=>(if decide (a<3)=true then (idx c.Hidden d).bind λo=>some ({({(Zad.mk b j.Addr Zao)with Match:=({({b with x0:=k}:ZB)with x2:=l}:ZB)}:Zad)with Ports:=o.Ports}:Zad)else some ({(Zad.mk b j.Addr Zao)with Match:=({({b with x0:=k}:ZB)with x2:=l}:ZB)}:Zad)).bind λm=>if f.length+List.length [m]≤lim then some (f++[m])else none).bind λp=>Zi6 c d g i n p (wrap .i64 (a+1))else some f
def Zi7 (c:Zs) (d:Int) (a:(Yc×Int)):Nat→Yn→Int→Option Yn
 |0,_,_=>none
 |g+1,f,b=>if decide (b<(a.1.length:Int))=true then (Zi6 c d a b fuel f 0).bind λi=>Zi7 c d a g i (wrap .i64 (b+1))else some f
def Zi8 (c:Zb) (a:Zs) (f:Int):Nat→Yn→Int→Option Yn
 |0,_,_=>none
 |g+1,d,b=>if decide (b<(a.Hidden.length:Int))=true then ((idx a.Hidden b).bind λi=>(Zcg c i.Edge).bind λj=>if(j !=f)=true then some d else (idx a.Hidden b).bind λk=>(Zdm c a k.Group).bind λl=>(Zi7 a b l fuel d 0).bind λm=>some m).bind λn=>Zi8 c a f g n (wrap .i64 (b+1))else some d
def Zfy (a:Zb) (b:Zs) (c:Int):Option Yn:=(Zi8 a b c fuel [] 0).bind λd=>some d
def Zlx (c:Zb) (a:Zs):Nat→Int→Option Yf
 |0,_=>none
 |f+1,b=>if decide (b<(a.Published.length:Int))=true then (Zka c a.Published b).bind λd=>if(d !=(0:Int))=true then some (.inr d)else Zlx c a f (wrap .i64 (b+1))else some (.inl ())
def Zly (c:Zb) (a:Zs):Nat→Int→Option Yf
 |0,_=>none
 |f+1,b=>if decide (b<(a.Hidden.length:Int))=true then (Zn4 c a b).bind λd=>if(d !=(0:Int))=true then some (.inr d)else Zly c a f (wrap .i64 (b+1))else some (.inl ())
def Zlz (a:Zb) (c:Zs):Nat→Int→Option Yf
 |0,_=>none
 |d+1,b=>if decide (b<(a.Edges.length:Int))=true then (Zfy a c b).bind λf=>if decide ((f.length:Int)>256)=true then some (.inr (3:Int))else Zlz a c d (wrap .i64 (b+1))else some (.inl ())
def Zph (a:Zb) (b:Zs):Option Int:=(Zla a b).bind λc=>if(c !=(0:Int))=true then some c else (Zlx a b fuel 0).bind λ(d:Yf)=>match d with
 |.inl ()=>(Zly a b fuel 0).bind λ(f:Yf)=>match f with
  |.inl ()=>(Zlz a b fuel 0).bind λ(g:Yf)=>match g with
   |.inl ()=>some (0:Int)
   |.inr i=>some i
  |.inr j=>some j
 |.inr k=>some k
def Zdn (a:ZL) (b:ZL):Option Bool:=(Zgm a).bind λc=>(Zgm b).bind λd=>(Zch fuel c d 2 0).bind λf=>some ((f.length:Int)==0)
def Zip (c:Zb) (d:Int):Nat→ZL→Int→Option ZL
 |0,_,_=>none
 |g+1,a,b=>if decide (b<(c.Edges.length:Int))=true then (if(d !=b)=true then (Zbi c d b).bind λf=>if a.length+List.length [f]≤lim then some (a++[f])else none else some a).bind λi=>Zip c d g i (wrap .i64 (b+1))else some a
def Zel (a:Zb):Nat→ZL→Int→Option ZL
 |0,_,_=>none
 |d+1,c,b=>if decide (b<(a.Edges.length:Int))=true then (Zip a b fuel c 0).bind λf=>Zel a d f (wrap .i64 (b+1))else some c
def Zqo (b:Zb) (a:ZL):Option Bool:=(Zel b fuel ([]:ZL) 0).bind λc=>(Zdn a c).bind λd=>(some d).bind λf=>(if f=true then (Zg2).bind λg=>(Zdn a g).bind λi=>some i else some false).bind λj=>some j
def Zce (b:ZB) (c:ZB):Nat→ZB→Int→Option ZB
 |0,_,_=>none
 |f+1,d,a=>if decide (a<5)=true then if 0≤a∧a<5 then if 0≤a∧a<5 then if 0≤a∧a<5 then if 0≤a∧a<5 then if 0≤a∧a<5 then Zce b c f (Arr5.set d a (Za.mk (iMax ((Arr5.get b a).Lo) ((Arr5.get c a).Lo)) (iMin ((Arr5.get b a).Hi) ((Arr5.get c a).Hi)))) (wrap .i64 (a+1))else none else none else none else none else none else some d
def Zc7 (a:ZB) (b:ZB):Option (ZB×Bool):=(Zce a b fuel Zfu 0).bind λc=>(Zbq a).bind λd=>(some (!d)).bind λf=>(if f=true then some true else (Zbq b).bind λg=>some (!g)).bind λi=>(some i).bind λj=>(if j=true then some true else (Zbq c).bind λk=>some (!k)).bind λl=>if l=true then some ((Arr5.mk Zao Zao Zao Zao Zao),false)else some (c,true)
def Zic (c:ZL) (a:ZL) (d:Int):Nat→Int→Option Yb
 |0,_=>none
 |f+1,b=>if decide (b<(a.length:Int))=true then (idx c d).bind λg=>(idx a b).bind λi=>(Zc7 g i).bind λj=>if j.2=true then some (.inr false)else Zic c a d f (wrap .i64 (b+1))else some (.inl ())
def Zid (a:ZL) (c:ZL):Nat→Int→Option Yb
 |0,_=>none
 |d+1,b=>if decide (b<(a.length:Int))=true then (Zic a c b fuel 0).bind λ(f:Yb)=>match f with
  |.inl ()=>Zid a c d (wrap .i64 (b+1))
  |.inr g=>some (.inr g)else some (.inl ())
def Zqb (a:ZL) (b:ZL):Option Bool:=(Zid a b fuel 0).bind λ(c:Yb)=>match c with
 |.inl ()=>some true
 |.inr d=>some d
def Zl0 (b:Zaa) (c:Int) (d:Z7):Nat→Int→Option Yb
 |0,_=>none
 |f+1,a=>if decide (a<c)=true then (idx b.Inspect a).bind λg=>(Zqb d.Set g.Set).bind λi=>if(!i)=true then some (.inr false)else Zl0 b c d f (wrap .i64 (a+1))else some (.inl ())
def Zhv (b:Zaa):Nat→Int→Option Yb
 |0,_=>none
 |f+1,c=>if decide (c<(b.Inspect.length:Int))=true then (idx b.Inspect c).bind λa=>(Zac a.Class).bind λg=>(some (!g)).bind λi=>(if i=true then some true else (some (decide (c>0))).bind λj=>(if j=true then (idx b.Inspect (wrap .i64 (c-1))).bind λd=>some ((Op.bytesLess a.Class.toList d.Class.toList)||(a.Class.toList==d.Class.toList))else some false).bind λk=>some k).bind λl=>(some l).bind λm=>(some (m||((a.Set.length:Int)==0))).bind λn=>(if n=true then some true else (Zea a.Set).bind λo=>some (!o)).bind λp=>(some p).bind λq=>(if q=true then some true else (Zdn a.Set b.Allow).bind λr=>some (!r)).bind λs=>if s=true then some (.inr false)else (Zl0 b c a fuel 0).bind λ(t:Yb)=>match t with
  |.inl ()=>Zhv b f (wrap .i64 (c+1))
  |.inr u=>some (.inr u)else some (.inl ())
def Zpi (b:Zb) (a:Zaa):Option Bool:=(Zaz b).bind λc=>(some (!c)).bind λd=>(if d=true then some true else (Zea a.Allow).bind λf=>some (!f)).bind λg=>(some g).bind λi=>(if i=true then some true else (Zqo b a.Allow).bind λj=>some (!j)).bind λk=>if k=true then some false else (Zhv a fuel 0).bind λ(l:Yb)=>match l with
 |.inl ()=>some true
 |.inr m=>some m
def Znc (a:Zb) (f:Zaa) (b:Int) (c:Int):Option (ZL×Int):=(Zaz a).bind λg=>if(!g)=true then some (([]:ZL),(1:Int))else (some (decide (b<0))).bind λi=>(some (i||(decide (b≥(a.Edges.length:Int))))).bind λj=>(some (j||(decide (c<0)))).bind λk=>if(k||(decide (c≥(a.Edges.length:Int))))=true then some (([]:ZL),(2:Int))else if(b==c)=true then some (([]:ZL),(0:Int))else (Zbi a b c).bind λl=>(Zb3 f.Allow [l]).bind λd=>some (d.1,d.2)
def Zl1 (a:ZL) (c:ZB):Nat→Int→Option Yb
 |0,_=>none
 |d+1,b=>if decide (b<(a.length:Int))=true then (idx a b).bind λf=>(Zc7 f c).bind λg=>if g.2=true then some (.inr true)else Zl1 a c d (wrap .i64 (b+1))else some (.inl ())
def Zsy (a:ZL) (b:ZB):Option Bool:=(Zl1 a b fuel 0).bind λ(c:Yb)=>match c with
 |.inl ()=>some false
 |.inr d=>some d
def Zi9 (d:Zb) (a:Zaa) (f:Int) (g:Int):Nat→Int→Int→Yp→Int→Option (Int×Int×Yp)
 |0,_,_,_,_=>none
 |l+1,i,j,b,c=>if decide (c<(a.Inspect.length:Int))=true then ((idx a.Inspect c).bind λm=>(Zbi d f g).bind λn=>(Zsy m.Set n).bind λo=>if o=true then (idx a.Inspect c).bind λk=>if b.length+List.length [k.Class]≤lim then some (b++[k.Class])else none else some b).bind λp=>Zi9 d a f g l i j p (wrap .i64 (c+1))else some (i,j,b)
def Zja (a:Zb) (f:Zaa) (c:Int):Nat→Yr→Int→Option (Yr⊕(Yr×Int))
 |0,_,_=>none
 |l+1,d,b=>if decide (b<(a.Edges.length:Int))=true then ((Znc a f c b).bind λg=>if(g.2 !=(0:Int))=true then some (.inr (([]:Yr),g.2))else if((g.1.length:Int)==0)=true then some (.inl d)else (idx a.Edges c).bind λm=>(idx a.Edges b).bind λn=>(Zi9 a f c b fuel m.Device n.Device [] 0).bind λ(i,j,k)=>if d.length+List.length [Zap.mk i j k]≤lim then some (.inl (d++[Zap.mk i j k]))else none).bind λ(p:(Yr⊕(Yr×Int)))=>match p with
  |.inl q=>Zja a f c l q (wrap .i64 (b+1))
  |.inr r=>some (.inr r)else some (.inl d)
def Zjb (a:Zb) (c:Zaa):Nat→Yr→Int→Option (Yr⊕(Yr×Int))
 |0,_,_=>none
 |f+1,d,b=>if decide (b<(a.Edges.length:Int))=true then (Zja a c b fuel d 0).bind λ(g:(Yr⊕(Yr×Int)))=>match g with
  |.inl i=>Zjb a c f i (wrap .i64 (b+1))
  |.inr j=>some (.inr j)else some (.inl d)
def Zra (a:Zb) (b:Zaa):Option (Yr×Int):=(Zjb a b fuel [] 0).bind λ(c:(Yr⊕(Yr×Int)))=>match c with
 |.inl d=>some (d,(0:Int))
 |.inr f=>some f
def Zpj (c:Zb) (a:Ya):Nat→Ya→Ya→Int→Option (Ya×Ya)
 |0,_,_,_=>none
 |j+1,d,f,b=>if decide (b<(a.length:Int))=true then ((idx a b).bind λk=>if decide (k<(c.Devices.length:Int))=true then (idx a b).bind λg=>if f.length+List.length [g]≤lim then some (d,f++[g])else none else (idx a b).bind λi=>if d.length+List.length [wrap .i64 (i-(c.Devices.length:Int))]≤lim then some ((d++[wrap .i64 (i-(c.Devices.length:Int))]),f)else none).bind λ(m,n)=>Zpj c a j m n (wrap .i64 (b+1))else some (d,f)
def Zsn (a:Zb) (b:Ya):Option Zp:=(Zpj a b fuel [] [] 0).bind λ(d,f)=>some (Zp.mk d f)
def Zn5 (a:Zb):Nat→Yv→Int→Option Yv
 |0,_,_=>none
 |f+1,b,c=>(some (decide (c<(wrap .i64 ((a.Devices.length:Int)+(a.Links.length:Int)))))).bind λg=>if(g&&(decide (a.Tolerate≥1)))=true then (Zsn a [c]).bind λd=>if b.length+List.length [d]≤lim then Zn5 a f (b++[d]) (wrap .i64 (c+1))else none else some b
def Zn6 (a:Zb) (d:Int):Nat→Yv→Int→Option Yv
 |0,_,_=>none
 |g+1,b,c=>if(decide (c<(wrap .i64 ((a.Devices.length:Int)+(a.Links.length:Int)))))=true then (Zsn a [d,c]).bind λf=>if b.length+List.length [f]≤lim then Zn6 a d g (b++[f]) (wrap .i64 (c+1))else none else some b
def Zn7 (a:Zb):Nat→Yv→Int→Option Yv
 |0,_,_=>none
 |d+1,c,b=>(some (decide (b<(wrap .i64 ((a.Devices.length:Int)+(a.Links.length:Int)))))).bind λf=>if(f&&(decide (a.Tolerate≥2)))=true then (Zn6 a b fuel c (wrap .i64 (b+1))).bind λg=>Zn7 a d g (wrap .i64 (b+1))else some c
def Zrp (a:Zb):Option Yv:=(Zc3 a).bind λb=>if(!b)=true then some ([]:Yv)else (Zn5 a fuel [Zp.mk [] ([]:Ya)] (0:Int)).bind λc=>(Zn7 a fuel c 0).bind λd=>some d
def Zcc (b:Ya) (c:Int):Nat→Int→Option Yb
 |0,_=>none
 |d+1,a=>if decide (a<(b.length:Int))=true then (idx b a).bind λf=>(some (decide (f<0))).bind λg=>(if g=true then some true else (idx b a).bind λi=>some (decide (i≥c))).bind λj=>(some j).bind λk=>(if k=true then some true else (some (decide (a>0))).bind λl=>(if l=true then (idx b a).bind λm=>(idx b (wrap .i64 (a-1))).bind λn=>some (decide (m≤n))else some false).bind λo=>some o).bind λp=>if p=true then some (.inr false)else Zcc b c d (wrap .i64 (a+1))else some (.inl ())
def Zdo (a:Ya) (b:Int):Option Bool:=(Zcc a b fuel 0).bind λ(c:Yb)=>match c with
 |.inl ()=>some true
 |.inr d=>some d
def Zbj (a:Zb) (b:Zp):Option Bool:=(Zc3 a).bind λc=>(some c).bind λd=>(if d=true then (Zdo b.Links (a.Links.length:Int)).bind λf=>some f else some false).bind λg=>(some g).bind λi=>(if i=true then (Zdo b.Devices (a.Devices.length:Int)).bind λj=>some j else some false).bind λk=>some k
def Zg4 (a:Ya) (c:Int):Nat→Int→Option Yb
 |0,_=>none
 |d+1,b=>if decide (b<(a.length:Int))=true then (idx a b).bind λf=>if(f==c)=true then some (.inr true)else Zg4 a c d (wrap .i64 (b+1))else some (.inl ())
def Zk1 (a:Ya) (b:Int):Option Bool:=(Zg4 a b fuel 0).bind λ(c:Yb)=>match c with
 |.inl ()=>some false
 |.inr d=>some d
def Za2 (b:Zb) (c:Zp) (a:Int):Option Bool:=(Zbj b c).bind λd=>(some d).bind λf=>(some (f&&(decide (a≥0)))).bind λg=>(some (g&&(decide (a<(b.Devices.length:Int))))).bind λi=>(if i=true then (Zk1 c.Devices a).bind λj=>some (!j)else some false).bind λk=>some k
def Zc9 (a:Zb) (c:Zp) (b:Int):Option Bool:=(Zbj a c).bind λd=>(some d).bind λf=>(some (f&&(decide (b≥0)))).bind λg=>(some (g&&(decide (b<(a.Links.length:Int))))).bind λi=>(if i=true then (Zk1 c.Links b).bind λj=>some (!j)else some false).bind λk=>(some k).bind λl=>(if l=true then (idx a.Links b).bind λm=>(Za2 a c m.A).bind λn=>some n else some false).bind λo=>(some o).bind λp=>(if p=true then (idx a.Links b).bind λq=>(Za2 a c q.B).bind λr=>some r else some false).bind λs=>some s
def Zgn (c:Zb) (d:Zp):Nat→Ya→Int→Option Ya
 |0,_,_=>none
 |f+1,a,b=>if decide (b<(c.Devices.length:Int))=true then ((Za2 c d b).bind λg=>if g=true then if a.length+List.length [b]≤lim then some (a++[b])else none else if a.length+List.length [(-1:Int)]≤lim then some (a++[(-1:Int)])else none).bind λi=>Zgn c d f i (wrap .i64 (b+1))else some a
def Zgo (c:Zb) (j:Zp):Nat→Ya→Int→Option Ya
 |0,_,_=>none
 |k+1,a,d=>if decide (d<(c.Links.length:Int))=true then ((Zc9 c j d).bind λl=>if l=true then (idx c.Links d).bind λb=>(idx c.Links d).bind λf=>(idx a b.A).bind λg=>(idx a f.B).bind λi=>(idx a b.A).bind λ_=>(idx (List.set a (Int.toNat b.A) (iMin g i)) b.A).bind λm=>(idx (List.set a (Int.toNat b.A) (iMin g i)) f.B).bind λ_=>some (List.set (List.set a (Int.toNat b.A) (iMin g i)) (Int.toNat f.B) m)else some a).bind λn=>Zgo c j k n (wrap .i64 (d+1))else some a
def Zgp (a:Zb) (b:Zp):Nat→Ya→Int→Option Ya
 |0,_,_=>none
 |f+1,c,d=>if decide (d<(a.Devices.length:Int))=true then (Zgo a b fuel c 0).bind λg=>Zgp a b f g (wrap .i64 (d+1))else some c
def Zjc (a:Zb) (b:Zp):Option Ya:=(Zbj a b).bind λc=>if(!c)=true then some ([]:Ya)else (Zgn a b fuel [] 0).bind λd=>(Zgp a b fuel d 0).bind λf=>some f
def Zkd (a:Zb) (b:Zp) (c:Int) (d:Int):Option Bool:=(Zjc a b).bind λf=>(Za2 a b c).bind λg=>(some g).bind λi=>(if i=true then (Za2 a b d).bind λj=>some j else some false).bind λk=>(some k).bind λl=>(if l=true then (idx f c).bind λm=>(idx f d).bind λn=>some (m==n)else some false).bind λo=>some o
def Zg5 (a:Zb) (c:Zp) (b:Int):Option Bool:=(Zbj a c).bind λd=>(some d).bind λf=>(some (f&&(decide (b≥0)))).bind λg=>some (g&&(decide (b<(a.Devices.length:Int))))
def Zpk (b:Nat) (a:Ya) (c:Int) (d:Int) (f:Int):Option Ya:=(idxn b a d).bind λg=>(some (decide (g≥0))).bind λi=>(if i=true then (idxn b a c).bind λj=>(some (decide (j<0))).bind λk=>(if k=true then some true else (idxn b a d).bind λl=>(idxn b a c).bind λm=>some (decide ((wrap .i64 (l+f))<m))).bind λn=>some n else some false).bind λo=>if o=true then (idxn b a d).bind λp=>(idxn b a c).bind λ_=>some (List.set a (Int.toNat c) (wrap .i64 (p+f)))else some a
def Zhm (b:Zb):Nat→Ya→Int→Option Ya
 |0,_,_=>none
 |d+1,a,c=>if decide (c<(b.Devices.length:Int))=true then if a.length+List.length [(-1:Int)]≤lim then Zhm b d (a++[(-1:Int)]) (wrap .i64 (c+1))else none else some a
def Zhn (a:Zb) (f:Zp):Nat→Ya→Int→Option Ya
 |0,_,_=>none
 |i+1,c,b=>if decide (b<(a.Links.length:Int))=true then ((Zc9 a f b).bind λj=>if j=true then (idx a.Links b).bind λk=>(idx a.Links b).bind λl=>(idx a.Links b).bind λm=>if c≠[]then (Zpk (c.length) c k.A l.B m.Cost).bind λd=>if d.length=c.length then (idx a.Links b).bind λn=>(idx a.Links b).bind λo=>(idx a.Links b).bind λp=>if d≠[]then (Zpk (d.length) d n.B o.A p.Cost).bind λg=>if g.length=d.length then some g else none else none else none else none else some c).bind λq=>Zhn a f i q (wrap .i64 (b+1))else some c
def Zho (a:Zb) (b:Zp):Nat→Ya→Int→Option Ya
 |0,_,_=>none
 |f+1,c,d=>if decide (d<(a.Devices.length:Int))=true then (Zhn a b fuel c 0).bind λg=>Zho a b f g (wrap .i64 (d+1))else some c
def Zdp (a:Zb) (c:Zp) (b:Int):Option Ya:=(Zg5 a c b).bind λf=>if(!f)=true then some ([]:Ya)else (Zhm a fuel [] 0).bind λd=>((Za2 a c b).bind λg=>if g=true then (idx d b).bind λ_=>some (List.set d (Int.toNat b) (0:Int))else some d).bind λi=>(Zho a c fuel i 0).bind λj=>some j
def Zke (i:Zb) (f:ByteArray) (b:Ya) (c:Ya):Nat→Int→Int→Int→Option Int
 |0,_,_,_=>none
 |j+1,d,g,a=>(some (decide (a<(b.length:Int)))).bind λk=>(some (k&&(decide (a<(c.length:Int))))).bind λl=>if(l&&(!(f.toList==ByteArray.empty.toList)))=true then ((idx i.Devices a).bind λm=>(some (!(m.Class.toList==f.toList))).bind λn=>(if n=true then some true else (idx b a).bind λo=>some (decide (o<0))).bind λp=>(some p).bind λq=>(if q=true then some true else (idx c a).bind λr=>some (decide (r<0))).bind λs=>if s=true then some (d,g)else (some (decide (d<0))).bind λt=>(if t=true then some true else (idx b a).bind λu=>(idx c a).bind λv=>some (decide ((wrap .i64 (u+v))<g))).bind λw=>if w=true then (idx b a).bind λx=>(idx c a).bind λy=>some (a,wrap .i64 (x+y))else some (d,g)).bind λ(a0,a1)=>Zke i f b c j a0 a1 (wrap .i64 (a+1))else some d
def Zr7 (a:Zb) (b:Zp) (c:ByteArray) (d:Int) (f:Int):Option Int:=(Zdp a b d).bind λg=>(Zdp a b f).bind λi=>(Zke a c g i fuel (-1:Int) 0 0).bind λj=>some j
def Zjd (c:Zb) (d:Zp) (a:Zap):Nat→Int→Option Yf
 |0,_=>none
 |f+1,b=>if decide (b<(a.f_classes.length:Int))=true then (idx a.f_classes b).bind λg=>(Zr7 c d g a.f_a a.f_b).bind λi=>if decide (i<0)=true then some (.inr (11:Int))else Zjd c d a f (wrap .i64 (b+1))else some (.inl ())
def Zrb (b:Zb) (c:Zp) (a:Zap):Option Int:=(Za2 b c a.f_a).bind λd=>(some (!d)).bind λf=>(if f=true then some true else (Za2 b c a.f_b).bind λg=>some (!g)).bind λi=>if i=true then some (0:Int)else (Zkd b c a.f_a a.f_b).bind λj=>if(!j)=true then some (10:Int)else (Zjd b c a fuel 0).bind λ(k:Yf)=>match k with
 |.inl ()=>some (0:Int)
 |.inr l=>some l
def Zgq (f:Zb) (a:(Yr×Int)) (b:Yv) (c:Int):Nat→Int→Option (Unit⊕(Zp×Int))
 |0,_=>none
 |i+1,d=>if decide (d<(a.1.length:Int))=true then (idx b c).bind λj=>(idx a.1 d).bind λk=>(Zrb f j k).bind λg=>if(g !=(0:Int))=true then (idx b c).bind λl=>some (.inr (l,g))else Zgq f a b c i (wrap .i64 (d+1))else some (.inl ())
def Zgr (c:Zb) (d:(Yr×Int)) (a:Yv):Nat→Int→Option (Unit⊕(Zp×Int))
 |0,_=>none
 |f+1,b=>if decide (b<(a.length:Int))=true then (Zgq c d a b fuel 0).bind λ(g:(Unit⊕(Zp×Int)))=>match g with
  |.inl ()=>Zgr c d a f (wrap .i64 (b+1))
  |.inr i=>some (.inr i)else some (.inl ())
def Zr8 (a:Zb) (c:Zaa):Option (Zp×Int):=(Zpi a c).bind λd=>if(!d)=true then some ((Zp.mk [] []),(1:Int))else (Zra a c).bind λb=>if(b.2 !=(0:Int))=true then some ((Zp.mk [] []),b.2)else (Zrp a).bind λf=>(Zgr a b f fuel 0).bind λ(g:(Unit⊕(Zp×Int)))=>match g with
 |.inl ()=>some ((Zp.mk [] []),(0:Int))
 |.inr i=>some i
def Zl2 (c:Za) (b:Int):Nat→Int→Option Int
 |0,_=>none
 |d+1,a=>if(wrap .u64 ((2:Int)*a))≠0 then (some ((Int.tmod b (wrap .u64 ((2:Int)*a)))==0)).bind λf=>if(f&&(decide ((wrap .u64 (b+(wrap .u64 ((2:Int)*a))))≤(wrap .u64 ((wrap .u64 c.Hi)+1)))))=true then Zl2 c b d (wrap .u64 (a*2))else some a else none
def Zl3 (b:Za):Nat→Yc→Int→Option Yc
 |0,_,_=>none
 |f+1,c,a=>if(decide (a<(wrap .u64 ((wrap .u64 b.Hi)+1))))=true then (Zl2 b a fuel 1).bind λd=>if c.length+List.length [Za.mk (wrap .u32 a) (wrap .u32 (wrap .u64 ((wrap .u64 (a+d))-1)))]≤lim then Zl3 b f (c++[Za.mk (wrap .u32 a) (wrap .u32 (wrap .u64 ((wrap .u64 (a+d))-1)))]) (wrap .u64 (a+d))else none else some c
def Zdq (a:Za) (b:Int):Option Yc:=(some (decide (b<0))).bind λc=>(some (c||(decide (b>32)))).bind λd=>(some (d||(decide (a.Lo>a.Hi)))).bind λf=>(if f=true then some true else if 0≤(wrap .u64 b)then some (decide ((wrap .u64 a.Hi)≥(bShl .u64 (1:Int) (wrap .u64 b))))else none).bind λg=>if g=true then some ([]:Yc)else (Zl3 a fuel [] (wrap .u64 a.Lo)).bind λi=>some i
def Zsz (b:ZB) (a:Int):Option Yc:=if 0≤a∧a<5 then if 0≤a∧a<5 then (Zdq (Arr5.get b a) (Arr5.get (Arr5.mk 32 32 8 16 16) a)).bind λc=>some c else none else none
def Zr9 (b:ZB) (c:Bool):Nat→Int→Int→Option Int
 |0,_,_=>none
 |f+1,d,a=>(some (decide (a<5))).bind λg=>if(g&&(!c))=true then (Zsz b a).bind λi=>Zr9 b c f (wrap .i64 (d*(i.length:Int))) (wrap .i64 (a+1))else some d
def Zrq (a:ZB) (b:Bool):Option Int:=(Zbq a).bind λc=>if(!c)=true then some (0:Int)else (Zr9 a b fuel 1 0).bind λd=>some d
def Zpl (a:ZL) (c:Bool):Nat→Int→Int→Option Int
 |0,_,_=>none
 |f+1,d,b=>if decide (b<(a.length:Int))=true then (idx a b).bind λg=>(Zrq g c).bind λi=>Zpl a c f (wrap .i64 (d+i)) (wrap .i64 (b+1))else some d
def Zso (a:ZL) (b:Bool):Option Int:=(Zpl a b fuel 0 0).bind λc=>some c
def Znd (d:Zb) (a:Ya) (b:Zaj):Option Ya:=if List.length ([]:Ya)+a.length≤lim then (idx d.Edges b.From).bind λj=>(idx d.Edges b.To).bind λk=>(if b.Egress=true then some (k.Device,j.Device)else some (j.Device,k.Device)).bind λ(c,f)=>(idx ([]++a) c).bind λg=>(idx d.Devices c).bind λm=>(Zso b.Allow m.Ranges).bind λi=>(idx ([]++a) c).bind λ_=>(idx (List.set ([]++a) (Int.toNat c) (wrap .i64 (g+i))) f).bind λn=>(Zbi d b.From b.To).bind λo=>(idx d.Devices f).bind λp=>(Zrq o p.Ranges).bind λq=>(idx (List.set ([]++a) (Int.toNat c) (wrap .i64 (g+i))) f).bind λ_=>some (List.set (List.set ([]++a) (Int.toNat c) (wrap .i64 (g+i))) (Int.toNat f) (wrap .i64 (n+q)))else none
def Zne (c:Zb) (b:Ya):Nat→Int→Option Yb
 |0,_=>none
 |d+1,a=>if decide (a<(b.length:Int))=true then (idx b a).bind λf=>(idx c.Devices a).bind λg=>if decide (f>g.Capacity)=true then some (.inr false)else Zne c b d (wrap .i64 (a+1))else some (.inl ())
def Zqp (a:Zb) (b:Ya):Option Bool:=(Zne a b fuel 0).bind λ(c:Yb)=>match c with
 |.inl ()=>some true
 |.inr d=>some d
def Zl4 (a:Zb) (j:Zaa) (d:Int):Nat→Ym→Int→Ya→Int→Option ((Ym×Int×Ya)⊕(Ym×Int))
 |0,_,_,_,_=>none
 |n+1,f,i,g,b=>if decide (b<(a.Edges.length:Int))=true then ((Znc a j d b).bind λc=>if(c.2 !=(0:Int))=true then some (.inr (([]:Ym),c.2))else (some ((c.1.length:Int)==0)).bind λo=>if(o||(i !=(0:Int)))=true then some (.inl (f,i,g))else (Znd a g (Zaj.mk d b false c.1)).bind λk=>((Zqp a k).bind λp=>if(!p)=true then (Znd a g ({(Zaj.mk d b false c.1)with Egress:=true}:Zaj)).bind λq=>some (({(Zaj.mk d b false c.1)with Egress:=true}:Zaj),q)else some ((Zaj.mk d b false c.1),k)).bind λ(l,m)=>(Zqp a m).bind λs=>if(!s)=true then some (.inl (f,(9:Int),g))else if f.length+List.length [l]≤lim then some (.inl ((f++[l]),i,m))else none).bind λ(t:((Ym×Int×Ya)⊕(Ym×Int)))=>match t with
  |.inl (u,v,w)=>Zl4 a j d n u v w (wrap .i64 (b+1))
  |.inr x=>some (.inr x)else some (.inl (f,i,g))
def Zl5 (a:Zb) (c:Zaa):Nat→Ym→Ya→Int→Ya→Int→Option ((Ym×Ya×Int)⊕(Ym×Int))
 |0,_,_,_,_,_=>none
 |i+1,d,f,g,j,b=>if decide (b<(a.Edges.length:Int))=true then (Zl4 a c b fuel d g j 0).bind λ(k:((Ym×Int×Ya)⊕(Ym×Int)))=>match k with
  |.inl (l,m,n)=>Zl5 a c i l f m n (wrap .i64 (b+1))
  |.inr o=>some (.inr o)else some (.inl (d,f,g))
def Zs0 (a:Zb) (b:Zaa):Option (Ym×Int):=(Zpi a b).bind λd=>if(!d)=true then some (([]:Ym),(1:Int))else if 0≤(a.Devices.length:Int)∧(a.Devices.length:Int)≤(lim:Int)then (Zl5 a b fuel [] (List.replicate (Int.toNat (a.Devices.length:Int)) (0:Int)) 0 (List.replicate (Int.toNat (a.Devices.length:Int)) (0:Int)) 0).bind λ(f:((Ym×Ya×Int)⊕(Ym×Int)))=>match f with
 |.inl (g,_,c)=>if(c !=(0:Int))=true then some (([]:Ym),c)else some (g,(0:Int))
 |.inr i=>some i else none
def Zqq (a:ZL):Nat→Yq→Int→Option Yq
 |0,_,_=>none
 |f+1,b,c=>if decide (c<(a.length:Int))=true then (idx a c).bind λd=>if b.length+List.length [Zal.mk d true]≤lim then Zqq a f (b++[Zal.mk d true]) (wrap .i64 (c+1))else none else some b
def Zwg (a:ZL):Option Yq:=(Zqq a fuel [] 0).bind λb=>some b
def Zl6 (f:Zb) (a:Ym) (g:Int) (d:Bool):Nat→Yq→Int→Option Yq
 |0,_,_=>none
 |k+1,c,b=>if decide (b<(a.length:Int))=true then ((idx a b).bind λl=>(if d=true then (idx a b).bind λm=>some m.To else some l.From).bind λn=>if(n !=g)=true then some c else (idx a b).bind λo=>if(o.Egress==d)=true then (idx a b).bind λp=>(Zwg p.Allow).bind λi=>if c.length+i.length≤lim then some (c++i)else none else (idx a b).bind λq=>(idx a b).bind λr=>(Zbi f q.From r.To).bind λj=>if c.length+List.length [Zal.mk j true]≤lim then some (c++[Zal.mk j true])else none).bind λs=>Zl6 f a g d k s (wrap .i64 (b+1))else some c
def Zpm (a:Zb) (b:Ym) (c:Int) (d:Bool):Option Yq:=(Zl6 a b c d fuel [] 0).bind λf=>some f
def Zn8 (a:Int) (b:Int) (c:Int):Option ZB:=(Zcv).bind λd=>some ({({({d with x1:=(Za.mk a a)}:ZB)with x2:=(Za.mk (wrap .u32 b) (wrap .u32 b))}:ZB)with x4:=(Za.mk (wrap .u32 c) (wrap .u32 c))}:ZB)
def Zje (f:Zb) (c:Zs) (g:Int):Nat→Yj→Int→Option Yj
 |0,_,_=>none
 |k+1,b,d=>if decide (d<(c.Published.length:Int))=true then ((idx c.Published d).bind λa=>(Zcg f a.Edge).bind λl=>if(l==g)=true then (Zn8 a.Addr a.Proto a.Port).bind λi=>(Zn8 a.Real a.Proto a.RealPort).bind λj=>if b.length+List.length [Z9.mk i j]≤lim then some (b++[Z9.mk i j])else none else some b).bind λm=>Zje f c g k m (wrap .i64 (d+1))else some b
def Zrc (a:Zb) (b:Zs) (c:Int):Option Yj:=(Zje a b c fuel [] 0).bind λd=>some d
def Zkf (d:Zaa) (f:Int) (a:(ZL×Int)):Nat→Yi→Int→Option Yi
 |0,_,_=>none
 |j+1,b,c=>if decide (c<(a.1.length:Int))=true then (idx a.1 c).bind λg=>(idx d.Inspect f).bind λi=>if b.length+List.length [Zak.mk g i.Class]≤lim then Zkf d f a j (b++[Zak.mk g i.Class]) (wrap .i64 (c+1))else none else some b
def Zkg (a:Zaa):Nat→Yi→ZB→Int→Option ((Yi×ZB)⊕(Yi×Int))
 |0,_,_,_=>none
 |g+1,f,c,b=>if decide (b<(a.Inspect.length:Int))=true then (idx a.Inspect b).bind λi=>(Zb3 i.Set [c]).bind λd=>if(d.2 !=(0:Int))=true then some (.inr (([]:Yi),d.2))else (Zkf a b d fuel f 0).bind λj=>Zkg a g j c (wrap .i64 (b+1))else some (.inl (f,c))
def Zn9 (c:Zb) (d:Zaa) (a:Int):Option (Yi×Int):=(Zcv).bind λf=>(Zbi c a a).bind λg=>(Zkg d fuel [] ({f with x0:=g.x0}:ZB) 0).bind λ(i:((Yi×ZB)⊕(Yi×Int)))=>match i with
 |.inl (b,_)=>if decide ((b.length:Int)>4096)=true then some (([]:Yi),(3:Int))else some (b,(0:Int))
 |.inr j=>some j
def Zl7 (b:Zb) (d:Zs) (j:(Zaa×Int)) (f:(Ym×Int)):Nat→Yh→Int→Option (Yh⊕(Yh×Int))
 |0,_,_=>none
 |p+1,g,a=>if decide (a<(b.Edges.length:Int))=true then (Zpm b f.1 a false).bind λk=>(Zpm b f.1 a true).bind λl=>(Zrc b d a).bind λm=>(Zfy b d a).bind λn=>(Zn9 b j.1 a).bind λc=>if(c.2 !=(0:Int))=true then some (.inr (([]:Yh),c.2))else (idx b.Edges a).bind λo=>(idx g o.Device).bind λi=>if i.Ports.length+List.length [({({({(Zw.mk a k l [] [] [])with Moves:=m}:Zw)with Hides:=n}:Zw)with Steers:=c.1}:Zw)]≤lim then Zl7 b d j f p (List.set g (Int.toNat o.Device) ({i with Ports:=(i.Ports++[({({({(Zw.mk a k l [] [] [])with Moves:=m}:Zw)with Hides:=n}:Zw)with Steers:=c.1}:Zw)])}:Zo)) (wrap .i64 (a+1))else none else some (.inl g)
def Zs1 (a:Zb) (c:Zs) (i:Int):Option (Yh×Int):=(Zsm a c i).bind λb=>if(b.2 !=(0:Int))=true then some (([]:Yh),b.2)else (Zph a c).bind λf=>if(f !=(0:Int))=true then some (([]:Yh),f)else (Zr8 a b.1).bind λg=>if(g.2 !=(0:Int))=true then some (([]:Yh),g.2)else (Zs0 a b.1).bind λd=>if(d.2 !=(0:Int))=true then some (([]:Yh),d.2)else if 0≤(a.Devices.length:Int)∧(a.Devices.length:Int)≤(lim:Int)then (Zl7 a c b d fuel (List.replicate (Int.toNat (a.Devices.length:Int)) Zej) 0).bind λ(j:(Yh⊕(Yh×Int)))=>match j with
 |.inl k=>some (k,(0:Int))
 |.inr l=>some l else none
def Zeh (a:Yh):Nat→Yh→Int→Option Yh
 |0,_,_=>none
 |f+1,b,c=>if decide (c<(a.length:Int))=true then (idx a c).bind λd=>if List.length ([]:Yo)+d.Ports.length≤lim then if b.length+1≤lim then Zeh a f (b++[Zo.mk ([]++d.Ports)]) (wrap .i64 (c+1))else none else none else some b
def Zcw (a:Yh):Option Yh:=(Zeh a fuel [] 0).bind λb=>some b
def Zex (g:Zc):Option (Za×Zc):=(Zh g 4).bind λa=>if(a.1==0)=true then (Zh a.2 6).bind λf=>(Ze4 f.1).bind λi=>(Za7 i).bind λj=>some (j.1,f.2)else if(a.1==1)=true then (Zcy a.2).bind λb=>(Zcy b.2).bind λc=>some ((Za.mk (iMin b.1 c.1) (iMax b.1 c.1)),c.2)else if(a.1==2)=true then (Zcy a.2).bind λd=>some ((Za.mk d.1 d.1),d.2)else some ((Za.mk 0 4294967295),a.2)
def Zev:Nat→Zc→ZB→Int→Option (Zc×ZB)
 |0,_,_,_=>none
 |m+1,c,b,d=>if decide (d>0)=true then ((Zh c 5).bind λa=>if(a.1==0)=true then (Zex a.2).bind λf=>some (f.2,({b with x0:=f.1}:ZB))else if(a.1==1)=true then (Zex a.2).bind λg=>some (g.2,({b with x1:=g.1}:ZB))else if(a.1==2)=true then (Zh a.2 6).bind λi=>(idx [(6:Int),(17:Int),(1:Int),(0:Int),(7:Int),(255:Int)] i.1).bind λj=>some (i.2,({b with x2:=(Za.mk j j)}:ZB))else if(a.1==3)=true then (Zfa a.2 65535).bind λk=>some (k.2,({b with x3:=k.1}:ZB))else (Zfa a.2 65535).bind λl=>some (l.2,({b with x4:=l.1}:ZB))).bind λ(o,p)=>Zev m o p (wrap .i64 (d-1))else some (c,b)
def Zoa (b:Zc):Option (ZB×Zc):=(Zcv).bind λc=>(Zh b 3).bind λa=>(Zev fuel a.2 c (wrap .i64 ((1:Int)+a.1))).bind λ(f,g)=>some (g,f)
def Zcp (m:Zc) (a:Zb):Option (ZB×Zc):=(Zoa m).bind λb=>((some (decide ((a.Edges.length:Int)>0))).bind λn=>(if n=true then (Zh b.2 4).bind λf=>some ((decide (f.1>(0:Int))),f.2)else some (false,b.2)).bind λc=>if c.1=true then (Zh c.2 (a.Edges.length:Int)).bind λg=>(idx a.Edges g.1).bind λo=>(Za7 o.Prefix).bind λp=>(Zh g.2 (a.Edges.length:Int)).bind λi=>(idx a.Edges i.1).bind λq=>(Za7 q.Prefix).bind λr=>some (i.2,({({b.1 with x0:=p.1}:ZB)with x1:=r.1}:ZB))else some (c.2,b.1)).bind λ(t,j)=>((Zh t 3).bind λd=>if(d.1==0)=true then (Zh d.2 4).bind λk=>(idx [(6:Int),(17:Int),(1:Int),(50:Int)] k.1).bind λl=>some (k.2,({j with x2:=(Za.mk l l)}:ZB))else some (d.2,j)).bind λ(v,w)=>some (w,v)
def Ze6 (d:Zb):Nat→Zc→Yq→Int→Option (Zc×Yq)
 |0,_,_,_=>none
 |i+1,f,a,g=>if decide (g>0)=true then (Zcp f d).bind λb=>(Zh b.2 3).bind λc=>if a.length+List.length [Zal.mk b.1 (decide (c.1>(0:Int)))]≤lim then Ze6 d i c.2 (a++[Zal.mk b.1 (decide (c.1>(0:Int)))]) (wrap .i64 (g-1))else none else some (f,a)
def Zem (b:Zc) (c:Zb) (d:Int):Option (Yq×Zc):=(Zh b (wrap .i64 (d+1))).bind λa=>(Ze6 c fuel a.2 [] a.1).bind λ(g,i)=>some (i,g)
def Zgs (d:Zb):Nat→Zc→Yq→Int→Option (Zc×Yq)
 |0,_,_,_=>none
 |i+1,f,a,g=>if decide (g>0)=true then (Zcp f d).bind λb=>(Zh b.2 3).bind λc=>if a.length+List.length [Zal.mk b.1 (decide (c.1>(0:Int)))]≤lim then Zgs d i c.2 (a++[Zal.mk b.1 (decide (c.1>(0:Int)))]) (wrap .i64 (g-1))else none else some (f,a)
def Zdb (b:Zc) (c:Zb) (d:Int):Option (Yq×Zc):=(Zh b (wrap .i64 (d+1))).bind λa=>(Zgs c fuel a.2 [] a.1).bind λ(g,i)=>some (i,g)
def Zpn (n:Zc) (c:Zb) (a:Zw):Option (Zw×Zc):=((Zh n 8).bind λb=>if(b.1==0)=true then (Zem b.2 c 2).bind λd=>if d.1.length+a.Ingress.length≤lim then some (d.2,({a with Ingress:=(d.1++a.Ingress)}:Zw))else none else if(b.1==1)=true then (Zem b.2 c 2).bind λf=>if f.1.length+a.Egress.length≤lim then some (f.2,({a with Egress:=(f.1++a.Egress)}:Zw))else none else if(b.1==2)=true then if decide ((a.Ingress.length:Int)>0)=true then if 0≤(1:Int)∧(1:Int)≤(a.Ingress.length:Int)∧(a.Ingress.length:Int)≤(a.Ingress.length:Int)then some (b.2,({a with Ingress:=(List.drop (Int.toNat (1:Int)) (List.take (Int.toNat (a.Ingress.length:Int)) a.Ingress))}:Zw))else none else some (b.2,a)else if(b.1==3)=true then if decide ((a.Egress.length:Int)>0)=true then if 0≤(1:Int)∧(1:Int)≤(a.Egress.length:Int)∧(a.Egress.length:Int)≤(a.Egress.length:Int)then some (b.2,({a with Egress:=(List.drop (Int.toNat (1:Int)) (List.take (Int.toNat (a.Egress.length:Int)) a.Egress))}:Zw))else none else some (b.2,a)else if(b.1==4)=true then (Zcp b.2 c).bind λi=>some (i.2,({a with Ingress:=[Zal.mk i.1 true]}:Zw))else if(b.1==5)=true then (Zcp b.2 c).bind λg=>(Zh g.2 3).bind λj=>(idx [(⟨#[105,112,115]⟩:ByteArray),⟨#[100,108,112]⟩,⟨#[110,111,110,101]⟩] j.1).bind λk=>if List.length [Zak.mk g.1 k]+a.Steers.length≤lim then some (j.2,({a with Steers:=([Zak.mk g.1 k]++a.Steers)}:Zw))else none else if(b.1==6)=true then some (b.2,({({a with Steers:=([]:Yi)}:Zw)with Moves:=([]:Yj)}:Zw))else (Zdb b.2 c 4).bind λl=>(Zdb l.2 c 4).bind λm=>some (m.2,({({a with Ingress:=l.1}:Zw)with Egress:=m.1}:Zw))).bind λ(p,q)=>some (q,p)
def Zmm (f:Zb):Nat→Zc→Yh→Int→Option (Zc×Yh)
 |0,_,_,_=>none
 |k+1,g,a,i=>if decide (i>0)=true then ((Zh g (a.length:Int)).bind λb=>(some (decide (b.1<(a.length:Int)))).bind λl=>(if l=true then (idx a b.1).bind λm=>some (decide ((m.Ports.length:Int)>0))else some false).bind λn=>if n=true then (idx a b.1).bind λo=>(Zh b.2 (o.Ports.length:Int)).bind λc=>(idx a b.1).bind λd=>(idx d.Ports c.1).bind λp=>(Zpn c.2 f p).bind λj=>(idx d.Ports c.1).bind λ_=>some (j.2,List.set a (Int.toNat b.1) ({d with Ports:=(List.set d.Ports (Int.toNat c.1) j.1)}:Zo))else some (b.2,a)).bind λ(r,s)=>Zmm f k r s (wrap .i64 (i-1))else some (g,a)
def Zkh (b:Zc) (c:Zb) (d:Yh):Option (Yh×Zc):=(Zcw d).bind λf=>(Zh b 3).bind λa=>(Zmm c fuel a.2 f (wrap .i64 ((1:Int)+a.1))).bind λ(i,j)=>some (j,i)
def Zc8 (c:Zb) (d:Int):Nat→Ya→Int→Option Ya
 |0,_,_=>none
 |f+1,b,a=>if decide (a<(c.Edges.length:Int))=true then ((idx c.Edges a).bind λg=>if(g.Device==d)=true then if b.length+List.length [a]≤lim then some (b++[a])else none else some b).bind λi=>Zc8 c d f i (wrap .i64 (a+1))else some b
def Zc5 (a:Zb) (b:Int):Option Ya:=(Zc8 a b fuel [] 0).bind λc=>some c
def Zmt:Option ZB:=some (Arr5.mk (Za.mk 0 4294967295) (Za.mk 0 4294967295) (Za.mk 0 255) (Za.mk 0 65535) (Za.mk 0 65535))
def Zhp (k:Zc) (f:Zb):Option (Z9×Zc):=(Zmt).bind λb=>(Zmt).bind λc=>(Zh k 2).bind λg=>(idx [(6:Int),(17:Int)] g.1).bind λa=>(if decide ((f.Edges.length:Int)>0)=true then (Zh g.2 (f.Edges.length:Int)).bind λj=>(idx f.Edges j.1).bind λl=>some (j.2,l.Prefix.Addr)else some (g.2,(167772165:Int))).bind λ(n,d)=>(Zh n 3).bind λi=>some (({({({({({({(Z9.mk b c)with From:=({b with x2:=(Za.mk a a)}:ZB)}:Z9)with To:=({c with x2:=(Za.mk a a)}:ZB)}:Z9)with From:=({({b with x2:=(Za.mk a a)}:ZB)with x1:=(Za.mk 3405803781 3405803781)}:ZB)}:Z9)with To:=({({c with x2:=(Za.mk a a)}:ZB)with x1:=(Za.mk d d)}:ZB)}:Z9)with From:=({({({b with x2:=(Za.mk a a)}:ZB)with x1:=(Za.mk 3405803781 3405803781)}:ZB)with x4:=(Za.mk 80 81)}:ZB)}:Z9)with To:=({({({c with x2:=(Za.mk a a)}:ZB)with x1:=(Za.mk d d)}:ZB)with x4:=(Za.mk (wrap .u32 ((wrap .u32 i.1)*80)) (wrap .u32 ((wrap .u32 ((wrap .u32 i.1)*80))+1)))}:ZB)}:Z9),i.2)
def Zjf (a:Zb) (b:Int) (c:Ya):Nat→Zc→Yh→Int→Option (Zc×Yh)
 |0,_,_,_=>none
 |z+1,o,d,f=>if decide (f<(c.length:Int))=true then ((idx c f).bind λp=>(Zdb o a 4).bind λg=>(Zdb g.2 a 4).bind λi=>((Zh i.2 2).bind λj=>if(j.1==0)=true then (Zmt).bind λa0=>some (j.2,({(Zw.mk p g.1 i.1 [] [] [])with Egress:=[Zal.mk a0 true]}:Zw))else some (j.2,Zw.mk p g.1 i.1 [] [] [])).bind λ(a2,q)=>((Zh a2 3).bind λk=>if(k.1==0)=true then (Zcp k.2 a).bind λr=>(Zh r.2 2).bind λs=>(idx [(⟨#[105,112,115]⟩:ByteArray),⟨#[100,108,112]⟩] s.1).bind λa3=>some (s.2,({q with Steers:=[Zak.mk r.1 a3]}:Zw))else some (k.2,q)).bind λ(a5,t)=>((Zh a5 4).bind λl=>if(l.1==0)=true then (Zcp l.2 a).bind λu=>(Zh u.2 3).bind λv=>some (v.2,({t with Hides:=[Zad.mk u.1 3325256705 (Za.mk 1024 (wrap .u32 ((1024:Int)+(wrap .u32 v.1))))]}:Zw))else some (l.2,t)).bind λ(a7,w)=>((Zh a7 4).bind λm=>if(m.1==0)=true then (Zhp m.2 a).bind λx=>some (x.2,({w with Moves:=[x.1]}:Zw))else some (m.2,w)).bind λ(a9,y)=>(idx d b).bind λn=>if n.Ports.length+List.length [y]≤lim then some (a9,List.set d (Int.toNat b) ({n with Ports:=(n.Ports++[y])}:Zo))else none).bind λ(b1,b2)=>Zjf a b c z b1 b2 (wrap .i64 (f+1))else some (o,d)
def Zjg (a:Zb):Nat→Zc→Yh→Int→Option (Zc×Yh)
 |0,_,_,_=>none
 |f+1,c,d,b=>if decide (b<(a.Devices.length:Int))=true then (Zc5 a b).bind λg=>(Zjf a b g fuel c d 0).bind λ(j,k)=>Zjg a f j k (wrap .i64 (b+1))else some (c,d)
def Znf (b:Zc) (a:Zb):Option (Yh×Zc):=if 0≤(a.Devices.length:Int)∧(a.Devices.length:Int)≤(lim:Int)then (Zjg a fuel b (List.replicate (Int.toNat (a.Devices.length:Int)) Zej) 0).bind λ(d,f)=>some (f,d)else none
def Zox (i:Zc) (b:Zb) (j:Zs) (k:Int):Option (Yh×Zc):=((Zh i 2).bind λa=>if(a.1==0)=true then (Zs1 b j k).bind λc=>if(c.2==0)=true then (Zh a.2 3).bind λd=>if(d.1==0)=true then (Zkh d.2 b c.1).bind λf=>some (.inr (f.1,f.2))else some (.inr (c.1,d.2))else some (.inl a.2)else some (.inl a.2)).bind λ(l:(Zc⊕(Yh×Zc)))=>match l with
 |.inl m=>(Znf m b).bind λg=>some (g.1,g.2)
 |.inr n=>some n
def Zfz (a:Yq):Nat→Int→Option Yb
 |0,_=>none
 |c+1,b=>if decide (b<(a.length:Int))=true then (idx a b).bind λd=>(Zbq d.Match).bind λf=>if(!f)=true then some (.inr false)else Zfz a c (wrap .i64 (b+1))else some (.inl ())
def Zgt (a:Yq):Option Bool:=(Zfz a fuel 0).bind λ(b:Yb)=>match b with
 |.inl ()=>some (decide ((a.length:Int)≤4096))
 |.inr c=>some c
def Zff (b:Z9):Nat→Int→Option Yb
 |0,_=>none
 |c+1,a=>if decide (a<5)=true then if 0≤a∧a<5 then if 0≤a∧a<5 then if 0≤a∧a<5 then if 0≤a∧a<5 then if((wrap .u32 ((Arr5.get b.From a).Hi-(Arr5.get b.From a).Lo))!=(wrap .u32 ((Arr5.get b.To a).Hi-(Arr5.get b.To a).Lo)))=true then some (.inr false)else Zff b c (wrap .i64 (a+1))else none else none else none else none else some (.inl ())
def Zhw (a:Z9):Option Bool:=(Zff a fuel 0).bind λ(b:Yb)=>match b with
 |.inl ()=>(Zbq a.From).bind λc=>(some c).bind λd=>(if d=true then (Zbq a.To).bind λf=>some f else some false).bind λg=>some g
 |.inr i=>some i
def Zf0 (a:Yj) (b:Int):Nat→Int→Option Yb
 |0,_=>none
 |d+1,c=>if decide (c<b)=true then (idx a b).bind λf=>(idx a c).bind λg=>(Zc7 f.From g.From).bind λi=>if i.2=true then some (.inr false)else Zf0 a b d (wrap .i64 (c+1))else some (.inl ())
def Zen (a:Yj):Nat→Int→Option Yb
 |0,_=>none
 |c+1,b=>if decide (b<(a.length:Int))=true then (idx a b).bind λd=>(Zhw d).bind λf=>if(!f)=true then some (.inr false)else (Zf0 a b fuel 0).bind λ(g:Yb)=>match g with
  |.inl ()=>Zen a c (wrap .i64 (b+1))
  |.inr i=>some (.inr i)else some (.inl ())
def Zgu (a:Yj):Option Bool:=if decide ((a.length:Int)>64)=true then some false else (Zen a fuel 0).bind λ(b:Yb)=>match b with
 |.inl ()=>some true
 |.inr c=>some c
def Zl8 (a:Zad):Option Bool:=(Zbq a.Match).bind λb=>(some b).bind λc=>(some (c&&(decide (a.Ports.Lo≤a.Ports.Hi)))).bind λd=>some (d&&(decide (a.Ports.Hi≤65535)))
def Zdi (a:Yn):Nat→Int→Option Yb
 |0,_=>none
 |c+1,b=>if decide (b<(a.length:Int))=true then (idx a b).bind λd=>(Zl8 d).bind λf=>if(!f)=true then some (.inr false)else Zdi a c (wrap .i64 (b+1))else some (.inl ())
def Zgv (a:Yn):Option Bool:=(Zdi a fuel 0).bind λ(b:Yb)=>match b with
 |.inl ()=>some (decide ((a.length:Int)≤256))
 |.inr c=>some c
def Zjz (a:Z9):Option Bool:=(some (a.From.x2.Lo !=a.From.x2.Hi)).bind λb=>(if b=true then some true else (some (a.From.x2.Lo !=(6:Int))).bind λc=>some (c&&(a.From.x2.Lo !=(17:Int)))).bind λd=>if d=true then some false else (some (Zbe a.From.x0 a.To.x0)).bind λf=>(some (f&&(Zbe a.From.x2 a.To.x2))).bind λg=>some (g&&(Zbe a.From.x3 a.To.x3))
def Zdc (b:Zb) (c:Za):Nat→Int→Option Yb
 |0,_=>none
 |f+1,a=>if decide (a<(b.Edges.length:Int))=true then (Zbi b a a).bind λd=>(some (decide (d.x0.Lo≤c.Hi))).bind λg=>if(g&&(decide (c.Lo≤d.x0.Hi)))=true then some (.inr false)else Zdc b c f (wrap .i64 (a+1))else some (.inl ())
def Ziq (a:Zb) (b:Za):Option Bool:=(Zdc a b fuel 0).bind λ(c:Yb)=>match c with
 |.inl ()=>some true
 |.inr d=>some d
def Zhq (a:Zw) (b:Int):Nat→Int→Option Yb
 |0,_=>none
 |d+1,c=>if decide (c<b)=true then (idx a.Moves b).bind λf=>(idx a.Moves c).bind λg=>(Zc7 f.To g.To).bind λi=>if i.2=true then some (.inr false)else Zhq a b d (wrap .i64 (c+1))else some (.inl ())
def Zcs (c:Zb) (a:Zw):Nat→Int→Option Yb
 |0,_=>none
 |d+1,b=>if decide (b<(a.Moves.length:Int))=true then (idx a.Moves b).bind λf=>(Zjz f).bind λg=>(some (!g)).bind λi=>(if i=true then some true else (idx a.Moves b).bind λj=>(Ziq c j.From.x1).bind λk=>some (!k)).bind λl=>if l=true then some (.inr false)else (Zhq a b fuel 0).bind λ(m:Yb)=>match m with
  |.inl ()=>Zcs c a d (wrap .i64 (b+1))
  |.inr r88=>some (.inr r88)else some (.inl ())
def Zct (c:Zb) (a:Zw):Nat→Int→Option Yb
 |0,_=>none
 |d+1,b=>if decide (b<(a.Hides.length:Int))=true then (idx a.Hides b).bind λf=>(Zfk c f.Addr).bind λg=>if decide (g≥0)=true then some (.inr false)else Zct c a d (wrap .i64 (b+1))else some (.inl ())
def Zcu (a:Zw):Nat→Int→Option Yb
 |0,_=>none
 |c+1,b=>if decide (b<(a.Steers.length:Int))=true then (idx a.Steers b).bind λd=>(Zbq d.Match).bind λf=>(some (!f)).bind λg=>(if g=true then some true else (idx a.Steers b).bind λi=>(Zac i.Class).bind λj=>some (!j)).bind λk=>if k=true then some (.inr false)else Zcu a c (wrap .i64 (b+1))else some (.inl ())
def Zgw (b:Zb) (a:Zw):Option Bool:=(Zgt a.Ingress).bind λc=>(some (!c)).bind λd=>(if d=true then some true else (Zgt a.Egress).bind λf=>some (!f)).bind λg=>(some g).bind λi=>(if i=true then some true else (Zgu a.Moves).bind λj=>some (!j)).bind λk=>(some k).bind λl=>(if l=true then some true else (Zgv a.Hides).bind λm=>some (!m)).bind λn=>(some n).bind λo=>if(o||(decide ((a.Steers.length:Int)>4096)))=true then some false else (Zcs b a fuel 0).bind λ(p:Yb)=>match p with
 |.inl ()=>(Zct b a fuel 0).bind λ(q:Yb)=>match q with
  |.inl ()=>(Zcu a fuel 0).bind λ(r:Yb)=>match r with
   |.inl ()=>some true
   |.inr s=>some s
  |.inr t=>some t
 |.inr u=>some u
def Zd6 (f:Zb) (b:Yh) (c:Int) (d:Ya):Nat→Int→Option Yb
 |0,_=>none
 |g+1,a=>if decide (a<(d.length:Int))=true then (idx b c).bind λi=>(idx i.Ports a).bind λj=>(idx d a).bind λk=>(some (j.Edge !=k)).bind λl=>(if l=true then some true else (idx b c).bind λm=>(idx m.Ports a).bind λn=>(Zgw f n).bind λo=>some (!o)).bind λp=>if p=true then some (.inr false)else Zd6 f b c d g (wrap .i64 (a+1))else some (.inl ())
def Zfc (c:Zb) (b:Yh):Nat→Int→Option Yb
 |0,_=>none
 |f+1,a=>if decide (a<(b.length:Int))=true then (Zc5 c a).bind λd=>(idx b a).bind λg=>if((g.Ports.length:Int)!=(d.length:Int))=true then some (.inr false)else (Zd6 c b a d fuel 0).bind λ(i:Yb)=>match i with
  |.inl ()=>Zfc c b f (wrap .i64 (a+1))
  |.inr j=>some (.inr j)else some (.inl ())
def Zfr (a:Zb) (b:Yh):Option Bool:=(Zaz a).bind λc=>(some (!c)).bind λd=>if(d||((b.length:Int)!=(a.Devices.length:Int)))=true then some false else (Zfc a b fuel 0).bind λ(f:Yb)=>match f with
 |.inl ()=>some true
 |.inr g=>some g
def Zjh (a:Zn) (b:Zn):Option Bool:=(some (decide (a.Addr<b.Addr))).bind λc=>(if c=true then some true else (some (a.Addr==b.Addr)).bind λd=>some (d&&(decide (a.Bits<b.Bits)))).bind λf=>some f
def Zob (b:Yd) (c:Zg):Nat→Int→Option Int
 |0,_=>none
 |d+1,a=>(some (decide (a<(b.length:Int)))).bind λf=>(if f=true then (idx b a).bind λg=>(Zjh g.Prefix c.Prefix).bind λi=>some i else some false).bind λj=>if j=true then Zob b c d (wrap .i64 (a+1))else some a
def Zrr (a:Yd) (c:Zg):Option Yd:=(Zob a c fuel 0).bind λb=>if 0≤(0:Int)∧(0:Int)≤b∧b≤(a.length:Int)then if List.length ([]:Yd)+List.length (List.drop (Int.toNat (0:Int)) (List.take (Int.toNat b) a))≤lim then if List.length ([]++(List.drop (Int.toNat (0:Int)) (List.take (Int.toNat b) a)))+List.length [c]≤lim then if 0≤b∧b≤(a.length:Int)∧(a.length:Int)≤(a.length:Int)then if List.length (([]++(List.drop (Int.toNat (0:Int)) (List.take (Int.toNat b) a)))++[c])+List.length (List.drop (Int.toNat b) (List.take (Int.toNat (a.length:Int)) a))≤lim then some ((([]++(List.drop (Int.toNat (0:Int)) (List.take (Int.toNat b) a)))++[c])++(List.drop (Int.toNat b) (List.take (Int.toNat (a.length:Int)) a)))else none else none else none else none else none
def Zpo (a:Zag) (b:Int):Option Int:=if(b==a.A)=true then some a.B else if(b==a.B)=true then some a.A else some (-1:Int)
def Zng (b:Zb) (g:Zp) (d:Int) (c:Ya):Nat→Int→Option Yf
 |0,_=>none
 |i+1,a=>if decide (a<(b.Links.length:Int))=true then (idx b.Links a).bind λj=>(Zpo j d).bind λf=>(Zc9 b g a).bind λk=>(some k).bind λl=>(some (l&&(decide (f≥0)))).bind λm=>(if m=true then (idx c f).bind λn=>some (decide (n≥0))else some false).bind λo=>(some o).bind λp=>(if p=true then (idx c f).bind λq=>(idx b.Links a).bind λr=>(idx c d).bind λs=>some ((wrap .i64 (q+r.Cost))==s)else some false).bind λt=>if t=true then some (.inr a)else Zng b g d c i (wrap .i64 (a+1))else some (.inl ())
def Znh (a:Zb) (b:Zp) (c:Int) (d:Int):Option Int:=(Zg5 a b c).bind λf=>(some (!f)).bind λg=>(if g=true then some true else (Zg5 a b d).bind λi=>some (!i)).bind λj=>(some j).bind λk=>if(k||(c==d))=true then some (-1:Int)else (Zdp a b d).bind λl=>(Zng a b c l fuel 0).bind λ(m:Yf)=>match m with
 |.inl ()=>some (-1:Int)
 |.inr n=>some n
def Zki (a:Zb) (g:Zp) (c:Int):Nat→Yd→Int→Option Yd
 |0,_,_=>none
 |i+1,d,f=>if decide (f<(a.Edges.length:Int))=true then ((idx a.Edges f).bind λb=>(Zkd a g c b.Device).bind λj=>if(!j)=true then some d else if(c==b.Device)=true then (Zrr d (Zg.mk b.Prefix true f)).bind λk=>some k else (Znh a g c b.Device).bind λl=>(Zrr d (Zg.mk b.Prefix false l)).bind λm=>some m).bind λn=>Zki a g c i n (wrap .i64 (f+1))else some d
def Zkj (a:Zb) (d:Zp):Nat→(List Yd)→Int→Option (List Yd)
 |0,_,_=>none
 |g+1,b,c=>if decide (c<(a.Devices.length:Int))=true then (Zki a d c fuel [] 0).bind λf=>if b.length+List.length [f]≤lim then Zkj a d g (b++[f]) (wrap .i64 (c+1))else none else some b
def Zoc (a:Zb) (b:Zp):Option (List Yd):=(Zaz a).bind λc=>(some (!c)).bind λd=>(if d=true then some true else (Zbj a b).bind λf=>some (!f)).bind λg=>if g=true then some ([]:(List Yd))else (Zkj a b fuel ([]:(List Yd)) 0).bind λi=>some i
def Zkk (a:Zb) (d:Zp) (f:Int):Nat→Ya→Int→Option Ya
 |0,_,_=>none
 |i+1,b,c=>if decide (c<(a.Devices.length:Int))=true then (Znh a d f c).bind λg=>if b.length+List.length [g]≤lim then Zkk a d f i (b++[g]) (wrap .i64 (c+1))else none else some b
def Zkl (a:Zb) (d:Zp):Nat→(List Ya)→Int→Option (List Ya)
 |0,_,_=>none
 |g+1,b,c=>if decide (c<(a.Devices.length:Int))=true then (Zkk a d c fuel [] 0).bind λf=>if b.length+List.length [f]≤lim then Zkl a d g (b++[f]) (wrap .i64 (c+1))else none else some b
def Zod (a:Zb) (b:Zp):Option (List Ya):=(Zbj a b).bind λc=>if(!c)=true then some ([]:(List Ya))else (Zkl a b fuel ([]:(List Ya)) 0).bind λd=>some d
def Zl9 (a:Zb) (b:Zp) (c:Yh):Option (Z1×Int):=(Zfr a c).bind λd=>(some (!d)).bind λf=>(if f=true then some true else (Zbj a b).bind λg=>some (!g)).bind λi=>if i=true then some ((Z1.mk Zui Z07 [] ([]:(List Yd)) ([]:(List Ya))),(1:Int))else (Zoc a b).bind λj=>(Zod a b).bind λk=>some ((Z1.mk a b c j k),(0:Int))
def Zie (b:Zb) (d:Int):Nat→Ya→Int→Option Ya
 |0,_,_=>none
 |f+1,c,a=>if decide (a<(b.Links.length:Int))=true then ((idx b.Links a).bind λg=>(some (g.A==d)).bind λi=>(if i=true then some true else (idx b.Links a).bind λj=>some (j.B==d)).bind λk=>if k=true then if c.length+List.length [a]≤lim then some (c++[a])else none else some c).bind λl=>Zie b d f l (wrap .i64 (a+1))else some c
def Zma (a:Zb) (b:Int):Option Ya:=(Zie a b fuel [] 0).bind λc=>some c
def Zji (s:Zc) (d:Z1) (i:Int):Option (Z1×Zc):=(Zma d.Topology i).bind λc=>if List.length ([]:(List Yd))+d.Routes.length≤lim then if List.length ([]:(List Ya))+d.Labels.length≤lim then (idx (([]:(List Yd))++d.Routes) i).bind λa=>if List.length ([]:Yd)+a.length≤lim then (idx (([]:(List Ya))++d.Labels) i).bind λf=>if List.length ([]:Ya)+f.length≤lim then (Zh s (List.length ([]++a):Int)).bind λb=>((Zh b.2 5).bind λg=>(some (g.1==0)).bind λt=>if(t&&(decide ((List.length ([]++a):Int)>0)))=true then if 0≤(0:Int)∧(0:Int)≤b.1∧b.1≤(List.length ([]++a):Int)then if List.length ([]:Yd)+List.length (List.drop (Int.toNat (0:Int)) (List.take (Int.toNat b.1) ([]++a)))≤lim then if 0≤(wrap .i64 (b.1+(1:Int)))∧(wrap .i64 (b.1+(1:Int)))≤(List.length ([]++a):Int)∧(List.length ([]++a):Int)≤(List.length ([]++a):Int)then if List.length ([]++(List.drop (Int.toNat (0:Int)) (List.take (Int.toNat b.1) ([]++a))))+List.length (List.drop (Int.toNat (wrap .i64 (b.1+(1:Int)))) (List.take (Int.toNat (List.length ([]++a):Int)) ([]++a)))≤lim then some (g.2,c,[]++a,[]++f,([]++(List.drop (Int.toNat (0:Int)) (List.take (Int.toNat b.1) ([]++a))))++(List.drop (Int.toNat (wrap .i64 (b.1+(1:Int)))) (List.take (Int.toNat (List.length ([]++a):Int)) ([]++a))))else none else none else none else none else (some (decide (g.1≤(2:Int)))).bind λu=>(some (u&&(decide ((List.length ([]++a):Int)>0)))).bind λv=>if(v&&(decide ((c.length:Int)>0)))=true then (Zh g.2 (c.length:Int)).bind λn=>(idx c n.1).bind λo=>(idx ([]++a) b.1).bind λl=>(idx (List.set ([]++a) (Int.toNat b.1) ({l with Edge:=false}:Zg)) b.1).bind λp=>some (n.2,c,List.set (List.set ([]++a) (Int.toNat b.1) ({l with Edge:=false}:Zg)) (Int.toNat b.1) ({p with Port:=o}:Zg),[]++f,List.set (List.set ([]++a) (Int.toNat b.1) ({l with Edge:=false}:Zg)) (Int.toNat b.1) ({p with Port:=o}:Zg))else (some (g.1==3)).bind λw=>(some (w&&(decide ((List.length ([]++a):Int)>0)))).bind λx=>(some (x&&(decide ((c.length:Int)>0)))).bind λy=>(if y=true then (idx ([]++a) b.1).bind λz=>some (decide (z.Prefix.Bits<31))else some false).bind λa0=>if a0=true then (idx ([]++a) b.1).bind λj=>(some (decide ((wrap .i64 (b.1+(1:Int)))<(List.length ([]++a):Int)))).bind λa1=>(if a1=true then (idx ([]++a) (wrap .i64 (b.1+(1:Int)))).bind λa2=>some (Z06 a2.Prefix ({j.Prefix with Bits:=(wrap .i64 (j.Prefix.Bits+1))}:Zn))else some false).bind λa3=>if a3=true then some (g.2,c,[]++a,[]++f,[]++a)else if 0≤(0:Int)∧(0:Int)≤(wrap .i64 (b.1+(1:Int)))∧(wrap .i64 (b.1+(1:Int)))≤(List.length ([]++a):Int)then if List.length ([]:Yd)+List.length (List.drop (Int.toNat (0:Int)) (List.take (Int.toNat (wrap .i64 (b.1+(1:Int)))) ([]++a)))≤lim then (Zh g.2 (c.length:Int)).bind λq=>(idx c q.1).bind λm=>if List.length ([]++(List.drop (Int.toNat (0:Int)) (List.take (Int.toNat (wrap .i64 (b.1+(1:Int)))) ([]++a))))+List.length [Zg.mk ({j.Prefix with Bits:=(wrap .i64 (j.Prefix.Bits+1))}:Zn) false m]≤lim then if 0≤(wrap .i64 (b.1+(1:Int)))∧(wrap .i64 (b.1+(1:Int)))≤(List.length ([]++a):Int)∧(List.length ([]++a):Int)≤(List.length ([]++a):Int)then if List.length (([]++(List.drop (Int.toNat (0:Int)) (List.take (Int.toNat (wrap .i64 (b.1+(1:Int)))) ([]++a))))++[Zg.mk ({j.Prefix with Bits:=(wrap .i64 (j.Prefix.Bits+1))}:Zn) false m])+List.length (List.drop (Int.toNat (wrap .i64 (b.1+(1:Int)))) (List.take (Int.toNat (List.length ([]++a):Int)) ([]++a)))≤lim then some (q.2,c,[]++a,[]++f,(([]++(List.drop (Int.toNat (0:Int)) (List.take (Int.toNat (wrap .i64 (b.1+(1:Int)))) ([]++a))))++[Zg.mk ({j.Prefix with Bits:=(wrap .i64 (j.Prefix.Bits+1))}:Zn) false m])++(List.drop (Int.toNat (wrap .i64 (b.1+(1:Int)))) (List.take (Int.toNat (List.length ([]++a):Int)) ([]++a))))else none else none else none else none else none else (some (decide ((List.length ([]++f):Int)>1))).bind λa4=>if(a4&&(decide ((c.length:Int)>0)))=true then (Zh g.2 (List.length ([]++f):Int)).bind λk=>if(k.1 !=i)=true then if c.length+List.length [(-1:Int)]≤lim then (Zh k.2 (wrap .i64 ((c.length:Int)+1))).bind λr=>(idx (c++[(-1:Int)]) r.1).bind λa5=>(idx ([]++f) k.1).bind λ_=>some (r.2,c++[(-1:Int)],[]++a,List.set ([]++f) (Int.toNat k.1) a5,[]++a)else none else some (k.2,c,[]++a,[]++f,[]++a)else some (g.2,c,[]++a,[]++f,[]++a)).bind λ(a7,_,_,a8,a9)=>(idx (([]:(List Yd))++d.Routes) i).bind λ_=>(idx (([]:(List Ya))++d.Labels) i).bind λ_=>some ((Z1.mk d.Topology d.Failure d.Configs (List.set (([]:(List Yd))++d.Routes) (Int.toNat i) a9) (List.set (([]:(List Ya))++d.Labels) (Int.toNat i) a8)),a7)else none else none else none else none
def Zgx (d:Bool) (c:(Zb×Zs×Int×Zc)):Nat→Zc→Z1→Int→Option (Zc×Z1)
 |0,_,_,_=>none
 |j+1,f,a,g=>(some d).bind λk=>if(k&&(decide (g>0)))=true then ((Zh f (c.1.Devices.length:Int)).bind λb=>(Za2 c.1 a.Failure b.1).bind λl=>if l=true then (Zji b.2 a b.1).bind λi=>some (i.2,i.1)else some (b.2,a)).bind λ(n,o)=>Zgx d c j n o (wrap .i64 (g-1))else some (f,a)
def Zoy (f:Zc) (g:Int) (i:Int) (j:Bool):Option (Z1×Zc):=(Zr5 f g i).bind λa=>(Zos a.2.2.2 a.1).bind λb=>(Zox b.2 a.1 a.2.1 a.2.2.1).bind λc=>(Zl9 a.1 b.1 c.1).bind λk=>(Zh c.2 3).bind λd=>(Zgx j a fuel d.2 k.1 d.1).bind λ(m,n)=>some (n,m)
def Zjj (a:ByteArray):Nat→Int→Option Yb
 |0,_=>none
 |c+1,b=>if decide (b<(ByteArray.size a:Int))=true then (sidx a b).bind λd=>(some (decide (d≥97))).bind λf=>(if f=true then (sidx a b).bind λg=>some (decide (g≤122))else some false).bind λi=>(sidx a b).bind λj=>(some (decide (j≥48))).bind λk=>(if k=true then (sidx a b).bind λl=>some (decide (l≤57))else some false).bind λm=>(some (!i)).bind λn=>(some (n&&(!m))).bind λo=>(if o=true then (sidx a b).bind λp=>some (p !=(45:Int))else some false).bind λq=>(some q).bind λr=>(if r=true then (sidx a b).bind λs=>some (s !=(95:Int))else some false).bind λt=>if t=true then some (.inr false)else Zjj a c (wrap .i64 (b+1))else some (.inl ())
def Zb5 (a:ByteArray):Option Bool:=(some (a.toList==ByteArray.empty.toList)).bind λb=>(some (b||(decide ((ByteArray.size a:Int)>24)))).bind λc=>(some (c||(a.toList==(⟨#[97,110,121]⟩:ByteArray).toList))).bind λd=>(if d=true then some true else (sidx a (0:Int)).bind λf=>some (decide (f<97))).bind λg=>(some g).bind λi=>(if i=true then some true else (sidx a (0:Int)).bind λj=>some (decide (j>122))).bind λk=>if k=true then some false else (Zjj a fuel 0).bind λ(l:Yb)=>match l with
 |.inl ()=>some true
 |.inr m=>some m
def Zif (a:Z5):Option Bool:=(Zb5 a.Name).bind λb=>(some b).bind λc=>(some (c&&(decide (a.Capacity≥0)))).bind λd=>(some (d&&(decide (a.Capacity≤4096)))).bind λf=>(if f=true then (some (a.Class.toList==ByteArray.empty.toList)).bind λg=>(if g=true then some true else (Zb5 a.Class).bind λi=>some i).bind λj=>some j else some false).bind λk=>some k
def Zuf (a:Z5) (b:ByteArray):Option Bool:=some (a.Name.toList==b.toList)
def Za5 (b:Ys) (c:ByteArray):Nat→Int→Option Yf
 |0,_=>none
 |d+1,a=>if decide (a<(b.length:Int))=true then (idx b a).bind λf=>(Zuf f c).bind λg=>if g=true then some (.inr a)else Za5 b c d (wrap .i64 (a+1))else some (.inl ())
def Zdv (a:Ys) (b:ByteArray):Option Int:=(Za5 a b fuel 0).bind λ(c:Yf)=>match c with
 |.inl ()=>some (-1:Int)
 |.inr d=>some d
def Zsa (a:Zb) (b:ByteArray):Option Int:=(Zdv a.Devices b).bind λc=>some c
def Zmu (a:Int):Option Int:=if 0≤(wrap .u64 (wrap .i64 ((32:Int)-a)))then some (bShl .u32 (4294967295:Int) (wrap .u64 (wrap .i64 ((32:Int)-a))))else none
def Zew (a:Zn):Option Bool:=(some (decide (a.Bits≥0))).bind λb=>(some (b&&(decide (a.Bits≤32)))).bind λc=>(if c=true then (Zmu a.Bits).bind λd=>some ((bAndNot .u32 a.Addr d)==0)else some false).bind λf=>some f
def Zkm (b:Zb) (a:Z2):Option Bool:=(some (decide (a.Device≥0))).bind λc=>(Zb5 a.Name).bind λd=>(some d).bind λf=>(if f=true then (Zb5 a.Zone).bind λg=>some g else some false).bind λi=>(some (c&&(decide (a.Device<(b.Devices.length:Int))))).bind λj=>(some (j&&i)).bind λk=>(if k=true then (Zew a.Prefix).bind λl=>some l else some false).bind λm=>(some m).bind λn=>(some (n&&(decide (a.Prefix.Bits>0)))).bind λo=>(if o=true then (some (!a.Planned)).bind λp=>some (p||(a.Prefix.Addr==0))else some false).bind λq=>some q
def Zvp (a:Z2) (b:ByteArray):Option Bool:=some (a.Name.toList==b.toList)
def Zbh (b:Yk) (c:ByteArray):Nat→Int→Option Yf
 |0,_=>none
 |d+1,a=>if decide (a<(b.length:Int))=true then (idx b a).bind λf=>(Zvp f c).bind λg=>if g=true then some (.inr a)else Zbh b c d (wrap .i64 (a+1))else some (.inl ())
def Zey (a:Yk) (b:ByteArray):Option Int:=(Zbh a b fuel 0).bind λ(c:Yf)=>match c with
 |.inl ()=>some (-1:Int)
 |.inr d=>some d
def Ztv (a:Zb) (b:ByteArray):Option Int:=(Zey a.Edges b).bind λc=>some c
def Ze1 (a:Zn) (b:Int):Option Bool:=(Zew a).bind λc=>(some c).bind λd=>(if d=true then (Zmu a.Bits).bind λf=>some ((bAnd .u32 b f)==a.Addr)else some false).bind λg=>some g
def Zni (b:Zn) (a:Zn):Option Bool:=(Zew a).bind λc=>(some c).bind λd=>(some (d&&(decide (b.Bits≤a.Bits)))).bind λf=>(if f=true then (Ze1 b a.Addr).bind λg=>some g else some false).bind λi=>some i
def Zir (a:Zn) (b:Zn):Option Bool:=(Zni a b).bind λc=>(some c).bind λd=>(if d=true then some true else (Zni b a).bind λf=>some f).bind λg=>some g
def Zrd (a:Zn) (b:Zn):Option Bool:=(Zir b a).bind λc=>some c
def Za8 (b:Yl) (c:Zn):Nat→Int→Option Yf
 |0,_=>none
 |d+1,a=>if decide (a<(b.length:Int))=true then (idx b a).bind λf=>(Zrd f c).bind λg=>if g=true then some (.inr a)else Za8 b c d (wrap .i64 (a+1))else some (.inl ())
def Zd1 (a:Yl) (b:Zn):Option Int:=(Za8 a b fuel 0).bind λ(c:Yf)=>match c with
 |.inl ()=>some (-1:Int)
 |.inr d=>some d
def Zb6 (a:Yl) (b:Zn):Option Bool:=(Zd1 a b).bind λc=>some (decide (c≥0))
def Zhx (a:Zb):Nat→Int→Option Yb
 |0,_=>none
 |d+1,b=>if decide (b<(a.Devices.length:Int))=true then (idx a.Devices b).bind λc=>(Zif c).bind λf=>(some (!f)).bind λg=>(if g=true then some true else (Zsa a c.Name).bind λi=>some (i !=b)).bind λj=>if j=true then some (.inr false)else Zhx a d (wrap .i64 (b+1))else some (.inl ())
def Zhy (b:Zb):Nat→Int→Option Yb
 |0,_=>none
 |d+1,c=>if decide (c<(b.Links.length:Int))=true then (idx b.Links c).bind λa=>(some (decide (a.A<0))).bind λf=>(some (f||(decide (a.A≥a.B)))).bind λg=>(some (g||(decide (a.B≥(b.Devices.length:Int))))).bind λi=>(some (i||(decide (a.Cost<1)))).bind λj=>if(j||(decide (a.Cost>1000)))=true then some (.inr false)else Zhy b d (wrap .i64 (c+1))else some (.inl ())
def Zmb (a:Zb) (b:Int) (c:Z2):Nat→Int→Option Yb
 |0,_=>none
 |g+1,d=>if(decide (d<(List.length (List.drop (Int.toNat (0:Int)) (List.take (Int.toNat b) a.Edges)):Int)))=true then (idx (List.drop (Int.toNat (0:Int)) (List.take (Int.toNat b) a.Edges)) d).bind λf=>(some (!c.Planned)).bind λi=>(some (i&&(!f.Planned))).bind λj=>(if j=true then (Zir c.Prefix f.Prefix).bind λk=>some k else some false).bind λl=>if l=true then some (.inr false)else Zmb a b c g (wrap .i64 (d+1))else some (.inl ())
def Zhz (a:Zb):Nat→Int→Option Yb
 |0,_=>none
 |d+1,b=>if decide (b<(a.Edges.length:Int))=true then (idx a.Edges b).bind λc=>(Zkm a c).bind λf=>(some (!f)).bind λg=>(if g=true then some true else (Ztv a c.Name).bind λi=>some (i !=b)).bind λj=>if j=true then some (.inr false)else if 0≤(0:Int)∧(0:Int)≤b∧b≤(a.Edges.length:Int)then (Zmb a b c fuel 0).bind λ(k:Yb)=>match k with
  |.inl ()=>Zhz a d (wrap .i64 (b+1))
  |.inr l=>some (.inr l)else none else some (.inl ())
def Zh0 (b:Zb):Nat→Int→Option Yb
 |0,_=>none
 |d+1,a=>if decide (a<(b.Pools.length:Int))=true then (idx b.Pools a).bind λc=>(Zew c).bind λf=>(some (!f)).bind λg=>(if g=true then some true else if 0≤(0:Int)∧(0:Int)≤a∧a≤(b.Pools.length:Int)then (Zb6 (List.drop (Int.toNat (0:Int)) (List.take (Int.toNat a) b.Pools)) c).bind λi=>some i else none).bind λj=>if j=true then some (.inr false)else Zh0 b d (wrap .i64 (a+1))else some (.inl ())
def Zlc (a:Zb):Option Bool:=(some ((a.Devices.length:Int)==0)).bind λb=>(some (b||(decide ((a.Devices.length:Int)>12)))).bind λc=>(some (c||(decide ((a.Links.length:Int)>24)))).bind λd=>(some (d||(decide ((a.Edges.length:Int)>12)))).bind λf=>(some (f||(decide ((a.Pools.length:Int)>8)))).bind λg=>(some (g||(decide (a.Tolerate<0)))).bind λi=>if(i||(decide (a.Tolerate>2)))=true then some false else (Zhx a fuel 0).bind λ(j:Yb)=>match j with
 |.inl ()=>(Zhy a fuel 0).bind λ(k:Yb)=>match k with
  |.inl ()=>(Zhz a fuel 0).bind λ(l:Yb)=>match l with
   |.inl ()=>(Zh0 a fuel 0).bind λ(m:Yb)=>match m with
    |.inl ()=>some true
    |.inr n=>some n
   |.inr o=>some o
  |.inr p=>some p
 |.inr q=>some q
def Ztl (a:Z2):Option Bool:=some a.Planned
def Zba (b:Yk):Nat→Int→Option Yf
 |0,_=>none
 |c+1,a=>if decide (a<(b.length:Int))=true then (idx b a).bind λd=>(Ztl d).bind λf=>if f=true then some (.inr a)else Zba b c (wrap .i64 (a+1))else some (.inl ())
def Zeb (a:Yk):Option Int:=(Zba a fuel 0).bind λ(b:Yf)=>match b with
 |.inl ()=>some (-1:Int)
 |.inr c=>some c
def Zdt (a:Yk):Option Bool:=(Zeb a).bind λb=>some (decide (b≥0))
def Zmc (a:Zb):Option Bool:=(Zlc a).bind λb=>(some b).bind λc=>(if c=true then (Zdt a.Edges).bind λd=>some (!d)else some false).bind λf=>some f
def Zbx (b:ZB):Nat→Int→Option Yb
 |0,_=>none
 |c+1,a=>if decide (a<5)=true then if 0≤a∧a<5 then (some (decide ((Arr5.get b a).Lo>(Arr5.get b a).Hi))).bind λd=>(if d=true then some true else if 0≤a∧a<5 then some (decide ((Arr5.get b a).Hi>(Arr5.get Zmr a)))else none).bind λf=>if f=true then some (.inr false)else Zbx b c (wrap .i64 (a+1))else none else some (.inl ())
def Zer (a:ZB):Option Bool:=(Zbx a fuel 0).bind λ(b:Yb)=>match b with
 |.inl ()=>some true
 |.inr c=>some c
def Zoe (a:Yq):Nat→Int→Option Yb
 |0,_=>none
 |c+1,b=>if decide (b<(a.length:Int))=true then (idx a b).bind λd=>(Zer d.Match).bind λf=>if(!f)=true then some (.inr false)else Zoe a c (wrap .i64 (b+1))else some (.inl ())
def Zk2 (a:Yq):Option Bool:=(Zoe a fuel 0).bind λ(b:Yb)=>match b with
 |.inl ()=>some (decide ((a.length:Int)≤4096))
 |.inr c=>some c
def Zu3 (a:Zn):Option (Za×Bool):=(Zew a).bind λb=>if(!b)=true then some ((Za.mk 0 0),false)else (Zmu a.Bits).bind λc=>some ((Za.mk a.Addr (bOr .u32 a.Addr (bXor .u32 (4294967295:Int) c))),true)
def Zoz (c:Z2) (a:ZB):Option Bool:=(Zu3 c.Prefix).bind λb=>(some (decide (b.1.Lo≤a.x1.Hi))).bind λd=>some (d&&(decide (a.x1.Lo≤b.1.Hi)))
def Za9 (b:Yk) (c:ZB):Nat→Int→Option Yf
 |0,_=>none
 |d+1,a=>if decide (a<(b.length:Int))=true then (idx b a).bind λf=>(Zoz f c).bind λg=>if g=true then some (.inr a)else Za9 b c d (wrap .i64 (a+1))else some (.inl ())
def Zd2 (a:Yk) (b:ZB):Option Int:=(Za9 a b fuel 0).bind λ(c:Yf)=>match c with
 |.inl ()=>some (-1:Int)
 |.inr d=>some d
def Zb7 (a:Yk) (b:ZB):Option Bool:=(Zd2 a b).bind λc=>some (decide (c≥0))
def Zmd (b:Zb) (a:Z9):Option Bool:=(some (a.From.x2.Lo !=a.From.x2.Hi)).bind λc=>(if c=true then some true else (some (a.From.x2.Lo !=(6:Int))).bind λd=>some (d&&(a.From.x2.Lo !=(17:Int)))).bind λf=>if f=true then some false else (some (!(Zbe a.From.x0 a.To.x0))).bind λg=>(some (g||(!(Zbe a.From.x2 a.To.x2)))).bind λi=>if(i||(!(Zbe a.From.x3 a.To.x3)))=true then some false else (Zb7 b.Edges a.From).bind λj=>some (!j)
def Zf1 (b:ZB) (c:ZB):Nat→ZB→Int→Option ZB
 |0,_,_=>none
 |f+1,d,a=>if decide (a<5)=true then if 0≤a∧a<5 then if 0≤a∧a<5 then if 0≤a∧a<5 then if 0≤a∧a<5 then if 0≤a∧a<5 then Zf1 b c f (Arr5.set d a (Za.mk (iMax ((Arr5.get b a).Lo) ((Arr5.get c a).Lo)) (iMin ((Arr5.get b a).Hi) ((Arr5.get c a).Hi)))) (wrap .i64 (a+1))else none else none else none else none else none else some d
def Znj (a:ZB) (b:ZB):Option (ZB×Bool):=(Zer a).bind λd=>(some (!d)).bind λf=>(if f=true then some true else (Zer b).bind λg=>some (!g)).bind λi=>if i=true then some ((Arr5.mk Zao Zao Zao Zao Zao),false)else (Zf1 a b fuel Zfu 0).bind λc=>(Zer c).bind λj=>if(!j)=true then some ((Arr5.mk Zao Zao Zao Zao Zao),false)else some (c,true)
def Zfg (b:Z9):Nat→Int→Option Yb
 |0,_=>none
 |c+1,a=>if decide (a<5)=true then if 0≤a∧a<5 then if 0≤a∧a<5 then if 0≤a∧a<5 then if((wrap .u32 ((Arr5.get b.From a).Hi-(Arr5.get b.From a).Lo))!=(wrap .u32 ((Arr5.get b.To a).Hi-(Arr5.get b.To a).Lo)))=true then some (.inr false)else Zfg b c (wrap .i64 (a+1))else none else none else none else some (.inl ())
def Zme (a:Z9):Option Bool:=(Zer a.From).bind λb=>(some (!b)).bind λc=>(if c=true then some true else (Zer a.To).bind λd=>some (!d)).bind λf=>if f=true then some false else (Zfg a fuel 0).bind λ(g:Yb)=>match g with
 |.inl ()=>some true
 |.inr i=>some i
def Zf2 (a:Yj) (b:Int) (d:Z9):Nat→Int→Option Yb
 |0,_=>none
 |f+1,c=>if(decide (c<(List.length (List.drop (Int.toNat (0:Int)) (List.take (Int.toNat b) a)):Int)))=true then (idx (List.drop (Int.toNat (0:Int)) (List.take (Int.toNat b) a)) c).bind λg=>(Znj d.From g.From).bind λi=>if i.2=true then some (.inr false)else Zf2 a b d f (wrap .i64 (c+1))else some (.inl ())
def Zis (b:Yj):Nat→Int→Option Yb
 |0,_=>none
 |d+1,a=>if decide (a<(b.length:Int))=true then (idx b a).bind λc=>(Zme c).bind λf=>if(!f)=true then some (.inr false)else if 0≤(0:Int)∧(0:Int)≤a∧a≤(b.length:Int)then (Zf2 b a c fuel 0).bind λ(g:Yb)=>match g with
  |.inl ()=>Zis b d (wrap .i64 (a+1))
  |.inr i=>some (.inr i)else none else some (.inl ())
def Znk (a:Yj):Option Bool:=if decide ((a.length:Int)>64)=true then some false else (Zis a fuel 0).bind λ(b:Yb)=>match b with
 |.inl ()=>some true
 |.inr c=>some c
def Zhr (a:Yj) (b:Int) (d:Z9):Nat→Int→Option Yb
 |0,_=>none
 |f+1,c=>if(decide (c<(List.length (List.drop (Int.toNat (0:Int)) (List.take (Int.toNat b) a)):Int)))=true then (idx (List.drop (Int.toNat (0:Int)) (List.take (Int.toNat b) a)) c).bind λg=>(Znj d.To g.To).bind λi=>if i.2=true then some (.inr false)else Zhr a b d f (wrap .i64 (c+1))else some (.inl ())
def Zez (c:Zb) (b:Yj):Nat→Int→Option Yb
 |0,_=>none
 |f+1,a=>if decide (a<(b.length:Int))=true then (idx b a).bind λd=>(Zmd c d).bind λg=>if(!g)=true then some (.inr false)else if 0≤(0:Int)∧(0:Int)≤a∧a≤(b.length:Int)then (Zhr b a d fuel 0).bind λ(i:Yb)=>match i with
  |.inl ()=>Zez c b f (wrap .i64 (a+1))
  |.inr j=>some (.inr j)else none else some (.inl ())
def Zpp (b:Zb) (a:Yj):Option Bool:=(Zez b a fuel 0).bind λ(c:Yb)=>match c with
 |.inl ()=>(Znk a).bind λd=>some d
 |.inr f=>some f
def Z2u (a:Int):Option Int:=(some (decide (a<0))).bind λb=>if(b||(decide (a≥5)))=true then some (0:Int)else if 0≤a∧a<5 then some (Arr5.get Zmr a)else none
def Zqc (a:Zad):Option Bool:=(Zer a.Match).bind λb=>(some b).bind λc=>(some (c&&(decide (a.Ports.Lo≤a.Ports.Hi)))).bind λd=>(if d=true then (Z2u 3).bind λf=>some (decide (a.Ports.Hi≤f))else some false).bind λg=>some g
def Zhs (a:Yn):Nat→Int→Option Yb
 |0,_=>none
 |c+1,b=>if decide (b<(a.length:Int))=true then (idx a b).bind λd=>(Zqc d).bind λf=>if(!f)=true then some (.inr false)else Zhs a c (wrap .i64 (b+1))else some (.inl ())
def Zkn (a:Yn):Option Bool:=(Zhs a fuel 0).bind λ(b:Yb)=>match b with
 |.inl ()=>some (decide ((a.length:Int)≤256))
 |.inr c=>some c
def Ztw (a:Z2) (b:Int):Option Bool:=(some (!a.Planned)).bind λc=>(if c=true then (Ze1 a.Prefix b).bind λd=>some d else some false).bind λf=>some f
def Zbk (b:Yk) (c:Int):Nat→Int→Option Yf
 |0,_=>none
 |d+1,a=>if decide (a<(b.length:Int))=true then (idx b a).bind λf=>(Ztw f c).bind λg=>if g=true then some (.inr a)else Zbk b c d (wrap .i64 (a+1))else some (.inl ())
def Zfh (a:Yk) (b:Int):Option Int:=(Zbk a b fuel 0).bind λ(c:Yf)=>match c with
 |.inl ()=>some (-1:Int)
 |.inr d=>some d
def Zvj (a:Zb) (b:Int):Option Int:=(Zfh a.Edges b).bind λc=>some c
def Zo0 (a:Zak):Option Bool:=(Zer a.Match).bind λb=>(some (!b)).bind λc=>(if c=true then some true else (Zb5 a.Class).bind λd=>some (!d)).bind λf=>some f
def Za3 (b:Yi):Nat→Int→Option Yf
 |0,_=>none
 |c+1,a=>if decide (a<(b.length:Int))=true then (idx b a).bind λd=>(Zo0 d).bind λf=>if f=true then some (.inr a)else Za3 b c (wrap .i64 (a+1))else some (.inl ())
def Zdu (a:Yi):Option Int:=(Za3 a fuel 0).bind λ(b:Yf)=>match b with
 |.inl ()=>some (-1:Int)
 |.inr c=>some c
def Zb4 (a:Yi):Option Bool:=(Zdu a).bind λb=>some (decide (b≥0))
def Zfi (c:Zb) (a:Zw):Nat→Int→Option Yb
 |0,_=>none
 |d+1,b=>if decide (b<(a.Hides.length:Int))=true then (idx a.Hides b).bind λf=>(Zvj c f.Addr).bind λg=>if decide (g≥0)=true then some (.inr false)else Zfi c a d (wrap .i64 (b+1))else some (.inl ())
def Zqd (b:Zb) (a:Zw):Option Bool:=(Zk2 a.Ingress).bind λc=>(some (!c)).bind λd=>(if d=true then some true else (Zk2 a.Egress).bind λf=>some (!f)).bind λg=>(some g).bind λi=>(if i=true then some true else (Zpp b a.Moves).bind λj=>some (!j)).bind λk=>(some k).bind λl=>(if l=true then some true else (Zkn a.Hides).bind λm=>some (!m)).bind λn=>(some n).bind λo=>if(o||(decide ((a.Steers.length:Int)>4096)))=true then some false else (Zfi b a fuel 0).bind λ(p:Yb)=>match p with
 |.inl ()=>(Zb4 a.Steers).bind λq=>some (!q)
 |.inr r=>some r
def Zre (a:Z2) (b:Int):Option Bool:=some (a.Device==b)
def Zdr (c:Zb) (d:Int):Nat→Ya→Int→Option Ya
 |0,_,_=>none
 |f+1,b,a=>if decide (a<(c.Edges.length:Int))=true then ((idx c.Edges a).bind λg=>(Zre g d).bind λi=>if i=true then if b.length+List.length [a]≤lim then some (b++[a])else none else some b).bind λj=>Zdr c d f j (wrap .i64 (a+1))else some b
def Zhb (a:Zb) (b:Int):Option Ya:=(Zdr a b fuel [] 0).bind λc=>some c
def Zpq (a:Zb) (b:Int):Option Ya:=(Zhb a b).bind λc=>some c
def Zge (b:Ya) (c:Ya):Nat→Int→Option Yb
 |0,_=>none
 |d+1,a=>if decide (a<(b.length:Int))=true then (idx b a).bind λf=>(idx c a).bind λg=>if(f !=g)=true then some (.inr false)else Zge b c d (wrap .i64 (a+1))else some (.inl ())
def Zig (a:Ya) (b:Ya):Option Bool:=if((a.length:Int)!=(b.length:Int))=true then some false else (Zge a b fuel 0).bind λ(c:Yb)=>match c with
 |.inl ()=>some true
 |.inr d=>some d
def Zeo (f:Zb) (a:Zo):Nat→Ya→Int→Option (Ya⊕Bool)
 |0,_,_=>none
 |g+1,b,c=>if decide (c<(a.Ports.length:Int))=true then (idx a.Ports c).bind λd=>if b.length+List.length [d.Edge]≤lim then (Zqd f d).bind λi=>if(!i)=true then some (.inr false)else Zeo f a g (b++[d.Edge]) (wrap .i64 (c+1))else none else some (.inl b)
def Znl (b:Zb) (c:Yh):Nat→Int→Option Yb
 |0,_=>none
 |d+1,a=>if decide (a<(c.length:Int))=true then (idx c a).bind λf=>(Zeo b f fuel [] 0).bind λ(g:(Ya⊕Bool))=>match g with
  |.inl i=>(Zpq b a).bind λj=>(Zig i j).bind λk=>if(!k)=true then some (.inr false)else Znl b c d (wrap .i64 (a+1))
  |.inr l=>some (.inr l)else some (.inl ())
def Zqr (a:Zb) (b:Yh):Option Bool:=(Zmc a).bind λc=>(some (!c)).bind λd=>if(d||((b.length:Int)!=(a.Devices.length:Int)))=true then some false else (Znl a b fuel 0).bind λ(f:Yb)=>match f with
 |.inl ()=>some true
 |.inr g=>some g
def Zmf (b:Ya) (d:Int):Nat→Int→Option Yb
 |0,_=>none
 |f+1,a=>if decide (a<(b.length:Int))=true then (idx b a).bind λc=>(some (decide (c<0))).bind λg=>(some (g||(decide (c≥d)))).bind λi=>(if i=true then some true else (some (decide (a>0))).bind λj=>(if j=true then (idx b (wrap .i64 (a-1))).bind λk=>some (decide (c≤k))else some false).bind λl=>some l).bind λm=>if m=true then some (.inr false)else Zmf b d f (wrap .i64 (a+1))else some (.inl ())
def Zpr (a:Ya) (b:Int):Option Bool:=(Zmf a b fuel 0).bind λ(c:Yb)=>match c with
 |.inl ()=>some true
 |.inr d=>some d
def Znm (a:Zb) (b:Zp):Option Bool:=(Zlc a).bind λc=>(some c).bind λd=>(if d=true then (Zpr b.Links (a.Links.length:Int)).bind λf=>some f else some false).bind λg=>(some g).bind λi=>(if i=true then (Zpr b.Devices (a.Devices.length:Int)).bind λj=>some j else some false).bind λk=>some k
def Zec (b:Ya) (c:Int):Nat→Int→Option Yf
 |0,_=>none
 |d+1,a=>if decide (a<(b.length:Int))=true then (idx b a).bind λf=>if(c==f)=true then some (.inr a)else Zec b c d (wrap .i64 (a+1))else some (.inl ())
def Zsg (a:Ya) (b:Int):Option Int:=(Zec a b fuel 0).bind λ(c:Yf)=>match c with
 |.inl ()=>some (-1:Int)
 |.inr d=>some d
def Zed (a:Ya) (b:Int):Option Bool:=(Zsg a b).bind λc=>some (decide (c≥0))
def Znn (a:Int):Option Bool:=some (a !=a)
def Zko (a:Int) (b:Int):Option Int:=(Znn a).bind λd=>(Znn b).bind λc=>if d=true then if c=true then some (0:Int)else some (-1:Int)else if c=true then some (1:Int)else if decide (a<b)=true then some (-1:Int)else if decide (a>b)=true then some (1:Int)else some (0:Int)
def Zqs (a:Int):Option Bool:=some (a !=a)
def Zof (a:Int) (b:Int):Option Int:=(Zqs a).bind λd=>(Zqs b).bind λc=>if d=true then if c=true then some (0:Int)else some (-1:Int)else if c=true then some (1:Int)else if decide (a<b)=true then some (-1:Int)else if decide (a>b)=true then some (1:Int)else some (0:Int)
def Ze7 (a:Ya):Nat→Int→Option Yf
 |0,_=>none
 |d+1,b=>if decide (b<(a.length:Int))=true then (idx a b).bind λc=>if(c !=(0:Int))=true then some (.inr c)else Ze7 a d (wrap .i64 (b+1))else some (.inl ())
def Ztx (a:Ya):Option Int:=(Ze7 a fuel 0).bind λ(b:Yf)=>match b with
 |.inl ()=>some (0:Int)
 |.inr c=>some c
def Zog (a:Zn) (b:Zn):Option Int:=(Zko a.Addr b.Addr).bind λc=>(Zof a.Bits b.Bits).bind λd=>(Ztx [c,d]).bind λf=>some f
def Zno (b:Yd):Nat→Int→Option Yb
 |0,_=>none
 |d+1,a=>if decide (a<(b.length:Int))=true then (idx b a).bind λc=>(Zew c.Prefix).bind λf=>(some (!f)).bind λg=>(if g=true then some true else (some (decide (a>0))).bind λi=>(if i=true then (idx b (wrap .i64 (a-1))).bind λj=>(Zog j.Prefix c.Prefix).bind λk=>some (decide (k≥0))else some false).bind λl=>some l).bind λm=>if m=true then some (.inr false)else Zno b d (wrap .i64 (a+1))else some (.inl ())
def Zty (a:Yd):Option Bool:=(Zno a fuel 0).bind λ(b:Yb)=>match b with
 |.inl ()=>some true
 |.inr c=>some c
def Zo1 (b:Zb) (c:Int) (a:Int):Option Bool:=(some (decide (a≥0))).bind λd=>(some (d&&(decide (a<(b.Links.length:Int))))).bind λf=>(if f=true then (idx b.Links a).bind λg=>(some (g.A==c)).bind λi=>(if i=true then some true else (idx b.Links a).bind λj=>some (j.B==c)).bind λk=>some k else some false).bind λl=>some l
def Zgy (b:Z1) (c:Int) (d:Yd):Nat→Int→Option Yb
 |0,_=>none
 |g+1,f=>if decide (f<(d.length:Int))=true then (idx d f).bind λa=>(some (decide (a.Port≥0))).bind λi=>(some (i&&(decide (a.Port<(b.Topology.Edges.length:Int))))).bind λj=>(if j=true then (idx b.Topology.Edges a.Port).bind λk=>some (k.Device==c)else some false).bind λl=>(some a.Edge).bind λm=>(some (m&&(!l))).bind λn=>(if n=true then some true else (some (!a.Edge)).bind λo=>(if o=true then (Zo1 b.Topology c a.Port).bind λp=>some (!p)else some false).bind λq=>some q).bind λr=>if r=true then some (.inr false)else Zgy b c d g (wrap .i64 (f+1))else some (.inl ())
def Zgz (d:Z1) (b:Int) (c:Ya) (f:Bool):Nat→Int→Option Yb
 |0,_=>none
 |i+1,a=>if decide (a<(c.length:Int))=true then (idx c a).bind λg=>(some (g !=(-1:Int))).bind λj=>(if j=true then (some f).bind λk=>(some (k||(a==b))).bind λl=>(if l=true then some true else (Zo1 d.Topology b g).bind λm=>some (!m)).bind λn=>some n else some false).bind λo=>if o=true then some (.inr false)else Zgz d b c f i (wrap .i64 (a+1))else some (.inl ())
def Zjk (a:Z1) (b:Int):Option Bool:=(idx a.Routes b).bind λc=>(idx a.Labels b).bind λd=>(Zed a.Failure.Devices b).bind λf=>(Zty c).bind λg=>(some (!g)).bind λi=>(some (i||(decide ((c.length:Int)>256)))).bind λj=>(some (j||((d.length:Int)!=(a.Topology.Devices.length:Int)))).bind λk=>(if k=true then some true else (some f).bind λl=>some (l&&(decide ((c.length:Int)>0)))).bind λm=>if m=true then some false else (Zgy a b c fuel 0).bind λ(n:Yb)=>match n with
 |.inl ()=>(Zgz a b d f fuel 0).bind λ(o:Yb)=>match o with
  |.inl ()=>some true
  |.inr p=>some p
 |.inr q=>some q
def Zgf (a:Z1):Nat→Int→Option Yb
 |0,_=>none
 |c+1,b=>if decide (b<(a.Topology.Devices.length:Int))=true then (Zjk a b).bind λd=>if(!d)=true then some (.inr false)else Zgf a c (wrap .i64 (b+1))else some (.inl ())
def Znw (a:Z1):Option Bool:=(Zqr a.Topology a.Configs).bind λb=>(some (!b)).bind λc=>(if c=true then some true else (Znm a.Topology a.Failure).bind λd=>some (!d)).bind λf=>(some f).bind λg=>(some (g||((a.Routes.length:Int)!=(a.Topology.Devices.length:Int)))).bind λi=>if(i||((a.Labels.length:Int)!=(a.Topology.Devices.length:Int)))=true then some false else (Zgf a fuel 0).bind λ(j:Yb)=>match j with
 |.inl ()=>some true
 |.inr k=>some k
def Zf3 (a:Zw):Nat→Int→Option Yb
 |0,_=>none
 |d+1,b=>if decide (b<(a.Steers.length:Int))=true then (idx a.Steers b).bind λc=>(Zer c.Match).bind λf=>(some (!f)).bind λg=>(if g=true then some true else (Zb5 c.Class).bind λi=>some (!i)).bind λj=>if j=true then some (.inr false)else Zf3 a d (wrap .i64 (b+1))else some (.inl ())
def Znp (a:Zw):Option Bool:=(Zk2 a.Ingress).bind λb=>(some (!b)).bind λc=>(if c=true then some true else (Zk2 a.Egress).bind λd=>some (!d)).bind λf=>(some f).bind λg=>(if g=true then some true else (Znk a.Moves).bind λi=>some (!i)).bind λj=>(some j).bind λk=>(if k=true then some true else (Zkn a.Hides).bind λl=>some (!l)).bind λm=>(some m).bind λn=>if(n||(decide ((a.Steers.length:Int)>4096)))=true then some false else (Zf3 a fuel 0).bind λ(o:Yb)=>match o with
 |.inl ()=>some true
 |.inr p=>some p
def Ze2 (b:Zo):Nat→Int→Int→Option Yb
 |0,_,_=>none
 |d+1,f,c=>if decide (c<(b.Ports.length:Int))=true then (idx b.Ports c).bind λa=>(some (decide (a.Edge≤f))).bind λg=>(some (g||(decide (a.Edge≥12)))).bind λi=>(if i=true then some true else (Znp a).bind λj=>some (!j)).bind λk=>if k=true then some (.inr false)else Ze2 b d a.Edge (wrap .i64 (c+1))else some (.inl ())
def Zrs (a:Zo):Option Bool:=(Ze2 a fuel (-1:Int) 0).bind λ(b:Yb)=>match b with
 |.inl ()=>some true
 |.inr c=>some c
def Zj0 (a:Zw):Nat→Int→Option Yb
 |0,_=>none
 |c+1,b=>if decide (b<(a.Hides.length:Int))=true then (idx a.Hides b).bind λd=>if(Zbe d.Ports (Za.mk 8 8))=true then some (.inr false)else Zj0 a c (wrap .i64 (b+1))else some (.inl ())
def Zoh (a:Zo):Nat→Int→Option Yb
 |0,_=>none
 |c+1,b=>if decide (b<(a.Ports.length:Int))=true then (idx a.Ports b).bind λd=>(Zj0 d fuel 0).bind λ(f:Yb)=>match f with
  |.inl ()=>Zoh a c (wrap .i64 (b+1))
  |.inr g=>some (.inr g)else some (.inl ())
def Zoi (a:Z1):Nat→Int→Option Yb
 |0,_=>none
 |d+1,b=>if decide (b<(a.Configs.length:Int))=true then (idx a.Configs b).bind λc=>(Zrs c).bind λf=>if(!f)=true then some (.inr false)else (Zoh c fuel 0).bind λ(g:Yb)=>match g with
  |.inl ()=>Zoi a d (wrap .i64 (b+1))
  |.inr i=>some (.inr i)else some (.inl ())
def Zrt (a:Z1):Option Bool:=(Znw a).bind λb=>if(!b)=true then some false else (Zoi a fuel 0).bind λ(c:Yb)=>match c with
 |.inl ()=>some true
 |.inr d=>some d
def Zjl (a:Zp) (b:Int):Option Bool:=(Zed a.Devices b).bind λc=>some (!c)
def Zqt (b:Zb) (c:Zp) (a:Int):Option Bool:=(Znm b c).bind λd=>(some d).bind λf=>(some (f&&(decide (a≥0)))).bind λg=>(some (g&&(decide (a<(b.Devices.length:Int))))).bind λi=>(if i=true then (Zjl c a).bind λj=>some j else some false).bind λk=>some k
def Zmg (a:Yd) (g:Int):Nat→Zg→Bool→Int→Option (Zg×Bool)
 |0,_,_,_=>none
 |i+1,b,c,d=>if decide (d<(a.length:Int))=true then ((idx a d).bind λf=>(Ze1 f.Prefix g).bind λj=>(some j).bind λk=>(if k=true then (some (!c)).bind λl=>some (l||(decide (f.Prefix.Bits>b.Prefix.Bits)))else some false).bind λm=>if m=true then some (f,true)else some (b,c)).bind λ(o,p)=>Zmg a g i o p (wrap .i64 (d+1))else some (b,c)
def Zps (a:Yd) (b:Int):Option (Zg×Bool):=(Zmg a b fuel Zu1 false 0).bind λ(d,f)=>some (d,f)
def Zs2 (d:Zb) (a:Zp) (b:Int):Option Bool:=(idx d.Links b).bind λc=>(Zed a.Links b).bind λf=>(some (!f)).bind λg=>(if g=true then (Zjl a c.A).bind λi=>some i else some false).bind λj=>(some j).bind λk=>(if k=true then (Zjl a c.B).bind λl=>some l else some false).bind λm=>some m
def Zpt (a:Zb) (c:Zp) (b:Int):Option Bool:=(Znm a c).bind λd=>(some d).bind λf=>(some (f&&(decide (b≥0)))).bind λg=>(some (g&&(decide (b<(a.Links.length:Int))))).bind λi=>(if i=true then (Zs2 a c b).bind λj=>some j else some false).bind λk=>some k
def Ztz (a:Z1) (d:Int) (b:Int):Option (Int×Bool):=(some (decide (b<0))).bind λf=>(if f=true then some true else (Zpt a.Topology a.Failure b).bind λg=>some (!g)).bind λi=>if i=true then some ((0:Int),false)else (idx a.Topology.Links b).bind λc=>some ((wrap .i64 ((wrap .i64 (c.A+c.B))-d)),true)
def Zg6 (c:Z1) (i:Int) (k:Bool):Nat→Ya→(List (Zbp×Bool))→Int→Int→Option (Ya×Int)
 |0,_,_,_,_=>none
 |m+1,a,l,b,f=>if((mget Zah l (Zbp.mk b f)).getD false)=true then some (a,(1:Int))else (if(f==b)=true then if k=true then some (.inr (a,(0:Int)))else some (.inl (-1:Int))else some (.inl f)).bind λ(n:(Int⊕(Ya×Int)))=>match n with
  |.inl j=>(if(j !=(-1:Int))=true then (idx c.Labels b).bind λo=>(idx o j).bind λp=>some (.inl p)else (idx c.Routes b).bind λq=>(Zps q i).bind λd=>(some d.2).bind λr=>if(r&&d.1.Edge)=true then (idx c.Topology.Edges d.1.Port).bind λs=>(Ze1 s.Prefix i).bind λt=>if t=true then some (.inr (a,(0:Int)))else some (.inr (a,(3:Int)))else if d.2=true then some (.inl d.1.Port)else some (.inl (-1:Int))).bind λ(u:(Int⊕(Ya×Int)))=>match u with
   |.inl v=>(Ztz c b v).bind λg=>if(!g.2)=true then some (a,(2:Int))else if a.length+List.length [g.1]≤lim then Zg6 c i k m (a++[g.1]) (mput Zah l (Zbp.mk b f) true) g.1 j else none
   |.inr w=>some w
  |.inr x=>some x
def Zru (b:Z1) (a:Int) (c:Int) (d:Int) (f:Bool):Option (Ya×Int):=(Zg6 b d f fuel [a] ([]:(List (Zbp×Bool))) a c).bind λg=>match g with
 |i=>some i
def Zrv (a:Z1) (c:Int) (b:Int) (f:Int):Option (Ya×Int):=(Zrt a).bind λg=>(some (!g)).bind λi=>(if i=true then some true else (Zqt a.Topology a.Failure c).bind λj=>some (!j)).bind λk=>(some k).bind λl=>(some (l||(decide (b<(-1:Int))))).bind λm=>if(m||(decide (b≥(a.Topology.Devices.length:Int))))=true then some (([]:Ya),(2:Int))else (Zru a c b f false).bind λd=>some (d.1,d.2)
def Zmh (b:Yd):Nat→Int→Option Yb
 |0,_=>none
 |c+1,a=>if decide (a<(b.length:Int))=true then (idx b a).bind λd=>(Zcx d.Prefix).bind λf=>(some (!f)).bind λg=>(if g=true then some true else (some (decide (a>0))).bind λi=>(if i=true then (idx b (wrap .i64 (a-1))).bind λj=>(idx b a).bind λk=>(Zjh j.Prefix k.Prefix).bind λl=>some (!l)else some false).bind λm=>some m).bind λn=>if n=true then some (.inr false)else Zmh b c (wrap .i64 (a+1))else some (.inl ())
def Zs3 (a:Yd):Option Bool:=(Zmh a fuel 0).bind λ(b:Yb)=>match b with
 |.inl ()=>some true
 |.inr c=>some c
def Zo2 (b:Zb) (c:Int) (a:Int):Option Bool:=(some (decide (a≥0))).bind λd=>(some (d&&(decide (a<(b.Links.length:Int))))).bind λf=>(if f=true then (idx b.Links a).bind λg=>(Zpo g c).bind λi=>some (decide (i≥0))else some false).bind λj=>some j
def Zfl (a:Z1) (c:Int):Nat→Int→Option Yb
 |0,_=>none
 |f+1,d=>(idx a.Routes c).bind λg=>if decide (d<(g.length:Int))=true then (idx a.Routes c).bind λi=>(idx i d).bind λb=>(some (decide (b.Port≥0))).bind λj=>(some (j&&(decide (b.Port<(a.Topology.Edges.length:Int))))).bind λk=>(if k=true then (idx a.Topology.Edges b.Port).bind λl=>some (l.Device==c)else some false).bind λm=>(some b.Edge).bind λn=>(some (n&&(!m))).bind λo=>(if o=true then some true else (some (!b.Edge)).bind λp=>(if p=true then (Zo2 a.Topology c b.Port).bind λq=>some (!q)else some false).bind λr=>some r).bind λs=>if s=true then some (.inr false)else Zfl a c f (wrap .i64 (d+1))else some (.inl ())
def Zfm (a:Z1) (b:Int) (d:Bool):Nat→Int→Option Yb
 |0,_=>none
 |f+1,c=>if decide (c<(a.Topology.Devices.length:Int))=true then (idx a.Labels b).bind λg=>(idx g c).bind λi=>(some (i !=(-1:Int))).bind λj=>(if j=true then (some (!d)).bind λk=>(some (k||(c==b))).bind λl=>(if l=true then some true else (idx a.Labels b).bind λm=>(idx m c).bind λn=>(Zo2 a.Topology b n).bind λo=>some (!o)).bind λp=>some p else some false).bind λq=>if q=true then some (.inr false)else Zfm a b d f (wrap .i64 (c+1))else some (.inl ())
def Zfn (a:Z1):Nat→Int→Option Yb
 |0,_=>none
 |d+1,b=>if decide (b<(a.Topology.Devices.length:Int))=true then (Za2 a.Topology a.Failure b).bind λc=>(idx a.Routes b).bind λf=>(Zs3 f).bind λg=>(some (!g)).bind λi=>(if i=true then some true else (idx a.Routes b).bind λj=>some (decide ((j.length:Int)>256))).bind λk=>(some k).bind λl=>(if l=true then some true else (some (!c)).bind λm=>(if m=true then (idx a.Routes b).bind λn=>some (decide ((n.length:Int)>0))else some false).bind λo=>some o).bind λp=>(some p).bind λq=>(if q=true then some true else (idx a.Labels b).bind λr=>some ((r.length:Int)!=(a.Topology.Devices.length:Int))).bind λs=>if s=true then some (.inr false)else (Zfl a b fuel 0).bind λ(t:Yb)=>match t with
  |.inl ()=>(Zfm a b c fuel 0).bind λ(u:Yb)=>match u with
   |.inl ()=>Zfn a d (wrap .i64 (b+1))
   |.inr v=>some (.inr v)
  |.inr w=>some (.inr w)else some (.inl ())
def Zmn (a:Z1):Option Bool:=(Zfr a.Topology a.Configs).bind λb=>(some (!b)).bind λc=>(if c=true then some true else (Zbj a.Topology a.Failure).bind λd=>some (!d)).bind λf=>(some f).bind λg=>(some (g||((a.Routes.length:Int)!=(a.Topology.Devices.length:Int)))).bind λi=>if(i||((a.Labels.length:Int)!=(a.Topology.Devices.length:Int)))=true then some false else (Zfn a fuel 0).bind λ(j:Yb)=>match j with
 |.inl ()=>some true
 |.inr k=>some k
def Zh1 (a:Zw):Nat→Int→Option Yb
 |0,_=>none
 |c+1,b=>if decide (b<(a.Steers.length:Int))=true then (idx a.Steers b).bind λd=>(Zbq d.Match).bind λf=>(some (!f)).bind λg=>(if g=true then some true else (idx a.Steers b).bind λi=>(Zac i.Class).bind λj=>some (!j)).bind λk=>if k=true then some (.inr false)else Zh1 a c (wrap .i64 (b+1))else some (.inl ())
def Zh2 (c:Zo):Nat→Int→Option Yb
 |0,_=>none
 |d+1,b=>if decide (b<(c.Ports.length:Int))=true then (idx c.Ports b).bind λa=>(some (decide (a.Edge<0))).bind λf=>(some (f||(decide (a.Edge≥12)))).bind λg=>(if g=true then some true else (some (decide (b>0))).bind λi=>(if i=true then (idx c.Ports (wrap .i64 (b-1))).bind λj=>some (decide (j.Edge≥a.Edge))else some false).bind λk=>some k).bind λl=>if l=true then some (.inr false)else (Zgt a.Ingress).bind λm=>(some (!m)).bind λn=>(if n=true then some true else (Zgt a.Egress).bind λo=>some (!o)).bind λp=>(some p).bind λq=>(if q=true then some true else (Zgu a.Moves).bind λr=>some (!r)).bind λs=>(some s).bind λt=>(if t=true then some true else (Zgv a.Hides).bind λu=>some (!u)).bind λv=>(some v).bind λw=>if(w||(decide ((a.Steers.length:Int)>4096)))=true then some (.inr false)else (Zh1 a fuel 0).bind λ(x:Yb)=>match x with
  |.inl ()=>Zh2 c d (wrap .i64 (b+1))
  |.inr y=>some (.inr y)else some (.inl ())
def Zs4 (a:Zo):Option Bool:=(Zh2 a fuel 0).bind λ(b:Yb)=>match b with
 |.inl ()=>some true
 |.inr c=>some c
def Zh3 (a:Zw):Nat→Int→Option Yb
 |0,_=>none
 |c+1,b=>if decide (b<(a.Hides.length:Int))=true then (idx a.Hides b).bind λd=>(some (d.Ports.Lo==8)).bind λf=>(if f=true then (idx a.Hides b).bind λg=>some (g.Ports.Hi==8)else some false).bind λi=>if i=true then some (.inr false)else Zh3 a c (wrap .i64 (b+1))else some (.inl ())
def Zmi (a:Z1) (b:Int):Nat→Int→Option Yb
 |0,_=>none
 |d+1,c=>(idx a.Configs b).bind λf=>if decide (c<(f.Ports.length:Int))=true then (idx a.Configs b).bind λg=>(idx g.Ports c).bind λi=>(Zh3 i fuel 0).bind λ(j:Yb)=>match j with
  |.inl ()=>Zmi a b d (wrap .i64 (c+1))
  |.inr k=>some (.inr k)else some (.inl ())
def Zmj (a:Z1):Nat→Int→Option Yb
 |0,_=>none
 |c+1,b=>if decide (b<(a.Configs.length:Int))=true then (idx a.Configs b).bind λd=>(Zs4 d).bind λf=>if(!f)=true then some (.inr false)else (Zmi a b fuel 0).bind λ(g:Yb)=>match g with
  |.inl ()=>Zmj a c (wrap .i64 (b+1))
  |.inr i=>some (.inr i)else some (.inl ())
def Zpu (a:Z1):Option Bool:=(Zmn a).bind λb=>if(!b)=true then some false else (Zmj a fuel 0).bind λ(c:Yb)=>match c with
 |.inl ()=>some true
 |.inr d=>some d
def Zkp (a:Yd) (d:Int):Nat→Int→Int→Option Int
 |0,_,_=>none
 |f+1,c,b=>if decide (b<(a.length:Int))=true then ((idx a b).bind λg=>(Zb2 g.Prefix d).bind λi=>(some i).bind λj=>(if j=true then (some (decide (c<0))).bind λk=>(if k=true then some true else (idx a b).bind λl=>(idx a c).bind λm=>some (decide (l.Prefix.Bits>m.Prefix.Bits))).bind λn=>some n else some false).bind λo=>if o=true then some b else some c).bind λp=>Zkp a d f p (wrap .i64 (b+1))else some c
def Zoj (a:Yd) (c:Int):Option (Zg×Bool):=(Zkp a c fuel (-1:Int) 0).bind λb=>if decide (b<0)=true then some ((Zg.mk Zck false 0),false)else (idx a b).bind λd=>some (d,true)
def Zds (g:Ya) (a:(List Zb0)) (b:Int) (i:Int) (c:Zag) (d:Zag):Nat→Int→Option (Unit⊕(Ya×Int))
 |0,_=>none
 |j+1,f=>if decide (f<(a.length:Int))=true then (idx a f).bind λk=>if(Zcq k (Zb0.mk (wrap .i64 ((wrap .i64 (c.A+d.B))-b)) i))=true then some (.inr ((g++[wrap .i64 ((wrap .i64 (c.A+d.B))-b)]),(1:Int)))else Zds g a b i c d j (wrap .i64 (f+1))else some (.inl ())
def Zg0 (b:Z1) (k:Int) (m:Bool):Nat→Ya→(List Zb0)→Int→Int→Option (Ya×Int)
 |0,_,_,_,_=>none
 |o+1,c,l,a,n=>(if(n==a)=true then if m=true then some (.inr (c,(0:Int)))else some (.inl (-1:Int))else some (.inl n)).bind λ(p:(Int⊕(Ya×Int)))=>match p with
  |.inl d=>(if(d !=(-1:Int))=true then (idx b.Labels a).bind λq=>(idx q d).bind λr=>some (.inl r)else (idx b.Routes a).bind λs=>(Zoj s k).bind λi=>(some i.2).bind λt=>if(t&&i.1.Edge)=true then (idx b.Topology.Edges i.1.Port).bind λu=>(Zb2 u.Prefix k).bind λv=>if v=true then some (.inr (c,(0:Int)))else some (.inr (c,(3:Int)))else if i.2=true then some (.inl i.1.Port)else some (.inl (-1:Int))).bind λ(w:(Int⊕(Ya×Int)))=>match w with
   |.inl j=>(some (decide (j<0))).bind λx=>(if x=true then some true else (Zc9 b.Topology b.Failure j).bind λy=>some (!y)).bind λz=>if z=true then some (c,(2:Int))else (idx b.Topology.Links j).bind λf=>(idx b.Topology.Links j).bind λg=>if c.length+List.length [wrap .i64 ((wrap .i64 (f.A+g.B))-a)]≤lim then (Zds c l a d f g fuel 0).bind λ(a0:(Unit⊕(Ya×Int)))=>match a0 with
    |.inl ()=>if l.length+List.length [Zb0.mk (wrap .i64 ((wrap .i64 (f.A+g.B))-a)) d]≤lim then Zg0 b k m o (c++[wrap .i64 ((wrap .i64 (f.A+g.B))-a)]) (l++[Zb0.mk (wrap .i64 ((wrap .i64 (f.A+g.B))-a)) d]) (wrap .i64 ((wrap .i64 (f.A+g.B))-a)) d else none
    |.inr a1=>some a1 else none
   |.inr a2=>some a2
  |.inr a3=>some a3
def Zok (c:Z1) (a:Int) (b:Int) (d:Int) (f:Bool):Option (Ya×Int):=(Zg0 c d f fuel [a] [Zb0.mk a b] a b).bind λg=>match g with
 |i=>some i
def Zol (a:Z1) (c:Int) (b:Int) (f:Int):Option (Ya×Int):=(Zpu a).bind λg=>(some (!g)).bind λi=>(if i=true then some true else (Za2 a.Topology a.Failure c).bind λj=>some (!j)).bind λk=>(some k).bind λl=>(some (l||(decide (b<(-1:Int))))).bind λm=>if(m||(decide (b≥(a.Topology.Devices.length:Int))))=true then some (([]:Ya),(2:Int))else (Zok a c b f false).bind λd=>some (d.1,d.2)
def Zjm (b:Ya) (c:Ya):Nat→Int→Option Yf
 |0,_=>none
 |d+1,a=>(some (decide (a<(b.length:Int)))).bind λf=>if(f&&(decide (a<(c.length:Int))))=true then (idx b a).bind λg=>(idx c a).bind λi=>if(g !=i)=true then (idx b a).bind λj=>(idx c a).bind λk=>if decide (j<k)=true then some (.inr (-1:Int))else some (.inr (1:Int))else Zjm b c d (wrap .i64 (a+1))else some (.inl ())
def Znq (a:Ya) (b:Ya):Option Int:=(Zjm a b fuel 0).bind λ(c:Yf)=>match c with
 |.inl ()=>if decide ((a.length:Int)<(b.length:Int))=true then some (-1:Int)else if decide ((a.length:Int)>(b.length:Int))=true then some (1:Int)else some (0:Int)
 |.inr d=>some d
def Zf4 (a:Z1) (b:Int) (c:Int) (d:Int):Option Bool:=(Zrv a b c d).bind λf=>(Zol a b c d).bind λg=>(Znq f.1 g.1).bind λi=>(some (i==0)).bind λj=>some (j&&(f.2==g.2))
def Zld (b:Zc) (c:Zb) (d:Zb) (a:Zb):Option (Ys×Yx×Yk×Yl×Int):=if List.length ([]:Ys)+a.Devices.length≤lim then if List.length ([]:Yx)+a.Links.length≤lim then if List.length ([]:Yk)+a.Edges.length≤lim then if List.length ([]:Yl)+a.Pools.length≤lim then some (([]++a.Devices),[]++a.Links,[]++a.Edges,[]++a.Pools,a.Tolerate)else none else none else none else none
def Zkq (f:Zc) (a:Zn):Option (Zn×Zc):=((Zh f 4).bind λb=>if(b.1==0)=true then (Zh b.2 4).bind λd=>(idx [(-1:Int),(33:Int),(0:Int),(32:Int)] d.1).bind λg=>some (d.2,({a with Bits:=g}:Zn))else if(b.1==1)=true then some (b.2,({a with Addr:=(bOr .u32 a.Addr (1:Int))}:Zn))else if(b.1==2)=true then some (b.2,({a with Bits:=(wrap .i64 (a.Bits+1))}:Zn))else (Zh b.2 32).bind λc=>if 0≤(wrap .u64 c.1)then some (c.2,({a with Addr:=(bXor .u32 a.Addr (bShl .u32 (1:Int) (wrap .u64 c.1)))}:Zn))else none).bind λ(j,k)=>some (k,j)
def Ze8 (j:Zc) (k:Zb):Option (Zb×Zc):=(Zld j k Zui k).bind λa=>(Zh j 14).bind λb=>if(b.1==0)=true then (Zh b.2 4).bind λl=>(idx [(⟨#[114,49]⟩:ByteArray),⟨#[97,110,121]⟩,⟨#[82]⟩,⟨#[122,122]⟩] l.1).bind λm=>(Zh l.2 3).bind λc=>if a.1.length+List.length [Z5.mk m (wrap .i64 (c.1-(1:Int))) false false ByteArray.empty]≤lim then some ((Zb.mk (a.1++[Z5.mk m (wrap .i64 (c.1-(1:Int))) false false ByteArray.empty]) a.2.1 a.2.2.1 a.2.2.2.1 a.2.2.2.2),c.2)else none else if(b.1==1)=true then if decide ((a.1.length:Int)>0)=true then (Zh b.2 4).bind λn=>(idx [(⟨#[97,110,121]⟩:ByteArray),⟨#[105,112,115]⟩,⟨#[90]⟩,⟨#[97,32,98]⟩] n.1).bind λv=>(idx a.1 (0:Int)).bind λw=>some ((Zb.mk (List.set a.1 (Int.toNat (0:Int)) ({w with Class:=v}:Z5)) a.2.1 a.2.2.1 a.2.2.2.1 a.2.2.2.2),n.2)else some ((Zb.mk a.1 a.2.1 a.2.2.1 a.2.2.2.1 a.2.2.2.2),b.2)else if(b.1==2)=true then (Zh b.2 3).bind λd=>(Zh d.2 4).bind λf=>(Zh f.2 3).bind λg=>if a.2.1.length+List.length [Zag.mk (wrap .i64 (d.1-(1:Int))) f.1 g.1]≤lim then some ((Zb.mk a.1 (a.2.1++[Zag.mk (wrap .i64 (d.1-(1:Int))) f.1 g.1]) a.2.2.1 a.2.2.2.1 a.2.2.2.2),g.2)else none else if(b.1==3)=true then if decide ((a.2.1.length:Int)>0)=true then (Zh b.2 4).bind λo=>(idx [(0:Int),(1001:Int),(-1:Int),(7:Int)] o.1).bind λx=>(idx a.2.1 (0:Int)).bind λy=>some ((Zb.mk a.1 (List.set a.2.1 (Int.toNat (0:Int)) ({y with Cost:=x}:Zag)) a.2.2.1 a.2.2.2.1 a.2.2.2.2),o.2)else some ((Zb.mk a.1 a.2.1 a.2.2.1 a.2.2.2.1 a.2.2.2.2),b.2)else if(b.1==4)=true then if decide ((a.2.2.1.length:Int)>0)=true then (Zh b.2 9).bind λp=>(idx a.2.2.1 (0:Int)).bind λz=>some ((Zb.mk a.1 a.2.1 (List.set a.2.2.1 (Int.toNat (0:Int)) ({z with Device:=(wrap .i64 (p.1-(1:Int)))}:Z2)) a.2.2.2.1 a.2.2.2.2),p.2)else some ((Zb.mk a.1 a.2.1 a.2.2.1 a.2.2.2.1 a.2.2.2.2),b.2)else if(b.1==5)=true then if decide ((a.2.2.1.length:Int)>0)=true then (idx a.2.2.1 (wrap .i64 ((a.2.2.1.length:Int)-1))).bind λa0=>(Zkq b.2 a0.Prefix).bind λq=>(idx a.2.2.1 (wrap .i64 ((a.2.2.1.length:Int)-1))).bind λa1=>some ((Zb.mk a.1 a.2.1 (List.set a.2.2.1 (Int.toNat (wrap .i64 ((a.2.2.1.length:Int)-1))) ({a1 with Prefix:=q.1}:Z2)) a.2.2.2.1 a.2.2.2.2),q.2)else some ((Zb.mk a.1 a.2.1 a.2.2.1 a.2.2.2.1 a.2.2.2.2),b.2)else if(b.1==6)=true then if decide ((a.2.2.1.length:Int)>0)=true then (idx a.2.2.1 (0:Int)).bind λa2=>(idx a.2.2.1 (0:Int)).bind λa3=>some ((Zb.mk a.1 a.2.1 (List.set a.2.2.1 (Int.toNat (0:Int)) ({a3 with Planned:=(!a2.Planned)}:Z2)) a.2.2.2.1 a.2.2.2.2),b.2)else some ((Zb.mk a.1 a.2.1 a.2.2.1 a.2.2.2.1 a.2.2.2.2),b.2)else if(b.1==7)=true then if decide ((a.2.2.1.length:Int)>0)=true then (idx a.2.2.1 (0:Int)).bind λr=>if a.2.2.1.length+List.length [r]≤lim then some ((Zb.mk a.1 a.2.1 (a.2.2.1++[r]) a.2.2.2.1 a.2.2.2.2),b.2)else none else some ((Zb.mk a.1 a.2.1 a.2.2.1 a.2.2.2.1 a.2.2.2.2),b.2)else if(b.1==8)=true then if decide ((a.2.2.1.length:Int)>0)=true then (Zh b.2 3).bind λs=>(idx [ByteArray.empty,⟨#[97,110,121]⟩,⟨#[100,109,122]⟩] s.1).bind λa4=>(idx a.2.2.1 (0:Int)).bind λa5=>some ((Zb.mk a.1 a.2.1 (List.set a.2.2.1 (Int.toNat (0:Int)) ({a5 with Zone:=a4}:Z2)) a.2.2.2.1 a.2.2.2.2),s.2)else some ((Zb.mk a.1 a.2.1 a.2.2.1 a.2.2.2.1 a.2.2.2.2),b.2)else if(b.1==9)=true then (Zgj b.2).bind λi=>if a.2.2.2.1.length+List.length [i.1]≤lim then some ((Zb.mk a.1 a.2.1 a.2.2.1 (a.2.2.2.1++[i.1]) a.2.2.2.2),i.2)else none else if(b.1==10)=true then (Zh b.2 3).bind λt=>(idx [(3:Int),(-1:Int),(2:Int)] t.1).bind λa6=>some ((Zb.mk a.1 a.2.1 a.2.2.1 a.2.2.2.1 a6),t.2)else if(b.1==11)=true then if decide ((a.1.length:Int)>0)=true then if 0≤(1:Int)∧(1:Int)≤(a.1.length:Int)∧(a.1.length:Int)≤(a.1.length:Int)then some ((Zb.mk (List.drop (Int.toNat (1:Int)) (List.take (Int.toNat (a.1.length:Int)) a.1)) a.2.1 a.2.2.1 a.2.2.2.1 a.2.2.2.2),b.2)else none else some ((Zb.mk a.1 a.2.1 a.2.2.1 a.2.2.2.1 a.2.2.2.2),b.2)else if(b.1==12)=true then if decide ((a.1.length:Int)>0)=true then (Zh b.2 3).bind λu=>(idx [(4097:Int),(-1:Int),(7:Int)] u.1).bind λa7=>(idx a.1 (0:Int)).bind λa8=>some ((Zb.mk (List.set a.1 (Int.toNat (0:Int)) ({a8 with Capacity:=a7}:Z5)) a.2.1 a.2.2.1 a.2.2.2.1 a.2.2.2.2),u.2)else some ((Zb.mk a.1 a.2.1 a.2.2.1 a.2.2.2.1 a.2.2.2.2),b.2)else if decide ((a.2.2.1.length:Int)>0)=true then if 0≤(1:Int)∧(1:Int)≤(a.2.2.1.length:Int)∧(a.2.2.1.length:Int)≤(a.2.2.1.length:Int)then some ((Zb.mk a.1 a.2.1 (List.drop (Int.toNat (1:Int)) (List.take (Int.toNat (a.2.2.1.length:Int)) a.2.2.1)) a.2.2.2.1 a.2.2.2.2),b.2)else none else some ((Zb.mk a.1 a.2.1 a.2.2.1 a.2.2.2.1 a.2.2.2.2),b.2)
def Zfo (f:Zc) (a:Zp):Option (Zp×Zc):=if List.length ([]:Ya)+a.Links.length≤lim then if List.length ([]:Ya)+a.Devices.length≤lim then (Zh f 4).bind λb=>if(b.1==0)=true then (Zh b.2 3).bind λc=>if List.length ([]++a.Links)+List.length [wrap .i64 (c.1-(1:Int))]≤lim then some ((Zp.mk (([]++a.Links)++[wrap .i64 (c.1-(1:Int))]) ([]++a.Devices)),c.2)else none else if(b.1==1)=true then (Zh b.2 9).bind λd=>if List.length ([]++a.Devices)+List.length [wrap .i64 (d.1-(1:Int))]≤lim then some ((Zp.mk ([]++a.Links) (([]++a.Devices)++[wrap .i64 (d.1-(1:Int))])),d.2)else none else if(b.1==2)=true then if List.length [(99:Int)]+List.length ([]++a.Links)≤lim then some ((Zp.mk ([(99:Int)]++([]++a.Links)) ([]++a.Devices)),b.2)else none else if List.length [(0:Int)]+List.length ([]++a.Devices)≤lim then some ((Zp.mk ([]++a.Links) ([(0:Int)]++([]++a.Devices))),b.2)else none else none else none
def Zei (a:Int):Nat→Zc→Zb→Zp→(List Yd)→(List Ya)→Yh→Int→Option (Zc×Zb×Zp×(List Yd)×(List Ya)×Yh)
 |0,_,_,_,_,_,_,_=>none
 |n+1,f,g,i,j,k,b,c=>(idx b a).bind λo=>if decide (c<(o.Ports.length:Int))=true then (idx b a).bind λd=>(Zmt).bind λp=>(Zcy f).bind λl=>(Zh l.2 2).bind λm=>(idx d.Ports c).bind λq=>Zei a n m.2 g i j k (List.set b (Int.toNat a) ({d with Ports:=(List.set d.Ports (Int.toNat c) ({q with Hides:=[Zad.mk p l.1 (Za.mk 8 (wrap .u32 ((8:Int)+(wrap .u32 m.1))))]}:Zw))}:Zo)) (wrap .i64 (c+1))else some (f,g,i,j,k,b)
def Zhc:Nat→Zc→Zb→Zp→(List Yd)→(List Ya)→Yh→Int→Option (Zc×Zb×Zp×(List Yd)×(List Ya)×Yh)
 |0,_,_,_,_,_,_,_=>none
 |j+1,c,d,f,g,i,a,b=>if decide (b<(a.length:Int))=true then (Zei b fuel c d f g i a 0).bind λ(l,m,n,o,p,q)=>Zhc j l m n o p q (wrap .i64 (b+1))else some (c,d,f,g,i,a)
def Zhd:Nat→Zc→Zb→Zp→Yh→(List Ya)→(List Yd)→Int→Option (Zc×Zb×Zp×Yh×(List Ya)×(List Yd))
 |0,_,_,_,_,_,_,_=>none
 |n+1,i,j,k,l,m,a,b=>if decide (b<(a.length:Int))=true then (idx a b).bind λc=>if List.length ([]:Yd)+c.length≤lim then (Zgj i).bind λd=>(Zh d.2 2).bind λf=>(Zh f.2 4).bind λg=>if List.length ([]++c)+List.length [Zg.mk d.1 (f.1==0) (wrap .i64 (g.1-(1:Int)))]≤lim then (idx a b).bind λ_=>Zhd n g.2 j k l m (List.set a (Int.toNat b) (([]++c)++[Zg.mk d.1 (f.1==0) (wrap .i64 (g.1-(1:Int)))])) (wrap .i64 (b+1))else none else none else some (i,j,k,l,m,a)
def Zhe:Nat→Zb→Zp→Yh→(List Yd)→(List Ya)→Int→Option (Zb×Zp×Yh×(List Yd)×(List Ya))
 |0,_,_,_,_,_,_=>none
 |j+1,d,f,g,i,a,b=>if decide (b<(a.length:Int))=true then (idx a b).bind λc=>if List.length ([]:Ya)+c.length≤lim then if List.length ([]++c)+List.length [(-1:Int)]≤lim then (idx a b).bind λ_=>Zhe j d f g i (List.set a (Int.toNat b) (([]++c)++[(-1:Int)])) (wrap .i64 (b+1))else none else none else some (d,f,g,i,a)
def Zjs (g:Zc) (a:Z1):Option (Z1×Zc):=(Zh g 7).bind λb=>if(b.1==0)=true then (Ze8 b.2 a.Topology).bind λc=>some ((Z1.mk c.1 a.Failure a.Configs a.Routes a.Labels),c.2)else if(b.1==1)=true then (Zfo b.2 a.Failure).bind λd=>some ((Z1.mk a.Topology d.1 a.Configs a.Routes a.Labels),d.2)else if(b.1==2)=true then (Zcw a.Configs).bind λf=>if f.length+1≤lim then some ((Z1.mk a.Topology a.Failure (f++[Zo.mk ([]:Yo)]) a.Routes a.Labels),b.2)else none else if(b.1==3)=true then (Zcw a.Configs).bind λi=>(Zhc fuel b.2 a.Topology a.Failure a.Routes a.Labels i 0).bind λ(k,l,m,n,o,p)=>some ((Z1.mk l m p n o),k)else if(b.1==4)=true then if List.length ([]:(List Yd))+a.Routes.length≤lim then (Zhd fuel b.2 a.Topology a.Failure a.Configs a.Labels (([]:(List Yd))++a.Routes) (0:Int)).bind λ(r,s,t,u,v,w)=>some ((Z1.mk s t u w v),r)else none else if(b.1==5)=true then if List.length ([]:(List Ya))+a.Labels.length≤lim then (Zhe fuel a.Topology a.Failure a.Configs a.Routes (([]:(List Ya))++a.Labels) (0:Int)).bind λ(y,z,a0,a1,a2)=>some ((Z1.mk y z a0 a1 a2),b.2)else none else if decide ((a.Labels.length:Int)>0)=true then if 0≤(1:Int)∧(1:Int)≤(a.Labels.length:Int)∧(a.Labels.length:Int)≤(a.Labels.length:Int)then some ((Z1.mk a.Topology a.Failure a.Configs a.Routes (List.drop (Int.toNat (1:Int)) (List.take (Int.toNat (a.Labels.length:Int)) a.Labels))),b.2)else none else some ((Z1.mk a.Topology a.Failure a.Configs a.Routes a.Labels),b.2)
def Zgg (a:(Z1×Zc)):Nat→Zc→Int→Option (Zc⊕Bool)
 |0,_,_=>none
 |i+1,b,c=>if decide (c<4)=true then (Zh b (wrap .i64 ((a.1.Topology.Devices.length:Int)+2))).bind λd=>(Zh d.2 (wrap .i64 ((a.1.Topology.Devices.length:Int)+3))).bind λf=>(Zcy f.2).bind λg=>(Zf4 a.1 (wrap .i64 (d.1-(1:Int))) (wrap .i64 (f.1-(2:Int))) g.1).bind λj=>if(!j)=true then some (.inr false)else Zgg a i g.2 (wrap .i64 (c+1))else some (.inl b)
def Znx (f:Ya) (g:Int) (i:Int) (b:Int):Option Bool:=(Zwf f).bind λj=>(Zoy j 5 1 true).bind λa=>(Zgg a fuel a.2 0).bind λ(k:(Zc⊕Bool))=>match k with
 |.inl c=>(Zf4 a.1 g i b).bind λl=>(some l).bind λm=>(if m=true then (Zjs c a.1).bind λd=>(Zf4 d.1 0 (-1:Int) b).bind λn=>some (n,d.2)else some (false,c)).bind λo=>(some o.1).bind λp=>(if p=true then (Zxp).bind λq=>some q else some false).bind λr=>some r
 |.inr s=>some s
end
end Go.AM

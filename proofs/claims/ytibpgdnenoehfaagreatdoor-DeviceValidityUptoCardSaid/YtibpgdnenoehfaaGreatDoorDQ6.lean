/- Parts of a proof, printed short. No condition. -/
import Derived.Test.YtibpgdnenoehfaaGreatDoorDQ5
set_option maxRecDepth 100000
set_option linter.all false
namespace Go.AM
noncomputable section
open Go
open Go.IntKind(wrap)
def Ze1 (j:Zc) (k:Zb):Option (Zb×Zc):=(Zlf j k Zuk k).bind λa=>(Zg j 14).bind λb=>if(b.1==0)=true then (Zg b.2 4).bind λl=>(idx [(⟨#[114,49]⟩:ByteArray),⟨#[97,110,121]⟩,⟨#[82]⟩,⟨#[122,122]⟩] l.1).bind λm=>(Zg l.2 3).bind λc=>if a.1.length+List.length [Z5.mk m (wrap .i64 (c.1-(1:Int))) false false ByteArray.empty]≤lim then some ((Zb.mk (a.1++[Z5.mk m (wrap .i64 (c.1-(1:Int))) false false ByteArray.empty]) a.2.1 a.2.2.1 a.2.2.2.1 a.2.2.2.2),c.2)else none else if(b.1==1)=true then if decide ((a.1.length:Int)>0)=true then (Zg b.2 4).bind λn=>(idx [(⟨#[97,110,121]⟩:ByteArray),⟨#[105,112,115]⟩,⟨#[90]⟩,⟨#[97,32,98]⟩] n.1).bind λv=>(idx a.1 (0:Int)).bind λw=>some ((Zb.mk (List.set a.1 (Int.toNat (0:Int)) ({w with Class:=v}:Z5)) a.2.1 a.2.2.1 a.2.2.2.1 a.2.2.2.2),n.2)else some ((Zb.mk a.1 a.2.1 a.2.2.1 a.2.2.2.1 a.2.2.2.2),b.2)else if(b.1==2)=true then (Zg b.2 3).bind λd=>(Zg d.2 4).bind λf=>(Zg f.2 3).bind λg=>if a.2.1.length+List.length [Zah.mk (wrap .i64 (d.1-(1:Int))) f.1 g.1]≤lim then some ((Zb.mk a.1 (a.2.1++[Zah.mk (wrap .i64 (d.1-(1:Int))) f.1 g.1]) a.2.2.1 a.2.2.2.1 a.2.2.2.2),g.2)else none else if(b.1==3)=true then if decide ((a.2.1.length:Int)>0)=true then (Zg b.2 4).bind λo=>(idx [(0:Int),(1001:Int),(-1:Int),(7:Int)] o.1).bind λx=>(idx a.2.1 (0:Int)).bind λy=>some ((Zb.mk a.1 (List.set a.2.1 (Int.toNat (0:Int)) ({y with Cost:=x}:Zah)) a.2.2.1 a.2.2.2.1 a.2.2.2.2),o.2)else some ((Zb.mk a.1 a.2.1 a.2.2.1 a.2.2.2.1 a.2.2.2.2),b.2)else if(b.1==4)=true then if decide ((a.2.2.1.length:Int)>0)=true then (Zg b.2 9).bind λp=>(idx a.2.2.1 (0:Int)).bind λz=>some ((Zb.mk a.1 a.2.1 (List.set a.2.2.1 (Int.toNat (0:Int)) ({z with Device:=(wrap .i64 (p.1-(1:Int)))}:Z1)) a.2.2.2.1 a.2.2.2.2),p.2)else some ((Zb.mk a.1 a.2.1 a.2.2.1 a.2.2.2.1 a.2.2.2.2),b.2)else if(b.1==5)=true then if decide ((a.2.2.1.length:Int)>0)=true then (idx a.2.2.1 (wrap .i64 ((a.2.2.1.length:Int)-1))).bind λa0=>(Zko b.2 a0.Prefix).bind λq=>(idx a.2.2.1 (wrap .i64 ((a.2.2.1.length:Int)-1))).bind λa1=>some ((Zb.mk a.1 a.2.1 (List.set a.2.2.1 (Int.toNat (wrap .i64 ((a.2.2.1.length:Int)-1))) ({a1 with Prefix:=q.1}:Z1)) a.2.2.2.1 a.2.2.2.2),q.2)else some ((Zb.mk a.1 a.2.1 a.2.2.1 a.2.2.2.1 a.2.2.2.2),b.2)else if(b.1==6)=true then if decide ((a.2.2.1.length:Int)>0)=true then (idx a.2.2.1 (0:Int)).bind λa2=>(idx a.2.2.1 (0:Int)).bind λa3=>some ((Zb.mk a.1 a.2.1 (List.set a.2.2.1 (Int.toNat (0:Int)) ({a3 with Planned:=(!a2.Planned)}:Z1)) a.2.2.2.1 a.2.2.2.2),b.2)else some ((Zb.mk a.1 a.2.1 a.2.2.1 a.2.2.2.1 a.2.2.2.2),b.2)else if(b.1==7)=true then if decide ((a.2.2.1.length:Int)>0)=true then (idx a.2.2.1 (0:Int)).bind λr=>if a.2.2.1.length+List.length [r]≤lim then some ((Zb.mk a.1 a.2.1 (a.2.2.1++[r]) a.2.2.2.1 a.2.2.2.2),b.2)else none else some ((Zb.mk a.1 a.2.1 a.2.2.1 a.2.2.2.1 a.2.2.2.2),b.2)else if(b.1==8)=true then if decide ((a.2.2.1.length:Int)>0)=true then (Zg b.2 3).bind λs=>(idx [ByteArray.empty,⟨#[97,110,121]⟩,⟨#[100,109,122]⟩] s.1).bind λa4=>(idx a.2.2.1 (0:Int)).bind λa5=>some ((Zb.mk a.1 a.2.1 (List.set a.2.2.1 (Int.toNat (0:Int)) ({a5 with Zone:=a4}:Z1)) a.2.2.2.1 a.2.2.2.2),s.2)else some ((Zb.mk a.1 a.2.1 a.2.2.1 a.2.2.2.1 a.2.2.2.2),b.2)else if(b.1==9)=true then (Zgd b.2).bind λi=>if a.2.2.2.1.length+List.length [i.1]≤lim then some ((Zb.mk a.1 a.2.1 a.2.2.1 (a.2.2.2.1++[i.1]) a.2.2.2.2),i.2)else none else if(b.1==10)=true then (Zg b.2 3).bind λt=>(idx [(3:Int),(-1:Int),(2:Int)] t.1).bind λa6=>some ((Zb.mk a.1 a.2.1 a.2.2.1 a.2.2.2.1 a6),t.2)else if(b.1==11)=true then if decide ((a.1.length:Int)>0)=true then if 0≤(1:Int)∧(1:Int)≤(a.1.length:Int)∧(a.1.length:Int)≤(a.1.length:Int)then some ((Zb.mk (List.drop (Int.toNat (1:Int)) (List.take (Int.toNat (a.1.length:Int)) a.1)) a.2.1 a.2.2.1 a.2.2.2.1 a.2.2.2.2),b.2)else none else some ((Zb.mk a.1 a.2.1 a.2.2.1 a.2.2.2.1 a.2.2.2.2),b.2)else if(b.1==12)=true then if decide ((a.1.length:Int)>0)=true then (Zg b.2 3).bind λu=>(idx [(4097:Int),(-1:Int),(7:Int)] u.1).bind λa7=>(idx a.1 (0:Int)).bind λa8=>some ((Zb.mk (List.set a.1 (Int.toNat (0:Int)) ({a8 with Capacity:=a7}:Z5)) a.2.1 a.2.2.1 a.2.2.2.1 a.2.2.2.2),u.2)else some ((Zb.mk a.1 a.2.1 a.2.2.1 a.2.2.2.1 a.2.2.2.2),b.2)else if decide ((a.2.2.1.length:Int)>0)=true then if 0≤(1:Int)∧(1:Int)≤(a.2.2.1.length:Int)∧(a.2.2.1.length:Int)≤(a.2.2.1.length:Int)then some ((Zb.mk a.1 a.2.1 (List.drop (Int.toNat (1:Int)) (List.take (Int.toNat (a.2.2.1.length:Int)) a.2.2.1)) a.2.2.2.1 a.2.2.2.2),b.2)else none else some ((Zb.mk a.1 a.2.1 a.2.2.1 a.2.2.2.1 a.2.2.2.2),b.2)
def Zfg (f:Zc) (a:Zp):Option (Zp×Zc):=if List.length ([]:Ya)+a.Links.length≤lim then if List.length ([]:Ya)+a.Devices.length≤lim then (Zg f 4).bind λb=>if(b.1==0)=true then (Zg b.2 3).bind λc=>if List.length ([]++a.Links)+List.length [wrap .i64 (c.1-(1:Int))]≤lim then some ((Zp.mk (([]++a.Links)++[wrap .i64 (c.1-(1:Int))]) ([]++a.Devices)),c.2)else none else if(b.1==1)=true then (Zg b.2 9).bind λd=>if List.length ([]++a.Devices)+List.length [wrap .i64 (d.1-(1:Int))]≤lim then some ((Zp.mk ([]++a.Links) (([]++a.Devices)++[wrap .i64 (d.1-(1:Int))])),d.2)else none else if(b.1==2)=true then if List.length [(99:Int)]+List.length ([]++a.Links)≤lim then some ((Zp.mk ([(99:Int)]++([]++a.Links)) ([]++a.Devices)),b.2)else none else if List.length [(0:Int)]+List.length ([]++a.Devices)≤lim then some ((Zp.mk ([]++a.Links) ([(0:Int)]++([]++a.Devices))),b.2)else none else none else none
def Zed (a:Int):Nat→Zc→Zb→Zp→(List Yd)→(List Ya)→Yh→Int→Option (Zc×Zb×Zp×(List Yd)×(List Ya)×Yh)
 |0,_,_,_,_,_,_,_=>none
 |n+1,f,g,i,j,k,b,c=>(idx b a).bind λo=>if decide (c<(o.Ports.length:Int))=true then (idx b a).bind λd=>(Zm0).bind λp=>(Zc7 f).bind λl=>(Zg l.2 2).bind λm=>(idx d.Ports c).bind λq=>Zed a n m.2 g i j k (List.set b (Int.toNat a) ({d with Ports:=(List.set d.Ports (Int.toNat c) ({q with Hides:=[Zab.mk p l.1 (Za.mk 8 (wrap .u32 ((8:Int)+(wrap .u32 m.1))))]}:Zw))}:Zo)) (wrap .i64 (c+1))else some (f,g,i,j,k,b)
def Zg5:Nat→Zc→Zb→Zp→(List Yd)→(List Ya)→Yh→Int→Option (Zc×Zb×Zp×(List Yd)×(List Ya)×Yh)
 |0,_,_,_,_,_,_,_=>none
 |j+1,c,d,f,g,i,a,b=>if decide (b<(a.length:Int))=true then (Zed b fuel c d f g i a 0).bind λ(l,m,n,o,p,q)=>Zg5 j l m n o p q (wrap .i64 (b+1))else some (c,d,f,g,i,a)
def Zg6:Nat→Zc→Zb→Zp→Yh→(List Ya)→(List Yd)→Int→Option (Zc×Zb×Zp×Yh×(List Ya)×(List Yd))
 |0,_,_,_,_,_,_,_=>none
 |n+1,i,j,k,l,m,a,b=>if decide (b<(a.length:Int))=true then (idx a b).bind λc=>if List.length ([]:Yd)+c.length≤lim then (Zgd i).bind λd=>(Zg d.2 2).bind λf=>(Zg f.2 4).bind λg=>if List.length ([]++c)+List.length [Zi.mk d.1 (f.1==0) (wrap .i64 (g.1-(1:Int)))]≤lim then (idx a b).bind λ_=>Zg6 n g.2 j k l m (List.set a (Int.toNat b) (([]++c)++[Zi.mk d.1 (f.1==0) (wrap .i64 (g.1-(1:Int)))])) (wrap .i64 (b+1))else none else none else some (i,j,k,l,m,a)
def Zg7:Nat→Zb→Zp→Yh→(List Yd)→(List Ya)→Int→Option (Zb×Zp×Yh×(List Yd)×(List Ya))
 |0,_,_,_,_,_,_=>none
 |j+1,d,f,g,i,a,b=>if decide (b<(a.length:Int))=true then (idx a b).bind λc=>if List.length ([]:Ya)+c.length≤lim then if List.length ([]++c)+List.length [(-1:Int)]≤lim then (idx a b).bind λ_=>Zg7 j d f g i (List.set a (Int.toNat b) (([]++c)++[(-1:Int)])) (wrap .i64 (b+1))else none else none else some (d,f,g,i,a)
def Zjq (g:Zc) (a:Z0):Option (Z0×Zc):=(Zg g 7).bind λb=>if(b.1==0)=true then (Ze1 b.2 a.Topology).bind λc=>some ((Z0.mk c.1 a.Failure a.Configs a.Routes a.Labels),c.2)else if(b.1==1)=true then (Zfg b.2 a.Failure).bind λd=>some ((Z0.mk a.Topology d.1 a.Configs a.Routes a.Labels),d.2)else if(b.1==2)=true then (Zcr a.Configs).bind λf=>if f.length+1≤lim then some ((Z0.mk a.Topology a.Failure (f++[Zo.mk ([]:Yo)]) a.Routes a.Labels),b.2)else none else if(b.1==3)=true then (Zcr a.Configs).bind λi=>(Zg5 fuel b.2 a.Topology a.Failure a.Routes a.Labels i 0).bind λ(k,l,m,n,o,p)=>some ((Z0.mk l m p n o),k)else if(b.1==4)=true then if List.length ([]:(List Yd))+a.Routes.length≤lim then (Zg6 fuel b.2 a.Topology a.Failure a.Configs a.Labels (([]:(List Yd))++a.Routes) (0:Int)).bind λ(r,s,t,u,v,w)=>some ((Z0.mk s t u w v),r)else none else if(b.1==5)=true then if List.length ([]:(List Ya))+a.Labels.length≤lim then (Zg7 fuel a.Topology a.Failure a.Configs a.Routes (([]:(List Ya))++a.Labels) (0:Int)).bind λ(y,z,a0,a1,a2)=>some ((Z0.mk y z a0 a1 a2),b.2)else none else if decide ((a.Labels.length:Int)>0)=true then if 0≤(1:Int)∧(1:Int)≤(a.Labels.length:Int)∧(a.Labels.length:Int)≤(a.Labels.length:Int)then some ((Z0.mk a.Topology a.Failure a.Configs a.Routes (List.drop (Int.toNat (1:Int)) (List.take (Int.toNat (a.Labels.length:Int)) a.Labels))),b.2)else none else some ((Z0.mk a.Topology a.Failure a.Configs a.Routes a.Labels),b.2)
def Zjg (a:ByteArray):Nat→Int→Option Yb
 |0,_=>none
 |c+1,b=>if decide (b<(ByteArray.size a:Int))=true then (sidx a b).bind λd=>(some (decide (d≥97))).bind λf=>(if f=true then (sidx a b).bind λg=>some (decide (g≤122))else some false).bind λi=>(sidx a b).bind λj=>(some (decide (j≥48))).bind λk=>(if k=true then (sidx a b).bind λl=>some (decide (l≤57))else some false).bind λm=>(some (!i)).bind λn=>(some (n&&(!m))).bind λo=>(if o=true then (sidx a b).bind λp=>some (p !=(45:Int))else some false).bind λq=>(some q).bind λr=>(if r=true then (sidx a b).bind λs=>some (s !=(95:Int))else some false).bind λt=>if t=true then some (.inr false)else Zjg a c (wrap .i64 (b+1))else some (.inl ())
def Zb1 (a:ByteArray):Option Bool:=(some (a.toList==ByteArray.empty.toList)).bind λb=>(some (b||(decide ((ByteArray.size a:Int)>24)))).bind λc=>(some (c||(a.toList==(⟨#[97,110,121]⟩:ByteArray).toList))).bind λd=>(if d=true then some true else (sidx a (0:Int)).bind λx7=>some (decide (x7<97))).bind λf=>(some f).bind λg=>(if g=true then some true else (sidx a (0:Int)).bind λi=>some (decide (i>122))).bind λj=>if j=true then some false else (Zjg a fuel 0).bind λ(k:Yb)=>match k with
 |.inl ()=>some true
 |.inr l=>some l
def Zh9 (a:Z5):Option Bool:=(Zb1 a.Name).bind λb=>(some b).bind λc=>(some (c&&(decide (a.Capacity≥0)))).bind λd=>(some (d&&(decide (a.Capacity≤4096)))).bind λf=>(if f=true then (some (a.Class.toList==ByteArray.empty.toList)).bind λg=>(if g=true then some true else (Zb1 a.Class).bind λi=>some i).bind λj=>some j else some false).bind λk=>some k
def Zuh (a:Z5) (b:ByteArray):Option Bool:=some (a.Name.toList==b.toList)
def Za3 (b:Yr) (c:ByteArray):Nat→Int→Option Yf
 |0,_=>none
 |d+1,a=>if decide (a<(b.length:Int))=true then (idx b a).bind λf=>(Zuh f c).bind λg=>if g=true then some (.inr a)else Za3 b c d (wrap .i64 (a+1))else some (.inl ())
def Zdq (a:Yr) (b:ByteArray):Option Int:=(Za3 a b fuel 0).bind λ(c:Yf)=>match c with
 |.inl ()=>some (-1:Int)
 |.inr d=>some d
def Zr6 (a:Zb) (b:ByteArray):Option Int:=(Zdq a.Devices b).bind λc=>some c
def Zm1 (a:Int):Option Int:=if 0≤(wrap .u64 (wrap .i64 ((32:Int)-a)))then some (bShl .u32 (4294967295:Int) (wrap .u64 (wrap .i64 ((32:Int)-a))))else none
def Zer (a:Zl):Option Bool:=(some (decide (a.Bits≥0))).bind λb=>(some (b&&(decide (a.Bits≤32)))).bind λc=>(if c=true then (Zm1 a.Bits).bind λd=>some ((bAndNot .u32 a.Addr d)==0)else some false).bind λf=>some f
def Zkp (b:Zb) (a:Z1):Option Bool:=(some (decide (a.Device≥0))).bind λc=>(Zb1 a.Name).bind λd=>(some d).bind λf=>(if f=true then (Zb1 a.Zone).bind λg=>some g else some false).bind λi=>(some (c&&(decide (a.Device<(b.Devices.length:Int))))).bind λj=>(some (j&&i)).bind λk=>(if k=true then (Zer a.Prefix).bind λl=>some l else some false).bind λm=>(some m).bind λn=>(some (n&&(decide (a.Prefix.Bits>0)))).bind λo=>(if o=true then (some (!a.Planned)).bind λp=>some (p||(a.Prefix.Addr==0))else some false).bind λq=>some q
def Zvy (a:Z1) (b:ByteArray):Option Bool:=some (a.Name.toList==b.toList)
def Zbe (b:Yk) (c:ByteArray):Nat→Int→Option Yf
 |0,_=>none
 |d+1,a=>if decide (a<(b.length:Int))=true then (idx b a).bind λf=>(Zvy f c).bind λg=>if g=true then some (.inr a)else Zbe b c d (wrap .i64 (a+1))else some (.inl ())
def Zeu (a:Yk) (b:ByteArray):Option Int:=(Zbe a b fuel 0).bind λ(c:Yf)=>match c with
 |.inl ()=>some (-1:Int)
 |.inr d=>some d
def Ztx (a:Zb) (b:ByteArray):Option Int:=(Zeu a.Edges b).bind λc=>some c
def Zj1 (a:Zl) (b:Int):Option Bool:=(Zer a).bind λc=>(some c).bind λd=>(if d=true then (Zm1 a.Bits).bind λf=>some ((bAnd .u32 b f)==a.Addr)else some false).bind λg=>some g
def Znq (b:Zl) (a:Zl):Option Bool:=(Zer a).bind λc=>(some c).bind λd=>(some (d&&(decide (b.Bits≤a.Bits)))).bind λf=>(if f=true then (Zj1 b a.Addr).bind λg=>some g else some false).bind λi=>some i
def Zik (a:Zl) (b:Zl):Option Bool:=(Znq a b).bind λc=>(some c).bind λd=>(if d=true then some true else (Znq b a).bind λf=>some f).bind λg=>some g
def Zrb (a:Zl) (b:Zl):Option Bool:=(Zik b a).bind λc=>some c
def Za6 (b:Yl) (c:Zl):Nat→Int→Option Yf
 |0,_=>none
 |d+1,a=>if decide (a<(b.length:Int))=true then (idx b a).bind λf=>(Zrb f c).bind λg=>if g=true then some (.inr a)else Za6 b c d (wrap .i64 (a+1))else some (.inl ())
def Zdx (a:Yl) (b:Zl):Option Int:=(Za6 a b fuel 0).bind λ(c:Yf)=>match c with
 |.inl ()=>some (-1:Int)
 |.inr d=>some d
def Zb2 (a:Yl) (b:Zl):Option Bool:=(Zdx a b).bind λc=>some (decide (c≥0))
def Zhr (a:Zb):Nat→Int→Option Yb
 |0,_=>none
 |d+1,b=>if decide (b<(a.Devices.length:Int))=true then (idx a.Devices b).bind λc=>(Zh9 c).bind λf=>(some (!f)).bind λg=>(if g=true then some true else (Zr6 a c.Name).bind λi=>some (i !=b)).bind λj=>if j=true then some (.inr false)else Zhr a d (wrap .i64 (b+1))else some (.inl ())
def Zhs (b:Zb):Nat→Int→Option Yb
 |0,_=>none
 |d+1,c=>if decide (c<(b.Links.length:Int))=true then (idx b.Links c).bind λa=>(some (decide (a.A<0))).bind λf=>(some (f||(decide (a.A≥a.B)))).bind λg=>(some (g||(decide (a.B≥(b.Devices.length:Int))))).bind λi=>(some (i||(decide (a.Cost<1)))).bind λj=>if(j||(decide (a.Cost>1000)))=true then some (.inr false)else Zhs b d (wrap .i64 (c+1))else some (.inl ())
def Zmj (a:Zb) (b:Int) (c:Z1):Nat→Int→Option Yb
 |0,_=>none
 |g+1,d=>if(decide (d<(List.length (List.drop (Int.toNat (0:Int)) (List.take (Int.toNat b) a.Edges)):Int)))=true then (idx (List.drop (Int.toNat (0:Int)) (List.take (Int.toNat b) a.Edges)) d).bind λf=>(some (!c.Planned)).bind λi=>(some (i&&(!f.Planned))).bind λj=>(if j=true then (Zik c.Prefix f.Prefix).bind λk=>some k else some false).bind λl=>if l=true then some (.inr false)else Zmj a b c g (wrap .i64 (d+1))else some (.inl ())
def Zht (a:Zb):Nat→Int→Option Yb
 |0,_=>none
 |d+1,b=>if decide (b<(a.Edges.length:Int))=true then (idx a.Edges b).bind λc=>(Zkp a c).bind λf=>(some (!f)).bind λg=>(if g=true then some true else (Ztx a c.Name).bind λi=>some (i !=b)).bind λj=>if j=true then some (.inr false)else if 0≤(0:Int)∧(0:Int)≤b∧b≤(a.Edges.length:Int)then (Zmj a b c fuel 0).bind λ(k:Yb)=>match k with
  |.inl ()=>Zht a d (wrap .i64 (b+1))
  |.inr l=>some (.inr l)else none else some (.inl ())
def Zhu (b:Zb):Nat→Int→Option Yb
 |0,_=>none
 |d+1,a=>if decide (a<(b.Pools.length:Int))=true then (idx b.Pools a).bind λc=>(Zer c).bind λf=>(some (!f)).bind λg=>(if g=true then some true else if 0≤(0:Int)∧(0:Int)≤a∧a≤(b.Pools.length:Int)then (Zb2 (List.drop (Int.toNat (0:Int)) (List.take (Int.toNat a) b.Pools)) c).bind λi=>some i else none).bind λj=>if j=true then some (.inr false)else Zhu b d (wrap .i64 (a+1))else some (.inl ())
def Zlg (a:Zb):Option Bool:=(some ((a.Devices.length:Int)==0)).bind λb=>(some (b||(decide ((a.Devices.length:Int)>12)))).bind λc=>(some (c||(decide ((a.Links.length:Int)>24)))).bind λd=>(some (d||(decide ((a.Edges.length:Int)>12)))).bind λf=>(some (f||(decide ((a.Pools.length:Int)>8)))).bind λg=>(some (g||(decide (a.Tolerate<0)))).bind λi=>if(i||(decide (a.Tolerate>2)))=true then some false else (Zhr a fuel 0).bind λ(j:Yb)=>match j with
 |.inl ()=>(Zhs a fuel 0).bind λ(k:Yb)=>match k with
  |.inl ()=>(Zht a fuel 0).bind λ(l:Yb)=>match l with
   |.inl ()=>(Zhu a fuel 0).bind λ(m:Yb)=>match m with
    |.inl ()=>some true
    |.inr n=>some n
   |.inr o=>some o
  |.inr p=>some p
 |.inr q=>some q
def Ztk (a:Z1):Option Bool:=some a.Planned
def Za8 (b:Yk):Nat→Int→Option Yf
 |0,_=>none
 |c+1,a=>if decide (a<(b.length:Int))=true then (idx b a).bind λd=>(Ztk d).bind λf=>if f=true then some (.inr a)else Za8 b c (wrap .i64 (a+1))else some (.inl ())
def Zd7 (a:Yk):Option Int:=(Za8 a fuel 0).bind λ(b:Yf)=>match b with
 |.inl ()=>some (-1:Int)
 |.inr c=>some c
def Zdo (a:Yk):Option Bool:=(Zd7 a).bind λb=>some (decide (b≥0))
def Zmk (a:Zb):Option Bool:=(Zlg a).bind λb=>(some b).bind λc=>(if c=true then (Zdo a.Edges).bind λd=>some (!d)else some false).bind λf=>some f
def Zbu (b:ZB):Nat→Int→Option Yb
 |0,_=>none
 |c+1,a=>if decide (a<5)=true then if 0≤a∧a<5 then (some (decide ((Arr5.get b a).Lo>(Arr5.get b a).Hi))).bind λd=>(if d=true then some true else if 0≤a∧a<5 then some (decide ((Arr5.get b a).Hi>(Arr5.get Zmy a)))else none).bind λf=>if f=true then some (.inr false)else Zbu b c (wrap .i64 (a+1))else none else some (.inl ())
def Zem (a:ZB):Option Bool:=(Zbu a fuel 0).bind λ(b:Yb)=>match b with
 |.inl ()=>some true
 |.inr c=>some c
def Zoi (a:Yn):Nat→Int→Option Yb
 |0,_=>none
 |c+1,b=>if decide (b<(a.length:Int))=true then (idx a b).bind λd=>(Zem d.Match).bind λf=>if(!f)=true then some (.inr false)else Zoi a c (wrap .i64 (b+1))else some (.inl ())
def Zk4 (a:Yn):Option Bool:=(Zoi a fuel 0).bind λ(b:Yb)=>match b with
 |.inl ()=>some (decide ((a.length:Int)≤4096))
 |.inr c=>some c
def Zu6 (a:Zl):Option (Za×Bool):=(Zer a).bind λb=>if(!b)=true then some ((Za.mk 0 0),false)else (Zm1 a.Bits).bind λc=>some ((Za.mk a.Addr (bOr .u32 a.Addr (bXor .u32 (4294967295:Int) c))),true)
def Zo2 (c:Z1) (a:ZB):Option Bool:=(Zu6 c.Prefix).bind λb=>(some (decide (b.1.Lo≤a.x1.Hi))).bind λd=>some (d&&(decide (a.x1.Lo≤b.1.Hi)))
def Za7 (b:Yk) (c:ZB):Nat→Int→Option Yf
 |0,_=>none
 |d+1,a=>if decide (a<(b.length:Int))=true then (idx b a).bind λf=>(Zo2 f c).bind λg=>if g=true then some (.inr a)else Za7 b c d (wrap .i64 (a+1))else some (.inl ())
def Zdy (a:Yk) (b:ZB):Option Int:=(Za7 a b fuel 0).bind λ(c:Yf)=>match c with
 |.inl ()=>some (-1:Int)
 |.inr d=>some d
def Zb3 (a:Yk) (b:ZB):Option Bool:=(Zdy a b).bind λc=>some (decide (c≥0))
def Zml (b:Zb) (a:Zaa):Option Bool:=(some (a.From.x2.Lo !=a.From.x2.Hi)).bind λc=>(if c=true then some true else (some (a.From.x2.Lo !=(6:Int))).bind λd=>some (d&&(a.From.x2.Lo !=(17:Int)))).bind λf=>if f=true then some false else (some (!(Zba a.From.x0 a.To.x0))).bind λg=>(some (g||(!(Zba a.From.x2 a.To.x2)))).bind λi=>if(i||(!(Zba a.From.x3 a.To.x3)))=true then some false else (Zb3 b.Edges a.From).bind λj=>some (!j)
def Zfw (b:ZB) (c:ZB):Nat→ZB→Int→Option ZB
 |0,_,_=>none
 |f+1,d,a=>if decide (a<5)=true then if 0≤a∧a<5 then if 0≤a∧a<5 then if 0≤a∧a<5 then if 0≤a∧a<5 then if 0≤a∧a<5 then Zfw b c f (Arr5.set d a (Za.mk (iMax ((Arr5.get b a).Lo) ((Arr5.get c a).Lo)) (iMin ((Arr5.get b a).Hi) ((Arr5.get c a).Hi)))) (wrap .i64 (a+1))else none else none else none else none else none else some d
def Znr (a:ZB) (b:ZB):Option (ZB×Bool):=(Zem a).bind λd=>(some (!d)).bind λf=>(if f=true then some true else (Zem b).bind λg=>some (!g)).bind λi=>if i=true then some ((Arr5.mk Zao Zao Zao Zao Zao),false)else (Zfw a b fuel Zfo 0).bind λc=>(Zem c).bind λj=>if(!j)=true then some ((Arr5.mk Zao Zao Zao Zao Zao),false)else some (c,true)
def Zfb (b:Zaa):Nat→Int→Option Yb
 |0,_=>none
 |c+1,a=>if decide (a<5)=true then if 0≤a∧a<5 then if 0≤a∧a<5 then if 0≤a∧a<5 then if((wrap .u32 ((Arr5.get b.From a).Hi-(Arr5.get b.From a).Lo))!=(wrap .u32 ((Arr5.get b.To a).Hi-(Arr5.get b.To a).Lo)))=true then some (.inr false)else Zfb b c (wrap .i64 (a+1))else none else none else none else some (.inl ())
def Zmm (a:Zaa):Option Bool:=(Zem a.From).bind λb=>(some (!b)).bind λc=>(if c=true then some true else (Zem a.To).bind λd=>some (!d)).bind λf=>if f=true then some false else (Zfb a fuel 0).bind λ(g:Yb)=>match g with
 |.inl ()=>some true
 |.inr i=>some i
def Zfx (a:Yj) (b:Int) (d:Zaa):Nat→Int→Option Yb
 |0,_=>none
 |f+1,c=>if(decide (c<(List.length (List.drop (Int.toNat (0:Int)) (List.take (Int.toNat b) a)):Int)))=true then (idx (List.drop (Int.toNat (0:Int)) (List.take (Int.toNat b) a)) c).bind λg=>(Znr d.From g.From).bind λi=>if i.2=true then some (.inr false)else Zfx a b d f (wrap .i64 (c+1))else some (.inl ())
def Zil (b:Yj):Nat→Int→Option Yb
 |0,_=>none
 |d+1,a=>if decide (a<(b.length:Int))=true then (idx b a).bind λc=>(Zmm c).bind λf=>if(!f)=true then some (.inr false)else if 0≤(0:Int)∧(0:Int)≤a∧a≤(b.length:Int)then (Zfx b a c fuel 0).bind λ(g:Yb)=>match g with
  |.inl ()=>Zil b d (wrap .i64 (a+1))
  |.inr i=>some (.inr i)else none else some (.inl ())
def Zns (a:Yj):Option Bool:=if decide ((a.length:Int)>64)=true then some false else (Zil a fuel 0).bind λ(b:Yb)=>match b with
 |.inl ()=>some true
 |.inr c=>some c
def Zhl (a:Yj) (b:Int) (d:Zaa):Nat→Int→Option Yb
 |0,_=>none
 |f+1,c=>if(decide (c<(List.length (List.drop (Int.toNat (0:Int)) (List.take (Int.toNat b) a)):Int)))=true then (idx (List.drop (Int.toNat (0:Int)) (List.take (Int.toNat b) a)) c).bind λg=>(Znr d.To g.To).bind λi=>if i.2=true then some (.inr false)else Zhl a b d f (wrap .i64 (c+1))else some (.inl ())
def Zev (c:Zb) (b:Yj):Nat→Int→Option Yb
 |0,_=>none
 |f+1,a=>if decide (a<(b.length:Int))=true then (idx b a).bind λd=>(Zml c d).bind λg=>if(!g)=true then some (.inr false)else if 0≤(0:Int)∧(0:Int)≤a∧a≤(b.length:Int)then (Zhl b a d fuel 0).bind λ(i:Yb)=>match i with
  |.inl ()=>Zev c b f (wrap .i64 (a+1))
  |.inr j=>some (.inr j)else none else some (.inl ())
def Zpv (b:Zb) (a:Yj):Option Bool:=(Zev b a fuel 0).bind λ(c:Yb)=>match c with
 |.inl ()=>(Zns a).bind λd=>some d
 |.inr f=>some f
def Z3o (a:Int):Option Int:=(some (decide (a<0))).bind λb=>if(b||(decide (a≥5)))=true then some (0:Int)else if 0≤a∧a<5 then some (Arr5.get Zmy a)else none
def Zp9 (a:Zab):Option Bool:=(Zem a.Match).bind λb=>(some b).bind λc=>(some (c&&(decide (a.Ports.Lo≤a.Ports.Hi)))).bind λd=>(if d=true then (Z3o 3).bind λf=>some (decide (a.Ports.Hi≤f))else some false).bind λg=>some g
def Zhm (a:Ym):Nat→Int→Option Yb
 |0,_=>none
 |c+1,b=>if decide (b<(a.length:Int))=true then (idx a b).bind λd=>(Zp9 d).bind λf=>if(!f)=true then some (.inr false)else Zhm a c (wrap .i64 (b+1))else some (.inl ())
def Zkq (a:Ym):Option Bool:=(Zhm a fuel 0).bind λ(b:Yb)=>match b with
 |.inl ()=>some (decide ((a.length:Int)≤256))
 |.inr c=>some c
def Zty (a:Z1) (b:Int):Option Bool:=(some (!a.Planned)).bind λc=>(if c=true then (Zj1 a.Prefix b).bind λd=>some d else some false).bind λf=>some f
def Zbk (b:Yk) (c:Int):Nat→Int→Option Yf
 |0,_=>none
 |d+1,a=>if decide (a<(b.length:Int))=true then (idx b a).bind λf=>(Zty f c).bind λg=>if g=true then some (.inr a)else Zbk b c d (wrap .i64 (a+1))else some (.inl ())
def Zfc (a:Yk) (b:Int):Option Int:=(Zbk a b fuel 0).bind λ(c:Yf)=>match c with
 |.inl ()=>some (-1:Int)
 |.inr d=>some d
def Zvn (a:Zb) (b:Int):Option Int:=(Zfc a.Edges b).bind λc=>some c
def Zo3 (a:Zaf):Option Bool:=(Zem a.Match).bind λb=>(some (!b)).bind λc=>(if c=true then some true else (Zb1 a.Class).bind λd=>some (!d)).bind λf=>some f
def Za0 (b:Yi):Nat→Int→Option Yf
 |0,_=>none
 |c+1,a=>if decide (a<(b.length:Int))=true then (idx b a).bind λd=>(Zo3 d).bind λf=>if f=true then some (.inr a)else Za0 b c (wrap .i64 (a+1))else some (.inl ())
def Zdp (a:Yi):Option Int:=(Za0 a fuel 0).bind λ(b:Yf)=>match b with
 |.inl ()=>some (-1:Int)
 |.inr c=>some c
def Zbz (a:Yi):Option Bool:=(Zdp a).bind λb=>some (decide (b≥0))
def Zfd (c:Zb) (a:Zw):Nat→Int→Option Yb
 |0,_=>none
 |d+1,b=>if decide (b<(a.Hides.length:Int))=true then (idx a.Hides b).bind λf=>(Zvn c f.Addr).bind λg=>if decide (g≥0)=true then some (.inr false)else Zfd c a d (wrap .i64 (b+1))else some (.inl ())
def Zqa (b:Zb) (a:Zw):Option Bool:=(Zk4 a.Ingress).bind λc=>(some (!c)).bind λd=>(if d=true then some true else (Zk4 a.Egress).bind λf=>some (!f)).bind λg=>(some g).bind λi=>(if i=true then some true else (Zpv b a.Moves).bind λj=>some (!j)).bind λk=>(some k).bind λl=>(if l=true then some true else (Zkq a.Hides).bind λm=>some (!m)).bind λn=>(some n).bind λo=>if(o||(decide ((a.Steers.length:Int)>4096)))=true then some false else (Zfd b a fuel 0).bind λ(p:Yb)=>match p with
 |.inl ()=>(Zbz a.Steers).bind λq=>some (!q)
 |.inr r=>some r
def Zrc (a:Z1) (b:Int):Option Bool:=some (a.Device==b)
def Zdl (c:Zb) (d:Int):Nat→Ya→Int→Option Ya
 |0,_,_=>none
 |f+1,b,a=>if decide (a<(c.Edges.length:Int))=true then ((idx c.Edges a).bind λg=>(Zrc g d).bind λi=>if i=true then if b.length+List.length [a]≤lim then some (b++[a])else none else some b).bind λj=>Zdl c d f j (wrap .i64 (a+1))else some b
def Zg8 (a:Zb) (b:Int):Option Ya:=(Zdl a b fuel [] 0).bind λc=>some c
def Zpw (a:Zb) (b:Int):Option Ya:=(Zg8 a b).bind λc=>some c
def Zf7 (b:Ya) (c:Ya):Nat→Int→Option Yb
 |0,_=>none
 |d+1,a=>if decide (a<(b.length:Int))=true then (idx b a).bind λf=>(idx c a).bind λg=>if(f !=g)=true then some (.inr false)else Zf7 b c d (wrap .i64 (a+1))else some (.inl ())
def Zia (a:Ya) (b:Ya):Option Bool:=if((a.length:Int)!=(b.length:Int))=true then some false else (Zf7 a b fuel 0).bind λ(c:Yb)=>match c with
 |.inl ()=>some true
 |.inr d=>some d
def Zej (f:Zb) (a:Zo):Nat→Ya→Int→Option (Ya⊕Bool)
 |0,_,_=>none
 |g+1,b,c=>if decide (c<(a.Ports.length:Int))=true then (idx a.Ports c).bind λd=>if b.length+List.length [d.Edge]≤lim then (Zqa f d).bind λi=>if(!i)=true then some (.inr false)else Zej f a g (b++[d.Edge]) (wrap .i64 (c+1))else none else some (.inl b)
def Znt (b:Zb) (c:Yh):Nat→Int→Option Yb
 |0,_=>none
 |d+1,a=>if decide (a<(c.length:Int))=true then (idx c a).bind λf=>(Zej b f fuel [] 0).bind λ(g:(Ya⊕Bool))=>match g with
  |.inl i=>(Zpw b a).bind λj=>(Zia i j).bind λk=>if(!k)=true then some (.inr false)else Znt b c d (wrap .i64 (a+1))
  |.inr l=>some (.inr l)else some (.inl ())
def Zqp (a:Zb) (b:Yh):Option Bool:=(Zmk a).bind λc=>(some (!c)).bind λd=>if(d||((b.length:Int)!=(a.Devices.length:Int)))=true then some false else (Znt a b fuel 0).bind λ(f:Yb)=>match f with
 |.inl ()=>some true
 |.inr g=>some g
def Zmn (b:Ya) (d:Int):Nat→Int→Option Yb
 |0,_=>none
 |f+1,a=>if decide (a<(b.length:Int))=true then (idx b a).bind λc=>(some (decide (c<0))).bind λg=>(some (g||(decide (c≥d)))).bind λi=>(if i=true then some true else (some (decide (a>0))).bind λj=>(if j=true then (idx b (wrap .i64 (a-1))).bind λk=>some (decide (c≤k))else some false).bind λl=>some l).bind λm=>if m=true then some (.inr false)else Zmn b d f (wrap .i64 (a+1))else some (.inl ())
def Zpx (a:Ya) (b:Int):Option Bool:=(Zmn a b fuel 0).bind λ(c:Yb)=>match c with
 |.inl ()=>some true
 |.inr d=>some d
def Ztz (a:Zb) (b:Zp):Option Bool:=(Zlg a).bind λc=>(some c).bind λd=>(if d=true then (Zpx b.Links (a.Links.length:Int)).bind λf=>some f else some false).bind λg=>(some g).bind λi=>(if i=true then (Zpx b.Devices (a.Devices.length:Int)).bind λj=>some j else some false).bind λk=>some k
def Zd8 (b:Ya) (c:Int):Nat→Int→Option Yf
 |0,_=>none
 |d+1,a=>if decide (a<(b.length:Int))=true then (idx b a).bind λx7=>if(c==x7)=true then some (.inr a)else Zd8 b c d (wrap .i64 (a+1))else some (.inl ())
def Zsd (a:Ya) (b:Int):Option Int:=(Zd8 a b fuel 0).bind λ(c:Yf)=>match c with
 |.inl ()=>some (-1:Int)
 |.inr d=>some d
def Zkr (a:Ya) (b:Int):Option Bool:=(Zsd a b).bind λc=>some (decide (c≥0))
def Znu (a:Int):Option Bool:=some (a !=a)
def Zks (a:Int) (b:Int):Option Int:=(Znu a).bind λd=>(Znu b).bind λc=>if d=true then if c=true then some (0:Int)else some (-1:Int)else if c=true then some (1:Int)else if decide (a<b)=true then some (-1:Int)else if decide (a>b)=true then some (1:Int)else some (0:Int)
def Zqq (a:Int):Option Bool:=some (a !=a)
def Zoj (a:Int) (b:Int):Option Int:=(Zqq a).bind λd=>(Zqq b).bind λc=>if d=true then if c=true then some (0:Int)else some (-1:Int)else if c=true then some (1:Int)else if decide (a<b)=true then some (-1:Int)else if decide (a>b)=true then some (1:Int)else some (0:Int)
def Ze2 (a:Ya):Nat→Int→Option Yf
 |0,_=>none
 |c+1,b=>if decide (b<(a.length:Int))=true then (idx a b).bind λx7=>if(x7 !=(0:Int))=true then some (.inr x7)else Ze2 a c (wrap .i64 (b+1))else some (.inl ())
def Zt0 (a:Ya):Option Int:=(Ze2 a fuel 0).bind λ(b:Yf)=>match b with
 |.inl ()=>some (0:Int)
 |.inr c=>some c
def Zok (a:Zl) (b:Zl):Option Int:=(Zks a.Addr b.Addr).bind λc=>(Zoj a.Bits b.Bits).bind λd=>(Zt0 [c,d]).bind λf=>some f
def Znv (b:Yd):Nat→Int→Option Yb
 |0,_=>none
 |d+1,a=>if decide (a<(b.length:Int))=true then (idx b a).bind λc=>(Zer c.Prefix).bind λf=>(some (!f)).bind λg=>(if g=true then some true else (some (decide (a>0))).bind λi=>(if i=true then (idx b (wrap .i64 (a-1))).bind λj=>(Zok j.Prefix c.Prefix).bind λk=>some (decide (k≥0))else some false).bind λl=>some l).bind λm=>if m=true then some (.inr false)else Znv b d (wrap .i64 (a+1))else some (.inl ())
def Zt1 (a:Yd):Option Bool:=(Znv a fuel 0).bind λ(b:Yb)=>match b with
 |.inl ()=>some true
 |.inr c=>some c
def Zo4 (b:Zb) (c:Int) (a:Int):Option Bool:=(some (decide (a≥0))).bind λd=>(some (d&&(decide (a<(b.Links.length:Int))))).bind λf=>(if f=true then (idx b.Links a).bind λx5=>(some (x5.A==c)).bind λg=>(if g=true then some true else (idx b.Links a).bind λi=>some (i.B==c)).bind λj=>some j else some false).bind λk=>some k
def Zgs (b:Z0) (c:Int) (x1:Yd):Nat→Int→Option Yb
 |0,_=>none
 |f+1,d=>if decide (d<(x1.length:Int))=true then (idx x1 d).bind λa=>(some (decide (a.Port≥0))).bind λg=>(some (g&&(decide (a.Port<(b.Topology.Edges.length:Int))))).bind λi=>(if i=true then (idx b.Topology.Edges a.Port).bind λj=>some (j.Device==c)else some false).bind λk=>(some a.Edge).bind λl=>(some (l&&(!k))).bind λm=>(if m=true then some true else (some (!a.Edge)).bind λn=>(if n=true then (Zo4 b.Topology c a.Port).bind λo=>some (!o)else some false).bind λp=>some p).bind λq=>if q=true then some (.inr false)else Zgs b c x1 f (wrap .i64 (d+1))else some (.inl ())
def Zgt (c:Z0) (b:Int) (x3:Ya) (d:Bool):Nat→Int→Option Yb
 |0,_=>none
 |g+1,a=>if decide (a<(x3.length:Int))=true then (idx x3 a).bind λf=>(some (f !=(-1:Int))).bind λi=>(if i=true then (some d).bind λj=>(some (j||(a==b))).bind λk=>(if k=true then some true else (Zo4 c.Topology b f).bind λl=>some (!l)).bind λm=>some m else some false).bind λn=>if n=true then some (.inr false)else Zgt c b x3 d g (wrap .i64 (a+1))else some (.inl ())
def Zjh (a:Z0) (b:Int):Option Bool:=(idx a.Routes b).bind λx1=>(idx a.Labels b).bind λx3=>(Zkr a.Failure.Devices b).bind λc=>(Zt1 x1).bind λd=>(some (!d)).bind λf=>(some (f||(decide ((x1.length:Int)>256)))).bind λg=>(some (g||((x3.length:Int)!=(a.Topology.Devices.length:Int)))).bind λi=>(if i=true then some true else (some c).bind λj=>some (j&&(decide ((x1.length:Int)>0)))).bind λk=>if k=true then some false else (Zgs a b x1 fuel 0).bind λ(l:Yb)=>match l with
 |.inl ()=>(Zgt a b x3 c fuel 0).bind λ(m:Yb)=>match m with
  |.inl ()=>some true
  |.inr n=>some n
 |.inr o=>some o
def Zf8 (a:Z0):Nat→Int→Option Yb
 |0,_=>none
 |c+1,b=>if decide (b<(a.Topology.Devices.length:Int))=true then (Zjh a b).bind λd=>if(!d)=true then some (.inr false)else Zf8 a c (wrap .i64 (b+1))else some (.inl ())
def Zn2 (a:Z0):Option Bool:=(Zqp a.Topology a.Configs).bind λb=>(some (!b)).bind λc=>(if c=true then some true else (Ztz a.Topology a.Failure).bind λd=>some (!d)).bind λf=>(some f).bind λg=>(some (g||((a.Routes.length:Int)!=(a.Topology.Devices.length:Int)))).bind λi=>if(i||((a.Labels.length:Int)!=(a.Topology.Devices.length:Int)))=true then some false else (Zf8 a fuel 0).bind λ(j:Yb)=>match j with
 |.inl ()=>some true
 |.inr k=>some k
def Zfy (a:Zw):Nat→Int→Option Yb
 |0,_=>none
 |d+1,b=>if decide (b<(a.Steers.length:Int))=true then (idx a.Steers b).bind λc=>(Zem c.Match).bind λf=>(some (!f)).bind λg=>(if g=true then some true else (Zb1 c.Class).bind λi=>some (!i)).bind λj=>if j=true then some (.inr false)else Zfy a d (wrap .i64 (b+1))else some (.inl ())
def Znw (a:Zw):Option Bool:=(Zk4 a.Ingress).bind λb=>(some (!b)).bind λc=>(if c=true then some true else (Zk4 a.Egress).bind λd=>some (!d)).bind λf=>(some f).bind λg=>(if g=true then some true else (Zns a.Moves).bind λi=>some (!i)).bind λj=>(some j).bind λk=>(if k=true then some true else (Zkq a.Hides).bind λl=>some (!l)).bind λm=>(some m).bind λn=>if(n||(decide ((a.Steers.length:Int)>4096)))=true then some false else (Zfy a fuel 0).bind λ(o:Yb)=>match o with
 |.inl ()=>some true
 |.inr p=>some p
def Zex (b:Zo):Nat→Int→Int→Option Yb
 |0,_,_=>none
 |d+1,f,c=>if decide (c<(b.Ports.length:Int))=true then (idx b.Ports c).bind λa=>(some (decide (a.Edge≤f))).bind λg=>(some (g||(decide (a.Edge≥12)))).bind λi=>(if i=true then some true else (Znw a).bind λj=>some (!j)).bind λk=>if k=true then some (.inr false)else Zex b d a.Edge (wrap .i64 (c+1))else some (.inl ())
def Zrs (a:Zo):Option Bool:=(Zex a fuel (-1:Int) 0).bind λ(b:Yb)=>match b with
 |.inl ()=>some true
 |.inr c=>some c
def Zj2 (a:Zw):Nat→Int→Option Yb
 |0,_=>none
 |c+1,b=>if decide (b<(a.Hides.length:Int))=true then (idx a.Hides b).bind λd=>if(Zba d.Ports (Za.mk 8 8))=true then some (.inr false)else Zj2 a c (wrap .i64 (b+1))else some (.inl ())
def Zol (a:Zo):Nat→Int→Option Yb
 |0,_=>none
 |c+1,b=>if decide (b<(a.Ports.length:Int))=true then (idx a.Ports b).bind λd=>(Zj2 d fuel 0).bind λ(f:Yb)=>match f with
  |.inl ()=>Zol a c (wrap .i64 (b+1))
  |.inr g=>some (.inr g)else some (.inl ())
def Zom (a:Z0):Nat→Int→Option Yb
 |0,_=>none
 |d+1,b=>if decide (b<(a.Configs.length:Int))=true then (idx a.Configs b).bind λc=>(Zrs c).bind λf=>if(!f)=true then some (.inr false)else (Zol c fuel 0).bind λ(g:Yb)=>match g with
  |.inl ()=>Zom a d (wrap .i64 (b+1))
  |.inr i=>some (.inr i)else some (.inl ())
def Zdt (a:Z0):Option Bool:=(Zn2 a).bind λb=>if(!b)=true then some false else (Zom a fuel 0).bind λ(c:Yb)=>match c with
 |.inl ()=>some true
 |.inr d=>some d
def Zmo (b:Yd):Nat→Int→Option Yb
 |0,_=>none
 |c+1,a=>if decide (a<(b.length:Int))=true then (idx b a).bind λd=>(Zcs d.Prefix).bind λf=>(some (!f)).bind λg=>(if g=true then some true else (some (decide (a>0))).bind λi=>(if i=true then (idx b (wrap .i64 (a-1))).bind λj=>(idx b a).bind λk=>(Zje j.Prefix k.Prefix).bind λl=>some (!l)else some false).bind λm=>some m).bind λn=>if n=true then some (.inr false)else Zmo b c (wrap .i64 (a+1))else some (.inl ())
def Zs2 (a:Yd):Option Bool:=(Zmo a fuel 0).bind λ(b:Yb)=>match b with
 |.inl ()=>some true
 |.inr c=>some c
def Zo5 (b:Zb) (c:Int) (a:Int):Option Bool:=(some (decide (a≥0))).bind λd=>(some (d&&(decide (a<(b.Links.length:Int))))).bind λf=>(if f=true then (idx b.Links a).bind λx5=>(Zpu x5 c).bind λg=>some (decide (g≥0))else some false).bind λi=>some i
def Zfh (a:Z0) (c:Int):Nat→Int→Option Yb
 |0,_=>none
 |f+1,d=>(idx a.Routes c).bind λg=>if decide (d<(g.length:Int))=true then (idx a.Routes c).bind λi=>(idx i d).bind λb=>(some (decide (b.Port≥0))).bind λj=>(some (j&&(decide (b.Port<(a.Topology.Edges.length:Int))))).bind λk=>(if k=true then (idx a.Topology.Edges b.Port).bind λl=>some (l.Device==c)else some false).bind λm=>(some b.Edge).bind λn=>(some (n&&(!m))).bind λo=>(if o=true then some true else (some (!b.Edge)).bind λp=>(if p=true then (Zo5 a.Topology c b.Port).bind λq=>some (!q)else some false).bind λr=>some r).bind λs=>if s=true then some (.inr false)else Zfh a c f (wrap .i64 (d+1))else some (.inl ())
def Zfi (a:Z0) (b:Int) (d:Bool):Nat→Int→Option Yb
 |0,_=>none
 |f+1,c=>if decide (c<(a.Topology.Devices.length:Int))=true then (idx a.Labels b).bind λg=>(idx g c).bind λi=>(some (i !=(-1:Int))).bind λj=>(if j=true then (some (!d)).bind λk=>(some (k||(c==b))).bind λl=>(if l=true then some true else (idx a.Labels b).bind λm=>(idx m c).bind λn=>(Zo5 a.Topology b n).bind λo=>some (!o)).bind λp=>some p else some false).bind λq=>if q=true then some (.inr false)else Zfi a b d f (wrap .i64 (c+1))else some (.inl ())
def Zfj (a:Z0):Nat→Int→Option Yb
 |0,_=>none
 |d+1,b=>if decide (b<(a.Topology.Devices.length:Int))=true then (Zbi a.Topology a.Failure b).bind λc=>(idx a.Routes b).bind λf=>(Zs2 f).bind λg=>(some (!g)).bind λi=>(if i=true then some true else (idx a.Routes b).bind λj=>some (decide ((j.length:Int)>256))).bind λk=>(some k).bind λl=>(if l=true then some true else (some (!c)).bind λm=>(if m=true then (idx a.Routes b).bind λn=>some (decide ((n.length:Int)>0))else some false).bind λo=>some o).bind λp=>(some p).bind λq=>(if q=true then some true else (idx a.Labels b).bind λr=>some ((r.length:Int)!=(a.Topology.Devices.length:Int))).bind λs=>if s=true then some (.inr false)else (Zfh a b fuel 0).bind λ(t:Yb)=>match t with
  |.inl ()=>(Zfi a b c fuel 0).bind λ(u:Yb)=>match u with
   |.inl ()=>Zfj a d (wrap .i64 (b+1))
   |.inr v=>some (.inr v)
  |.inr w=>some (.inr w)else some (.inl ())
def Zmu (a:Z0):Option Bool:=(Zfm a.Topology a.Configs).bind λb=>(some (!b)).bind λc=>(if c=true then some true else (Zbh a.Topology a.Failure).bind λd=>some (!d)).bind λf=>(some f).bind λg=>(some (g||((a.Routes.length:Int)!=(a.Topology.Devices.length:Int)))).bind λi=>if(i||((a.Labels.length:Int)!=(a.Topology.Devices.length:Int)))=true then some false else (Zfj a fuel 0).bind λ(j:Yb)=>match j with
 |.inl ()=>some true
 |.inr k=>some k
def Zhv (a:Zw):Nat→Int→Option Yb
 |0,_=>none
 |c+1,b=>if decide (b<(a.Steers.length:Int))=true then (idx a.Steers b).bind λd=>(Zbp d.Match).bind λf=>(some (!f)).bind λg=>(if g=true then some true else (idx a.Steers b).bind λi=>(Zad i.Class).bind λj=>some (!j)).bind λk=>if k=true then some (.inr false)else Zhv a c (wrap .i64 (b+1))else some (.inl ())
def Zhw (c:Zo):Nat→Int→Option Yb
 |0,_=>none
 |d+1,b=>if decide (b<(c.Ports.length:Int))=true then (idx c.Ports b).bind λa=>(some (decide (a.Edge<0))).bind λf=>(some (f||(decide (a.Edge≥12)))).bind λg=>(if g=true then some true else (some (decide (b>0))).bind λi=>(if i=true then (idx c.Ports (wrap .i64 (b-1))).bind λj=>some (decide (j.Edge≥a.Edge))else some false).bind λk=>some k).bind λl=>if l=true then some (.inr false)else (Zgn a.Ingress).bind λm=>(some (!m)).bind λn=>(if n=true then some true else (Zgn a.Egress).bind λo=>some (!o)).bind λp=>(some p).bind λq=>(if q=true then some true else (Zgo a.Moves).bind λr=>some (!r)).bind λs=>(some s).bind λt=>(if t=true then some true else (Zgp a.Hides).bind λu=>some (!u)).bind λv=>(some v).bind λw=>if(w||(decide ((a.Steers.length:Int)>4096)))=true then some (.inr false)else (Zhv a fuel 0).bind λ(x:Yb)=>match x with
  |.inl ()=>Zhw c d (wrap .i64 (b+1))
  |.inr y=>some (.inr y)else some (.inl ())
def Zs3 (a:Zo):Option Bool:=(Zhw a fuel 0).bind λ(b:Yb)=>match b with
 |.inl ()=>some true
 |.inr c=>some c
def Zhx (a:Zw):Nat→Int→Option Yb
 |0,_=>none
 |c+1,b=>if decide (b<(a.Hides.length:Int))=true then (idx a.Hides b).bind λd=>(some (d.Ports.Lo==8)).bind λf=>(if f=true then (idx a.Hides b).bind λg=>some (g.Ports.Hi==8)else some false).bind λi=>if i=true then some (.inr false)else Zhx a c (wrap .i64 (b+1))else some (.inl ())
def Zmp (a:Z0) (b:Int):Nat→Int→Option Yb
 |0,_=>none
 |d+1,c=>(idx a.Configs b).bind λf=>if decide (c<(f.Ports.length:Int))=true then (idx a.Configs b).bind λg=>(idx g.Ports c).bind λi=>(Zhx i fuel 0).bind λ(j:Yb)=>match j with
  |.inl ()=>Zmp a b d (wrap .i64 (c+1))
  |.inr k=>some (.inr k)else some (.inl ())
def Zmq (a:Z0):Nat→Int→Option Yb
 |0,_=>none
 |c+1,b=>if decide (b<(a.Configs.length:Int))=true then (idx a.Configs b).bind λd=>(Zs3 d).bind λf=>if(!f)=true then some (.inr false)else (Zmp a b fuel 0).bind λ(g:Yb)=>match g with
  |.inl ()=>Zmq a c (wrap .i64 (b+1))
  |.inr i=>some (.inr i)else some (.inl ())
def Zdm (a:Z0):Option Bool:=(Zmu a).bind λb=>if(!b)=true then some false else (Zmq a fuel 0).bind λ(c:Yb)=>match c with
 |.inl ()=>some true
 |.inr d=>some d
def Zfz (a:Int):Option (Int×(List (Zgc×Zfp))):=(some (decide (a<1))).bind λb=>if(b||(decide (a>64)))=true then none else some (a,([]:(List (Zgc×Zfp))))
def Zjr (a:Yr):Option Yr:=if a.length≤lim then some a else none
def Zlh (a:Yt):Option Yt:=if a.length≤lim then some a else none
def Zli (a:Yk):Option Yk:=if a.length≤lim then some a else none
def Zjs (a:Yl):Option Yl:=if a.length≤lim then some a else none
def Ze7 (a:Ya):Option Ya:=if a.length≤lim then some a else none
def Zgu (a:Yn):Option Yn:=if a.length≤lim then some a else none
def Zlj (a:Yj):Option Yj:=if a.length≤lim then some a else none
def Zlk (a:Ym):Option Ym:=if a.length≤lim then some a else none
def Zkt (a:Yi):Option Yi:=if a.length≤lim then some a else none
def Zku (a:Yd):Option Yd:=if a.length≤lim then some a else none
def Zr7 (b:Zo):Nat→Yo→Int→Option Yo
 |0,_,_=>none
 |l+1,c,d=>if decide (d<(b.Ports.length:Int))=true then (idx b.Ports d).bind λa=>(Zgu a.Ingress).bind λf=>(Zgu a.Egress).bind λg=>(Zlj a.Moves).bind λi=>(Zlk a.Hides).bind λj=>(Zkt a.Steers).bind λk=>if c.length+List.length [Zw.mk a.Edge f g i j k]≤lim then Zr7 b l (c++[Zw.mk a.Edge f g i j k]) (wrap .i64 (d+1))else none else some c
def Zon (a:Z0):Nat→Zb→Zp→Yh→Int→Option (Zb×Zp×Yh)
 |0,_,_,_,_=>none
 |i+1,d,f,b,c=>if decide (c<(a.Configs.length:Int))=true then (idx a.Configs c).bind λj=>(Zr7 j fuel [] 0).bind λg=>if b.length+List.length [Zo.mk g]≤lim then Zon a i d f (b++[Zo.mk g]) (wrap .i64 (c+1))else none else some (d,f,b)
def Zoo (a:Z0):Nat→Zb→Zp→(List Yd)→Int→Option (Zb×Zp×(List Yd))
 |0,_,_,_,_=>none
 |i+1,d,f,b,c=>if decide (c<(a.Routes.length:Int))=true then (idx a.Routes c).bind λj=>(Zku j).bind λg=>if b.length+List.length [g]≤lim then Zoo a i d f (b++[g]) (wrap .i64 (c+1))else none else some (d,f,b)
def Zop (a:Z0):Nat→Zb→Zp→(List Ya)→Int→Option (Zb×Zp×(List Ya))
 |0,_,_,_,_=>none
 |i+1,d,f,b,c=>if decide (c<(a.Labels.length:Int))=true then (idx a.Labels c).bind λj=>(Ze7 j).bind λg=>if b.length+List.length [g]≤lim then Zop a i d f (b++[g]) (wrap .i64 (c+1))else none else some (d,f,b)
def Zo6 (a:Z0):Option Z0:=(Zjr a.Topology.Devices).bind λb=>(Zlh a.Topology.Links).bind λc=>(Zli a.Topology.Edges).bind λd=>(Zjs a.Topology.Pools).bind λf=>(Ze7 a.Failure.Links).bind λg=>(Ze7 a.Failure.Devices).bind λi=>(Zon a fuel (Zb.mk b c d f a.Topology.Tolerate) (Zp.mk g i) [] 0).bind λ(k,l,m)=>(Zoo a fuel k l ([]:(List Yd)) 0).bind λ(o,p,q)=>(Zop a fuel o p ([]:(List Ya)) 0).bind λ(s,t,u)=>some (Z0.mk s t m q u)
def Zo7 (a:Int):Option Unit:=(some (decide (a<1))).bind λb=>if(b||(decide (a>64)))=true then some ()else none
def Zji (a:Z0) (b:Int):Option (Z0×Int×(Int×(List (Zgc×Zfp)))):=(Zdt a).bind λd=>if(!d)=true then none else (some (decide (b<0))).bind λf=>if(f||(decide (b≥(a.Topology.Devices.length:Int))))=true then none else if(Zfz 64).isSome=true then (Zfz 64).bind λc=>(Zo6 a).bind λg=>some (g,b,(c.1,c.2))else (Zo7 64).bind λ_=>none
def Zjj (a:Zb):Option Bool:=(some (decide ((a.Devices.length:Int)>6))).bind λb=>(some (b||(decide ((a.Links.length:Int)>9)))).bind λc=>(some (c||(decide ((a.Edges.length:Int)>5)))).bind λd=>some (d||(decide ((a.Pools.length:Int)>4)))
def Zim (a:Z0) (b:Int):Option Int:=(Zdt a).bind λc=>if(!c)=true then some (1:Int)else (some (decide (b<0))).bind λd=>if(d||(decide (b≥(a.Topology.Devices.length:Int))))=true then some (2:Int)else if(Zfz 64).isSome=true then (Zfz 64).bind λ_=>(Zo6 a).bind λ_=>none else (Zo7 64).bind λ_=>some (2:Int)
def Zf9 (j:Ya) (a:Z0) (b:Int):Option Bool:=(Ztr j).bind λk=>(Zo1 k 3 2 true).bind λd=>(Zjq d.2 d.1).bind λc=>(Zdt d.1).bind λl=>(Zdm d.1).bind λm=>(some (!(l==m))).bind λn=>(if n=true then some true else (Zdt c.1).bind λo=>(Zdm c.1).bind λp=>some (!(o==p))).bind λq=>if q=true then some false else if(Zji c.1 b).isSome=true then (Zji c.1 b).bind λ_=>(Zdm c.1).bind λf=>(some (!f)).bind λr=>if(r&&true)=true then some false else (some f).bind λs=>(if s=true then (some (decide (b<0))).bind λt=>some (t||(decide (b≥(c.1.Topology.Devices.length:Int))))else some false).bind λu=>(some u).bind λv=>if(v&&true)=true then some false else (some f).bind λw=>(some (w&&(decide (b≥0)))).bind λx=>(some (x&&(decide (b<(c.1.Topology.Devices.length:Int))))).bind λy=>if(y&&false)=true then some false else (Zjj a.Topology).bind λz=>(some z).bind λa0=>(some (a0||(decide ((a.Configs.length:Int)>8)))).bind λa1=>(some (a1||(decide ((a.Routes.length:Int)>8)))).bind λa2=>(some (a2||(decide ((a.Labels.length:Int)>8)))).bind λa3=>(some (a3||(decide ((a.Failure.Links.length:Int)>30)))).bind λa4=>if(a4||(decide ((a.Failure.Devices.length:Int)>30)))=true then (Zix).bind λa5=>some a5 else (Zdt a).bind λa6=>(Zdm a).bind λa7=>(some (a6==a7)).bind λa8=>(if a8=true then (Zix).bind λa9=>some a9 else some false).bind λb0=>some b0 else (Zim c.1 b).bind λg=>(Zdm c.1).bind λi=>(some (!i)).bind λb1=>(if b1=true then (some (g !=(1:Int))).bind λb2=>some (b2||false)else some false).bind λb3=>if b3=true then some false else (some i).bind λb4=>(if b4=true then (some (decide (b<0))).bind λb5=>some (b5||(decide (b≥(c.1.Topology.Devices.length:Int))))else some false).bind λb6=>(some b6).bind λb7=>(if b7=true then (some (g !=(2:Int))).bind λb8=>some (b8||false)else some false).bind λb9=>if b9=true then some false else (some i).bind λc0=>(some (c0&&(decide (b≥0)))).bind λc1=>(some (c1&&(decide (b<(c.1.Topology.Devices.length:Int))))).bind λc2=>(if c2=true then (some (g !=(0:Int))).bind λc3=>some (c3||true)else some false).bind λc4=>if c4=true then some false else (Zjj a.Topology).bind λc5=>(some c5).bind λc6=>(some (c6||(decide ((a.Configs.length:Int)>8)))).bind λc7=>(some (c7||(decide ((a.Routes.length:Int)>8)))).bind λc8=>(some (c8||(decide ((a.Labels.length:Int)>8)))).bind λc9=>(some (c9||(decide ((a.Failure.Links.length:Int)>30)))).bind λd0=>if(d0||(decide ((a.Failure.Devices.length:Int)>30)))=true then (Zix).bind λd1=>some d1 else (Zdt a).bind λd2=>(Zdm a).bind λd3=>(some (d2==d3)).bind λd4=>(if d4=true then (Zix).bind λd5=>some d5 else some false).bind λd6=>some d6
def Zse (b:Ya):Nat→Int→Int→Option Int
 |0,_,_=>none
 |d+1,c,a=>if decide (a<(b.length:Int))=true then (if((Int.tmod a (2:Int))==0)=true then (idx b a).bind λf=>some (wrap .u64 (c+(bShl .u64 (wrap .u64 f) (8:Int))))else (idx b a).bind λg=>some (wrap .u64 (c+(wrap .u64 g)))).bind λi=>Zse b d i (wrap .i64 (a+1))else some c
def Zsf:Nat→Int→Option Int
 |0,_=>none
 |b+1,a=>if decide (a>65535)=true then Zsf b (wrap .u64 ((bShr .u64 a (16:Int))+(bAnd .u64 a (65535:Int))))else some a
def Z2g (a:Ya):Option Int:=(Zse a fuel 0 0).bind λb=>(Zsf fuel b).bind λc=>some (wrap .u16 (wrap .u64 ((65535:Int)-c)))
def Zt2 (b:Ya):Nat→Int→Int→Option Int
 |0,_,_=>none
 |f+1,c,a=>if decide (a<(b.length:Int))=true then ((idx b a).bind λd=>if((Int.tmod a (2:Int))==0)=true then some (wrap .u64 (c+(bShl .u64 (wrap .u64 d) (8:Int))))else some (wrap .u64 (c+(wrap .u64 d)))).bind λg=>Zt2 b f g (wrap .i64 (a+1))else some c
def Zt3:Nat→Int→Option Int
 |0,_=>none
 |b+1,a=>if decide (a>65535)=true then Zt3 b (wrap .u64 ((bShr .u64 a (16:Int))+(bAnd .u64 a (65535:Int))))else some a
def Z4z (a:Ya):Option Int:=(Zt2 a fuel 0 0).bind λb=>(Zt3 fuel b).bind λc=>some (bXor .u16 (65535:Int) (wrap .u16 c))
end
end Go.AM

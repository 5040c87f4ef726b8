/- Parts of a proof, printed short. No condition. -/
import Derived.Test.YtkeeaccnnljimaaGreatDoorProg
import Derived.Test.YtkeeaccnnljimaaGreatDoorHpQ2
set_option maxRecDepth 100000
namespace Go.AM
open Go
structure Arr5 (α:Type) where
 x0:α
 x1:α
 x2:α
 x3:α
 x4:α
def Arr5.get {α:Type} (a:Arr5 α) (i:Int):α:=if i=0 then a.x0 else if i=1 then a.x1 else if i=2 then a.x2 else if i=3 then a.x3 else a.x4
def Arr5.set {α:Type} (a:Arr5 α) (i:Int) (v:α):Arr5 α:=if i=0 then { a with x0:=v } else if i=1 then { a with x1:=v } else if i=2 then { a with x2:=v } else if i=3 then { a with x3:=v } else { a with x4:=v }
def Za4 (x:(Arr5 Int)):List PV:=[.sc (.int .u32 x.x0),.sc (.int .u32 x.x1),.sc (.int .u32 x.x2),.sc (.int .u32 x.x3),.sc (.int .u32 x.x4)]
def Zx6 (x:(Arr5 Int)):List Value:=[.int .u32 x.x0,.int .u32 x.x1,.int .u32 x.x2,.int .u32 x.x3,.int .u32 x.x4]
def Zb6 (x:(Arr5 Int)):PV:=.sc (.agg ⟨Zx6 x⟩)
def Zir:(Arr5 Int):=Arr5.mk (0:Int) (0:Int) (0:Int) (0:Int) (0:Int)
def Zx7 (x:(List Int)):List PV:=[.sl 1 (List.map Zag x)]
def Zqg (x:(List Int)):Prop:=x.length≤9223372036854775807∧∀ y∈x,Zrf y
structure Zb where
 Lo:Int
 Hi:Int
abbrev ZB:=Arr5 Zb
abbrev ZL:=List (Arr5 Zb)
def Zl (x:Zb):List PV:=[.sc (.int .u32 x.Lo),.sc (.int .u32 x.Hi)]
def Zuw (x:Zb):List Value:=[.int .u32 x.Lo,.int .u32 x.Hi]
def Zky (x:Zb):PV:=.sc (.agg ⟨Zuw x⟩)
def Zex (x y:Zb):Bool:=((x.Lo == y.Lo) && ((x.Hi == y.Hi) && true))
def Zp:Zb:=Zb.mk (0:Int) (0:Int)
def Za (x:(Arr5 Zb)):List PV:=[.sc (.int .u32 x.x0.Lo),.sc (.int .u32 x.x0.Hi),.sc (.int .u32 x.x1.Lo),.sc (.int .u32 x.x1.Hi),.sc (.int .u32 x.x2.Lo),.sc (.int .u32 x.x2.Hi),.sc (.int .u32 x.x3.Lo),.sc (.int .u32 x.x3.Hi),.sc (.int .u32 x.x4.Lo),.sc (.int .u32 x.x4.Hi)]
def Zrr (x:(Arr5 Zb)):List Value:=[.int .u32 x.x0.Lo,.int .u32 x.x0.Hi,.int .u32 x.x1.Lo,.int .u32 x.x1.Hi,.int .u32 x.x2.Lo,.int .u32 x.x2.Hi,.int .u32 x.x3.Lo,.int .u32 x.x3.Hi,.int .u32 x.x4.Lo,.int .u32 x.x4.Hi]
def Z9 (x:(Arr5 Zb)):PV:=.sc (.agg ⟨Zrr x⟩)
def Zfv (x y:(Arr5 Zb)):Bool:=((Zex x.x0 y.x0) && ((Zex x.x1 y.x1) && ((Zex x.x2 y.x2) && ((Zex x.x3 y.x3) && ((Zex x.x4 y.x4) && true)))))
def Zn:(Arr5 Zb):=Arr5.mk Zp Zp Zp Zp Zp
structure Zkz where
 From:(Arr5 Zb)
 To:(Arr5 Zb)
structure Zo where
 Src:Int
 Dst:Int
 Proto:Int
 SrcPort:Int
 DstPort:Int
def Zk (x:Zo):List PV:=[.sc (.int .u32 x.Src),.sc (.int .u32 x.Dst),.sc (.int .u8 x.Proto),.sc (.int .u16 x.SrcPort),.sc (.int .u16 x.DstPort)]
def Zaq (x:Zo):Prop:=Zja x.Src∧Zja x.Dst∧ok_u8 x.Proto∧Zim x.SrcPort∧Zim x.DstPort∧True
def Znl (x:Zo):List Value:=[.int .u32 x.Src,.int .u32 x.Dst,.int .u8 x.Proto,.int .u16 x.SrcPort,.int .u16 x.DstPort]
def Zcc (x:Zo):PV:=.sc (.agg ⟨Znl x⟩)
def Zec:Zo:=Zo.mk (0:Int) (0:Int) (0:Int) (0:Int) (0:Int)
structure Ze where
 f_l:(List Int)
 f_i:Int
def Zg (x:Ze):List PV:=[.sl 1 (List.map Zag x.f_l),.sc (.int .i64 x.f_i)]
structure Zbl where
 Addr:Int
 Bits:Int
def Zc1 (x:Zbl):List PV:=[.sc (.int .u32 x.Addr),.sc (.int .i64 x.Bits)]
def Zt7 (x:Zbl):List Value:=[.int .u32 x.Addr,.int .i64 x.Bits]
def Zkg (x:Zbl):PV:=.sc (.agg ⟨Zt7 x⟩)
def Zux:Zbl:=Zbl.mk (0:Int) (0:Int)
def Zq (x:(List (Arr5 Zb))):List PV:=[.sl 10 (List.map Za x)]
structure Zj where
 f_err:Int
def Zm (x:Zj):List PV:=[.sc (.int .i64 x.f_err)]
def Zdu:Zj:=Zj.mk (0:Int)
structure Zh where
 f_values:Zb
 f_rest:(List (Arr5 Zb))
def Zd (x:Zh):List PV:=[.sc (.int .u32 x.f_values.Lo),.sc (.int .u32 x.f_values.Hi),.sl 10 (List.map Za x.f_rest)]
def Zf3:Zh:=Zh.mk Zp ([]:(List (Arr5 Zb)))
structure Z04 where
 f_failed:Bool
structure Zi where
 Match:(Arr5 Zb)
 Addr:Int
 Ports:Zb
def Zf (x:Zi):List PV:=[.sc (.int .u32 x.Match.x0.Lo),.sc (.int .u32 x.Match.x0.Hi),.sc (.int .u32 x.Match.x1.Lo),.sc (.int .u32 x.Match.x1.Hi),.sc (.int .u32 x.Match.x2.Lo),.sc (.int .u32 x.Match.x2.Hi),.sc (.int .u32 x.Match.x3.Lo),.sc (.int .u32 x.Match.x3.Hi),.sc (.int .u32 x.Match.x4.Lo),.sc (.int .u32 x.Match.x4.Hi),.sc (.int .u32 x.Addr),.sc (.int .u32 x.Ports.Lo),.sc (.int .u32 x.Ports.Hi)]
def Zv4 (x:Zi):List Value:=[.int .u32 x.Match.x0.Lo,.int .u32 x.Match.x0.Hi,.int .u32 x.Match.x1.Lo,.int .u32 x.Match.x1.Hi,.int .u32 x.Match.x2.Lo,.int .u32 x.Match.x2.Hi,.int .u32 x.Match.x3.Lo,.int .u32 x.Match.x3.Hi,.int .u32 x.Match.x4.Lo,.int .u32 x.Match.x4.Hi,.int .u32 x.Addr,.int .u32 x.Ports.Lo,.int .u32 x.Ports.Hi]
def Zin (x:Zi):PV:=.sc (.agg ⟨Zv4 x⟩)
def Zhi:Zi:=Zi.mk Zn (0:Int) Zp
def Za5:(Arr5 Int):=Arr5.mk 4294967295 4294967295 255 65535 65535
abbrev ZI:Int→Int:=IntKind.wrap .i64
end Go.AM
set_option maxRecDepth 100000
namespace Go.AM
open Go
def Zh8:Option Bool:=
 some true
def Zjb (a:(List Int)):Option Ze:=
 some (Ze.mk a (0:Int))
def Zg9 (b:Int) (a:Int):Option Int:=
 if (IntKind.wrap .u64 a) ≠ 0 then
 some (IntKind.wrap .i64 (Int.tmod (IntKind.wrap .u64 b) (IntKind.wrap .u64 a)))
 else none
def Zt (a:Ze) (b:Int):Option (Int × Ze):=
 (some (decide (b≤(1:Int)))).bind fun c=>
 if (c || (decide (a.f_i ≥ (List.length a.f_l:Int))))=true then
  some ((0:Int),a)
 else
  (idx a.f_l (IntKind.wrap .i64 ((IntKind.wrap .i64 (a.f_i + (1:Int))) - (1:Int)))).bind fun d=>
  (Zg9 d b).bind fun f=>
  some (f,({ a with f_i:=(IntKind.wrap .i64 (a.f_i + (1:Int))) }:Ze))
def Ze6 (a:Int):Option Int:=
 ((if (a == (0:Int))=true then
  some (a == (0:Int))
 else
  some (a == (1:Int))).bind fun b=>
  if b=true then
   some (.inr (4294967295:Int))
  else
   if (a == (2:Int))=true then
    some (.inr (255:Int))
   else
    (if (a == (3:Int))=true then
     some (a == (3:Int))
    else
     some (a == (4:Int))).bind fun c=>
     if c=true then
      some (.inr (65535:Int))
     else
      some (.inl ())).bind fun(d:(Unit ⊕ Int))=>
 match d with
 | .inl ()=>
   some (0:Int)
 | .inr f=>
   some f
def Zg7:Nat→ZB→Int→Option ZB
 | 0,_,_=>none
 | c+1,b,a=>
  if (decide (a<(5:Int)))=true then
   (Ze6 a).bind fun d=>
   if 0≤a∧a<5 then
   Zg7 c (Arr5.set b a ({ (Arr5.get b a) with Hi:=d }:Zb)) (IntKind.wrap .i64 (a + (1:Int)))
   else none
  else
   some b
def Zha:Option ZB:=
 (Zg7 fuel Zn (0:Int)).bind fun a=>
  some a
def Zco (c:Ze) (a:Int):Option (Int × Ze):=
 (Zt c (17:Int)).bind fun b=>
 (idx [(0:Int),(1:Int),(2:Int),(5:Int),(7:Int),(8:Int),(9:Int),(15:Int),(16:Int),(80:Int),(255:Int),(256:Int),(1024:Int),(65535:Int),(IntKind.wrap .u32 (Int.tdiv a (2:Int))),(IntKind.wrap .u32 (a - (1:Int))),a] b.1).bind fun d=>
 some ((iMin d a),b.2)
def Zfw (a:Int):Option Zbl:=
 (Zg9 a (6:Int)).bind fun b=>
 (idx [(Zbl.mk (167772160:Int) (24:Int)),(Zbl.mk (167772416:Int) (24:Int)),(Zbl.mk (167772672:Int) (25:Int)),(Zbl.mk (167772800:Int) (26:Int)),(Zbl.mk (2886729728:Int) (16:Int)),(Zbl.mk (3232237321:Int) (32:Int))] b).bind fun c=>
 some c
def Zh9 (a:Int):Option Int:=
 if 0≤(IntKind.wrap .u64 (IntKind.wrap .i64 ((32:Int) - a))) then
 some (bShl .u64 (1:Int) (IntKind.wrap .u64 (IntKind.wrap .i64 ((32:Int) - a))))
 else none
def Zjc (a:Zbl):Option Bool:=
 (some (decide (a.Bits ≥ (0:Int)))).bind fun c=>
 (some (c && (decide (a.Bits≤(32:Int))))).bind fun d=>
 (if d=true then
  (Zh9 a.Bits).bind fun b=>
  if b ≠ 0 then
  some ((Int.tmod (IntKind.wrap .u64 a.Addr) b) == (0:Int))
  else none
  else some false).bind fun f=>
 some f
def Zht (a:Zbl):Option (Zb × Bool):=
 (Zjc a).bind fun b=>
 if (!b)=true then
  some ((Zb.mk (0:Int) (0:Int)),false)
 else
  (Zh9 a.Bits).bind fun c=>
  some ((Zb.mk a.Addr (IntKind.wrap .u32 (IntKind.wrap .u64 ((IntKind.wrap .u64 ((IntKind.wrap .u64 a.Addr) + c)) - (1:Int))))),true)
def Zde (d:Ze) (b:ZB):Option (ZB × Ze):=
 (Zt d (5:Int)).bind fun a=>
 ((Zt a.2 (3:Int)).bind fun c=>
 if (c.1 == (0:Int))=true then
  if 0≤a.1∧a.1<5 then
  if 0≤a.1∧a.1<5 then
  if 0≤a.1∧a.1<5 then
  if 0≤a.1∧a.1<5 then
  some (c.2,(Arr5.set (Arr5.set b a.1 ({ (Arr5.get b a.1) with Lo:=(Arr5.get b a.1).Hi }:Zb)) a.1 ({ (Arr5.get (Arr5.set b a.1 ({ (Arr5.get b a.1) with Lo:=(Arr5.get b a.1).Hi }:Zb)) a.1) with Hi:=(Arr5.get b a.1).Lo }:Zb)))
  else none
  else none
  else none
  else none
 else
  if (c.1 == (1:Int))=true then
   if 0≤a.1∧a.1<5 then
   some (c.2,(Arr5.set b a.1 ({ (Arr5.get b a.1) with Hi:=(4294967295:Int) }:Zb)))
   else none
  else
   if 0≤a.1∧a.1<5 then
   some (c.2,(Arr5.set b a.1 (Zb.mk (1:Int) (0:Int))))
   else none).bind fun f=>
 match f with
 | (g,i)=>
  some (i,g)
def Zcp (g:Ze):Option (Int × Ze):=
 (Zt g (5:Int)).bind fun b=>
 if (b.1 == (4:Int))=true then
  (Zt b.2 (6:Int)).bind fun c=>
  (idx [(0:Int),(4294967295:Int),(3405803781:Int),(3325256705:Int),(168296448:Int),(2130706433:Int)] c.1).bind fun i=>
  some (i,c.2)
 else
  (Zt b.2 (6:Int)).bind fun d=>
  (Zfw d.1).bind fun j=>
  (Zht j).bind fun a=>
  (Zt d.2 (5:Int)).bind fun f=>
  (idx [a.1.Lo,a.1.Hi,(IntKind.wrap .u32 (a.1.Lo + (5:Int))),(IntKind.wrap .u32 (a.1.Hi + (1:Int))),(IntKind.wrap .u32 (a.1.Lo - (1:Int)))] f.1).bind fun k=>
  some (k,f.2)
def Zd1 (g:Ze):Option (Zo × Ze):=
 (Zcp g).bind fun a=>
 (Zcp a.2).bind fun b=>
 (Zt b.2 (6:Int)).bind fun c=>
 (idx [(6:Int),(17:Int),(1:Int),(0:Int),(7:Int),(255:Int)] c.1).bind fun i=>
 (Zco c.2 (65535:Int)).bind fun d=>
 (Zco d.2 (65535:Int)).bind fun f=>
 some ((Zo.mk a.1 b.1 i (IntKind.wrap .u16 d.1) (IntKind.wrap .u16 f.1)),f.2)
def Zgf (a:(Arr5 Int)):Option Zo:=
 some (Zo.mk a.x0 a.x1 (IntKind.wrap .u8 a.x2) (IntKind.wrap .u16 a.x3) (IntKind.wrap .u16 a.x4))
def Zbn (b:ZB):Nat→Ze→(Arr5 Int)→Int→Option (Ze × (Arr5 Int))
 | 0,_,_,_=>none
 | i+1,d,c,a=>
  if (decide (a<(5:Int)))=true then
   if 0≤a∧a<5 then
   if 0≤a∧a<5 then
   if 0≤a∧a<5 then
   if 0≤a∧a<5 then
   if 0≤a∧a<5 then
   if 0≤a∧a<5 then
   if 0≤a∧a<5 then
   (Zt d (5:Int)).bind fun f=>
   (idx [(Arr5.get b a).Lo,(Arr5.get b a).Hi,(IntKind.wrap .u32 ((Arr5.get b a).Lo - (1:Int))),(IntKind.wrap .u32 ((Arr5.get b a).Hi + (1:Int))),(IntKind.wrap .u32 ((Arr5.get b a).Lo + (IntKind.wrap .u32 (Int.tdiv (IntKind.wrap .u32 ((Arr5.get b a).Hi - (Arr5.get b a).Lo)) (2:Int)))))] f.1).bind fun g=>
   if 0≤a∧a<5 then
   if 0≤a∧a<5 then
   (Ze6 a).bind fun j=>
   if 0≤a∧a<5 then
   Zbn b i f.2 (Arr5.set (Arr5.set c a g) a (iMin (Arr5.get (Arr5.set c a g) a) j)) (IntKind.wrap .i64 (a + (1:Int)))
   else none
   else none
   else none
   else none
   else none
   else none
   else none
   else none
   else none
   else none
  else
   some (d,c)
def Zfm (c:Ze) (a:ZL):Option (Zo × Ze):=
 (some ((List.length a:Int) == (0:Int))).bind fun i=>
 (if i=true then some (true,c) else
  (Zt c (4:Int)).bind fun d=>
  some ((d.1 == (3:Int)),d.2)
  ).bind fun b=>
 if b.1=true then
  (Zd1 b.2).bind fun f=>
  some (f.1,f.2)
 else
  (Zt b.2 (List.length a:Int)).bind fun g=>
  (idx a g.1).bind fun j=>
  (Zbn j fuel g.2 Zir (0:Int)).bind fun k=>
  match k with
  | (l,m)=>
   (Zgf m).bind fun n=>
   some (n,l)
def Zar (b:ZB):Nat→Int→Option (Unit ⊕ Bool)
 | 0,_=>none
 | c+1,a=>
  if (decide (a<(5:Int)))=true then
   if 0≤a∧a<5 then
   (some (decide ((Arr5.get b a).Lo > (Arr5.get b a).Hi))).bind fun d=>
   (if d=true then some true else
    if 0≤a∧a<5 then
    some (decide ((Arr5.get b a).Hi > (Arr5.get Za5 a)))
    else none
    ).bind fun f=>
   if f=true then
    some (.inr false)
   else
    Zar b c (IntKind.wrap .i64 (a + (1:Int)))
   else none
  else
   some (.inl ())
def Zgc (a:ZB):Option Bool:=
 (Zar a fuel (0:Int)).bind fun(b:(Unit ⊕ Bool))=>
 match b with
 | .inl ()=>
   some true
 | .inr c=>
   some c
def Zaa (b:ZB):Nat→Int→Option (Unit ⊕ Bool)
 | 0,_=>none
 | c+1,a=>
  if (decide (a<(5:Int)))=true then
   if 0≤a∧a<5 then
   if 0≤a∧a<5 then
   (some (decide ((Arr5.get b a).Lo > (Arr5.get b a).Hi))).bind fun d=>
   (if d=true then some true else
    if 0≤a∧a<5 then
    (Ze6 a).bind fun f=>
    some (decide ((Arr5.get b a).Hi > f))
    else none
    ).bind fun g=>
   if g=true then
    some (.inr false)
   else
    Zaa b c (IntKind.wrap .i64 (a + (1:Int)))
   else none
   else none
  else
   some (.inl ())
def Zdq (a:ZB):Option Bool:=
 (Zaa a fuel (0:Int)).bind fun(b:(Unit ⊕ Bool))=>
 match b with
 | .inl ()=>
   some true
 | .inr c=>
   some c
def Zb7 (b:ZB) (c:ZB):Nat→ZB→Int→Option ZB
 | 0,_,_=>none
 | f+1,d,a=>
  if (decide (a<(5:Int)))=true then
   if 0≤a∧a<5 then
   if 0≤a∧a<5 then
   if 0≤a∧a<5 then
   if 0≤a∧a<5 then
   if 0≤a∧a<5 then
   Zb7 b c f (Arr5.set d a (Zb.mk (iMax ((Arr5.get b a).Lo) ((Arr5.get c a).Lo)) (iMin ((Arr5.get b a).Hi) ((Arr5.get c a).Hi)))) (IntKind.wrap .i64 (a + (1:Int)))
   else none
   else none
   else none
   else none
   else none
  else
   some d
def Zfb (a:ZB) (b:ZB):Option (ZB × Bool):=
 (Zb7 a b fuel Zn (0:Int)).bind fun c=>
  (Zdq a).bind fun d=>
  (some (!d)).bind fun f=>
  (if f=true then some true else
   (Zdq b).bind fun g=>
   some (!g)
   ).bind fun i=>
  (some i).bind fun j=>
  (if j=true then some true else
   (Zdq c).bind fun k=>
   some (!k)
   ).bind fun l=>
  if l=true then
   some ((Arr5.mk Zp Zp Zp Zp Zp),false)
  else
   some (c,true)
def Zhu (a:Zo):Option (Arr5 Int):=
 some (Arr5.mk a.Src a.Dst (IntKind.wrap .u32 a.Proto) (IntKind.wrap .u32 a.SrcPort) (IntKind.wrap .u32 a.DstPort))
def Zdf (b:ZB) (c:(Arr5 Int)):Nat→Int→Option (Unit ⊕ Bool)
 | 0,_=>none
 | d+1,a=>
  if (decide (a<(5:Int)))=true then
   if 0≤a∧a<5 then
   if 0≤a∧a<5 then
   (some (decide ((Arr5.get c a)<(Arr5.get b a).Lo))).bind fun f=>
   (if f=true then some true else
    if 0≤a∧a<5 then
    some (decide ((Arr5.get c a) > (Arr5.get b a).Hi))
    else none
    ).bind fun g=>
   if g=true then
    some (.inr false)
   else
    Zdf b c d (IntKind.wrap .i64 (a + (1:Int)))
   else none
   else none
  else
   some (.inl ())
def Zgd (a:ZB) (b:Zo):Option Bool:=
 (Zgc a).bind fun c=>
 if (!c)=true then
  some false
 else
  (Zhu b).bind fun d=>
  (Zdf a d fuel (0:Int)).bind fun(f:(Unit ⊕ Bool))=>
  match f with
  | .inl ()=>
    some true
  | .inr g=>
    some g
def Zfx (a:Zo):Option (Arr5 Int):=
 some (Arr5.mk a.Src a.Dst (IntKind.wrap .u32 a.Proto) (IntKind.wrap .u32 a.SrcPort) (IntKind.wrap .u32 a.DstPort))
def Zci (b:ZB) (c:(Arr5 Int)):Nat→Int→Option (Unit ⊕ Bool)
 | 0,_=>none
 | d+1,a=>
  if (decide (a<(5:Int)))=true then
   if 0≤a∧a<5 then
   if 0≤a∧a<5 then
   (some (decide ((Arr5.get c a)<(Arr5.get b a).Lo))).bind fun f=>
   (if f=true then some true else
    if 0≤a∧a<5 then
    if 0≤a∧a<5 then
    some (decide ((Arr5.get c a) > (Arr5.get b a).Hi))
    else none
    else none
    ).bind fun g=>
   if g=true then
    some (.inr false)
   else
    Zci b c d (IntKind.wrap .i64 (a + (1:Int)))
   else none
   else none
  else
   some (.inl ())
def Zfn (a:ZB) (b:Zo):Option Bool:=
 (Zfx b).bind fun c=>
 (Zci a c fuel (0:Int)).bind fun(d:(Unit ⊕ Bool))=>
 match d with
 | .inl ()=>
   (Zdq a).bind fun f=>
   some f
 | .inr g=>
   some g
def Zoa (a:(Arr5 Int)):Option Zo:=
 some (Zo.mk a.x0 a.x1 (IntKind.wrap .u8 a.x2) (IntKind.wrap .u16 a.x3) (IntKind.wrap .u16 a.x4))
def Zey (b:(Arr5 Int)):Nat→ZB→Int→Option ZB
 | 0,_,_=>none
 | d+1,c,a=>
  if (decide (a<(5:Int)))=true then
   if 0≤a∧a<5 then
   if 0≤a∧a<5 then
   if 0≤a∧a<5 then
   Zey b d (Arr5.set c a (Zb.mk (Arr5.get b a) (Arr5.get b a))) (IntKind.wrap .i64 (a + (1:Int)))
   else none
   else none
   else none
  else
   some c
def Zhv (a:Zo):Option ZB:=
 (Zfx a).bind fun b=>
 (Zey b fuel Zn (0:Int)).bind fun c=>
  some c
def Zcl (g:Ze):Option (Zb × Ze):=
 (Zt g (4:Int)).bind fun a=>
 if (a.1 == (0:Int))=true then
  (Zt a.2 (6:Int)).bind fun f=>
  (Zfw f.1).bind fun i=>
  (Zht i).bind fun j=>
  some (j.1,f.2)
 else
  if (a.1 == (1:Int))=true then
   (Zcp a.2).bind fun b=>
   (Zcp b.2).bind fun c=>
   some ((Zb.mk (iMin b.1 c.1) (iMax b.1 c.1)),c.2)
  else
   if (a.1 == (2:Int))=true then
    (Zcp a.2).bind fun d=>
    some ((Zb.mk d.1 d.1),d.2)
   else
    some ((Zb.mk (0:Int) (4294967295:Int)),a.2)
def Zdi (d:Ze) (c:Int):Option (Zb × Ze):=
 (Zco d c).bind fun a=>
 (Zco a.2 c).bind fun b=>
 some ((Zb.mk (iMin a.1 b.1) (iMax a.1 b.1)),b.2)
def Zcq:Nat→Ze→ZB→Int→Option (Ze × ZB)
 | 0,_,_,_=>none
 | m+1,c,b,d=>
  if (decide (d > (0:Int)))=true then
   ((Zt c (5:Int)).bind fun a=>
   if (a.1 == (0:Int))=true then
    (Zcl a.2).bind fun f=>
    some (f.2,({ b with x0:=f.1 }:ZB))
   else
    if (a.1 == (1:Int))=true then
     (Zcl a.2).bind fun g=>
     some (g.2,({ b with x1:=g.1 }:ZB))
    else
     if (a.1 == (2:Int))=true then
      (Zt a.2 (6:Int)).bind fun i=>
      (idx [(6:Int),(17:Int),(1:Int),(0:Int),(7:Int),(255:Int)] i.1).bind fun j=>
      some (i.2,({ b with x2:=(Zb.mk j j) }:ZB))
     else
      if (a.1 == (3:Int))=true then
       (Zdi a.2 (65535:Int)).bind fun k=>
       some (k.2,({ b with x3:=k.1 }:ZB))
      else
       (Zdi a.2 (65535:Int)).bind fun l=>
       some (l.2,({ b with x4:=l.1 }:ZB))).bind fun n=>
   match n with
   | (o,p)=>
    Zcq m o p (IntKind.wrap .i64 (d - (1:Int)))
  else
   some (c,b)
def Zf4 (b:Ze):Option (ZB × Ze):=
 (Zha).bind fun c=>
 (Zt b (3:Int)).bind fun a=>
 (Zcq fuel a.2 c (IntKind.wrap .i64 ((1:Int) + a.1))).bind fun d=>
 match d with
 | (f,g)=>
  some (g,f)
def Zb8 (d:Bool):Nat→Ze→ZL→Int→Option (Ze × ZL)
 | 0,_,_,_=>none
 | l+1,f,b,g=>
  if (decide (g > (0:Int)))=true then
   ((Zf4 f).bind fun a=>
   ((some d).bind fun m=>
   (if m=true then
    (Zt a.2 (8:Int)).bind fun i=>
    some ((i.1 == (7:Int)),i.2)
    else some (false,a.2)).bind fun c=>
   if c.1=true then
    (Zde c.2 a.1).bind fun j=>
    some (j.2,j.1)
   else
    some (c.2,a.1)).bind fun n=>
   match n with
   | (o,k)=>
    if List.length b + List.length [k]≤lim then
    some (o,(b++[k]))
    else none).bind fun p=>
   match p with
   | (q,r)=>
    Zb8 d l q r (IntKind.wrap .i64 (g - (1:Int)))
  else
   some (f,b)
def Zfc (b:Ze) (c:Int) (d:Bool):Option (ZL × Ze):=
 (Zt b (IntKind.wrap .i64 (c + (1:Int)))).bind fun a=>
 (Zb8 d fuel a.2 ([]:ZL) a.1).bind fun f=>
 match f with
 | (g,i)=>
  some (i,g)
def Zgv (c:Int) (a:Bool) (b:Bool):Option Bool:=
 if (c == (0:Int))=true then
  (some a).bind fun d=>
  some (d || b)
 else
  if (c == (1:Int))=true then
   (some a).bind fun f=>
   some (f && b)
  else
   if (c == (2:Int))=true then
    (some a).bind fun g=>
    some (g && (!b))
   else
    some (!(a == b))
def Zhb (b:Int) (a:Bool) (c:Bool):Option Bool:=
 if (b == (1:Int))=true then
  (some (!a)).bind fun d=>
  some (d || (!c))
 else
  if (b == (2:Int))=true then
   some (!a)
  else
   (some (!a)).bind fun f=>
   some (f && (!c))
def Zdj (b:ZL) (a:Int):Nat→(List Zb)→Int→Option (List Zb)
 | 0,_,_=>none
 | g+1,c,d=>
  if (decide (d<(List.length b:Int)))=true then
   (idx b d).bind fun f=>
   if 0≤a∧a<5 then
   if List.length c + List.length [(Arr5.get f a)]≤lim then
   Zdj b a g (c++[(Arr5.get f a)]) (IntKind.wrap .i64 (d + (1:Int)))
   else none
   else none
  else
   some c
def Zdk (b:ZL) (a:Int):Nat→(List Zb)→Int→Option (List Zb)
 | 0,_,_=>none
 | g+1,c,d=>
  if (decide (d<(List.length b:Int)))=true then
   (idx b d).bind fun f=>
   if 0≤a∧a<5 then
   if List.length c + List.length [(Arr5.get f a)]≤lim then
   Zdk b a g (c++[(Arr5.get f a)]) (IntKind.wrap .i64 (d + (1:Int)))
   else none
   else none
  else
   some c
def Zgg (b:ZL) (c:ZL) (a:Int):Option (List Zb):=
 (Zdj b a fuel ([]:(List Zb)) (0:Int)).bind fun d=>
  (Zdk c a fuel d (0:Int)).bind fun f=>
   some f
def Zdl (b:(List Int)) (c:Int):Nat→Int→Option Int
 | 0,_=>none
 | d+1,a=>
  (some (decide (a<(List.length b:Int)))).bind fun f=>
  (if f=true then
   (idx b a).bind fun g=>
   some (decide (g<c))
   else some false).bind fun i=>
  if i=true then
   Zdl b c d (IntKind.wrap .i64 (a + (1:Int)))
  else
   some a
def Zfg (a:(List Int)) (c:Int) (d:Int):Option (List Int):=
 if (decide (c > (IntKind.wrap .u64 d)))=true then
  some a
 else
  (Zdl a c fuel (0:Int)).bind fun b=>
   (some (decide (b<(List.length a:Int)))).bind fun f=>
   (if f=true then
    (idx a b).bind fun g=>
    some (g == c)
    else some false).bind fun i=>
   if i=true then
    some a
   else
    if 0≤(0:Int)∧(0:Int)≤b∧b≤(List.length a:Int) then
    if List.length ([]:(List Int)) + List.length (List.drop (Int.toNat (0:Int)) (List.take (Int.toNat b) a))≤lim then
    if List.length (([]:(List Int))++(List.drop (Int.toNat (0:Int)) (List.take (Int.toNat b) a))) + List.length [c]≤lim then
    if 0≤b∧b≤(List.length a:Int)∧(List.length a:Int)≤(List.length a:Int) then
    if List.length ((([]:(List Int))++(List.drop (Int.toNat (0:Int)) (List.take (Int.toNat b) a)))++[c]) + List.length (List.drop (Int.toNat b) (List.take (Int.toNat (List.length a:Int)) a))≤lim then
    some (((([]:(List Int))++(List.drop (Int.toNat (0:Int)) (List.take (Int.toNat b) a)))++[c])++(List.drop (Int.toNat b) (List.take (Int.toNat (List.length a:Int)) a)))
    else none
    else none
    else none
    else none
    else none
def Zdm (a:(List Zb)) (c:Int):Nat→(List Int)→Int→Option (List Int)
 | 0,_,_=>none
 | f+1,d,b=>
  if (decide (b<(List.length a:Int)))=true then
   ((idx a b).bind fun g=>
   (idx a b).bind fun i=>
   if (decide (g.Lo≤i.Hi))=true then
    (idx a b).bind fun j=>
    (Zfg d (IntKind.wrap .u64 j.Lo) c).bind fun k=>
    (idx a b).bind fun l=>
    (Zfg k (IntKind.wrap .u64 ((IntKind.wrap .u64 l.Hi) + (1:Int))) c).bind fun m=>
    some m
   else
    some d).bind fun n=>
    Zdm a c f n (IntKind.wrap .i64 (b + (1:Int)))
  else
   some d
def Zgh (a:(List Zb)) (b:Int):Option (List Int):=
 (Zdm a b fuel [(0:Int)] (0:Int)).bind fun c=>
  some c
def Zez (b:ZL) (a:Int) (f:Int):Nat→ZL→Int→Option ZL
 | 0,_,_=>none
 | i+1,d,c=>
  if (decide (c<(List.length b:Int)))=true then
   ((idx b c).bind fun j=>
   if 0≤a∧a<5 then
   (some (decide ((IntKind.wrap .u64 (Arr5.get j a).Lo)≤f))).bind fun k=>
   (if k=true then
    (idx b c).bind fun l=>
    if 0≤a∧a<5 then
    some (decide (f≤(IntKind.wrap .u64 (Arr5.get l a).Hi)))
    else none
    else some false).bind fun m=>
   if m=true then
    (idx b c).bind fun g=>
    if List.length d + List.length [g]≤lim then
    some (d++[g])
    else none
   else
    some d
   else none).bind fun n=>
    Zez b a f i n (IntKind.wrap .i64 (c + (1:Int)))
  else
   some d
def Zhc (a:ZL) (b:Int) (c:Int):Option ZL:=
 (Zez a b c fuel ([]:ZL) (0:Int)).bind fun d=>
  some d
def Zd4 (b:ZL) (c:ZL):Nat→Int→Option (Unit ⊕ Bool)
 | 0,_=>none
 | d+1,a=>
  if (decide (a<(List.length b:Int)))=true then
   (idx b a).bind fun f=>
   (idx c a).bind fun g=>
   if (!(Zfv f g))=true then
    some (.inr false)
   else
    Zd4 b c d (IntKind.wrap .i64 (a + (1:Int)))
  else
   some (.inl ())
def Zge (a:ZL) (b:ZL):Option Bool:=
 if ((List.length a:Int) != (List.length b:Int))=true then
  some false
 else
  (Zd4 a b fuel (0:Int)).bind fun(c:(Unit ⊕ Bool))=>
  match c with
  | .inl ()=>
    some true
  | .inr d=>
    some d
def Zdv (a:Int) (d:Int):Nat→ZL→Int→Option ZL
 | 0,_,_=>none
 | g+1,b,c=>
  if (decide (c<(List.length b:Int)))=true then
   (idx b c).bind fun f=>
   if 0≤a∧a<5 then
   Zdv a d g (List.set b (Int.toNat c) (Arr5.set f a ({ (Arr5.get f a) with Hi:=(IntKind.wrap .u32 d) }:Zb))) (IntKind.wrap .i64 (c + (1:Int)))
   else none
  else
   some b
def Zc4 (a:Int) (g:(List Int)) (i:Int) (b:Int) (c:ZL):Nat→ZL→Int→Option ZL
 | 0,_,_=>none
 | l+1,d,f=>
  if (decide (f<(List.length c:Int)))=true then
   (idx c f).bind fun j=>
   (idx g i).bind fun k=>
   if 0≤a∧a<5 then
   if List.length d + List.length [(Arr5.set j a (Zb.mk (IntKind.wrap .u32 k) (IntKind.wrap .u32 b)))]≤lim then
   Zc4 a g i b c l (d++[(Arr5.set j a (Zb.mk (IntKind.wrap .u32 k) (IntKind.wrap .u32 b)))]) (IntKind.wrap .i64 (f + (1:Int)))
   else none
   else none
  else
   some d
def Zdw (g:ZL) (i:ZL) (j:Int) (b:Int) (k:ZL→ZL→Int→Int→Option ZL) (c:(List Int)):Nat→ZL→ZL→Int→Option ZL
 | 0,_,_,_=>none
 | n+1,f,l,a=>
  if (decide (a<(List.length c:Int)))=true then
   ((Ze6 b).bind fun o=>
   (if (decide ((IntKind.wrap .i64 (a + (1:Int)))<(List.length c:Int)))=true then
    (idx c (IntKind.wrap .i64 (a + (1:Int)))).bind fun p=>
    some (IntKind.wrap .u64 (p - (1:Int)))
   else
    some (IntKind.wrap .u64 o)).bind fun m=>
    (idx c a).bind fun q=>
    (Zhc g b q).bind fun r=>
    (idx c a).bind fun s=>
    (Zhc i b s).bind fun t=>
    (k r t j (IntKind.wrap .i64 (b + (1:Int)))).bind fun d=>
    (some (decide (a > (0:Int)))).bind fun u=>
    (some (u && (decide ((List.length d:Int) > (0:Int))))).bind fun v=>
    (if v=true then
     (Zge d l).bind fun w=>
     some w
     else some false).bind fun x=>
    if x=true then
     (Zdv b m fuel f (IntKind.wrap .i64 ((List.length f:Int) - (List.length d:Int)))).bind fun y=>
      some (y,l)
    else
     (Zc4 b c a m d fuel f (0:Int)).bind fun z=>
      some (z,d)).bind fun a0=>
   match a0 with
   | (a1,a2)=>
    Zdw g i j b k c n a1 a2 (IntKind.wrap .i64 (a + (1:Int)))
  else
   some f
def Zcd:Nat→ZL→ZL→Int→Int→Option ZL
 | 0,_,_,_,_=>none
 | nr+1,a,b,d,c=>
  if (c == (5:Int))=true then
   (Zgv d (decide ((List.length a:Int) > (0:Int))) (decide ((List.length b:Int) > (0:Int)))).bind fun f=>
   if f=true then
    some [(Arr5.mk Zp Zp Zp Zp Zp)]
   else
    some ([]:ZL)
  else
   (Zhb d (decide ((List.length a:Int) > (0:Int))) (decide ((List.length b:Int) > (0:Int)))).bind fun g=>
   if g=true then
    some ([]:ZL)
   else
    (Zgg a b c).bind fun i=>
    (Ze6 c).bind fun j=>
    (Zgh i j).bind fun k=>
    (Zdw a b d c (Zcd nr) k fuel ([]:ZL) ([]:ZL) (0:Int)).bind fun l=>
     some l
def Zcy (a:ZB):Option Bool:=
 (Zgc a).bind fun b=>
 some (!b)
def Z5 (b:Nat) (c:ZL):Nat→Int→Option (Unit ⊕ Int)
 | 0,_=>none
 | d+1,a=>
  if (decide (a<(b:Int)))=true then
   (idxn b c a).bind fun f=>
   (Zcy f).bind fun g=>
   if g=true then
    some (.inr a)
   else
    Z5 b c d (IntKind.wrap .i64 (a + (1:Int)))
  else
   some (.inl ())
def Zbq (a:Nat) (b:ZL):Option Int:=
 (Z5 a b fuel (0:Int)).bind fun(c:(Unit ⊕ Int))=>
 match c with
 | .inl ()=>
   some (-1:Int)
 | .inr d=>
   some d
def Z4 (c:Nat):Nat→ZL→Int→Int→Option (ZL × Int)
 | 0,_,_,_=>none
 | g+1,a,b,d=>
  if (decide (d<(c:Int)))=true then
   ((idxn c a d).bind fun f=>
   (Zcy f).bind fun i=>
   if (!i)=true then
    (idxn c a b).bind fun _=>
    some ((List.set a (Int.toNat b) f),(IntKind.wrap .i64 (b + (1:Int))))
   else
    some (a,b)).bind fun j=>
   match j with
   | (k,l)=>
    Z4 c g k l (IntKind.wrap .i64 (d + (1:Int)))
  else
   some (a,b)
def Zav (b:Nat) (c:ZL):Option (Nat × ZL):=
 (Zbq b c).bind fun d=>
 if (d == (-1:Int))=true then
  some (b,c)
 else
  (Z4 b fuel c d (IntKind.wrap .i64 (d + (1:Int)))).bind fun g=>
  match g with
  | (f,a)=>
   if 0≤a∧a≤(b:Int)∧(b:Int)≤(b:Int) then
   if Int.toNat a + (Int.toNat (b:Int) - Int.toNat a)≤List.length f then
   if 0≤(0:Int)∧(0:Int)≤a∧a≤(b:Int) then
   some ((Int.toNat a),(List.take (Int.toNat a) f++List.replicate (Int.toNat (b:Int) - Int.toNat a) Zn++List.drop (Int.toNat a + (Int.toNat (b:Int) - Int.toNat a)) f))
   else none
   else none
   else none
def Zba (b:ZL):Nat→Int→Option (Unit ⊕ Int)
 | 0,_=>none
 | c+1,a=>
  if (decide (a<(List.length b:Int)))=true then
   (idx b a).bind fun d=>
   (Zcy d).bind fun f=>
   if f=true then
    some (.inr a)
   else
    Zba b c (IntKind.wrap .i64 (a + (1:Int)))
  else
   some (.inl ())
def Zcj (a:ZL):Option Int:=
 (Zba a fuel (0:Int)).bind fun(b:(Unit ⊕ Int))=>
 match b with
 | .inl ()=>
   some (-1:Int)
 | .inr c=>
   some c
def Zaw:Nat→Int→Int→Option Int
 | 0,_,_=>none
 | c+1,b,a=>
  if (decide (a<(List.length ([]:ZL):Int)))=true then
   ((idx ([]:ZL) a).bind fun d=>
   (Zcy d).bind fun f=>
   if (!f)=true then
    none
   else
    some ()).bind fun g=>
   match g with
   | ()=>
    Zaw c b (IntKind.wrap .i64 (a + (1:Int)))
  else
   some b
def Zb1:Option ZL:=
 (Zcj ([]:ZL)).bind fun a=>
 if (a == (-1:Int))=true then
  some ([]:ZL)
 else
  (Zaw fuel a (IntKind.wrap .i64 (a + (1:Int)))).bind fun _=>
   none
def Ze4 (a:ZL):Option ZL:=
 if List.length a≤lim then
 (handB a (Zav (List.length a) a) (Zb1)).bind fun b=>
 some (List.take b.1 b.2)
 else none
def Zbv (d:Int) (b:Int):Nat→ZL→Int→Option ZL
 | 0,_,_=>none
 | f+1,c,a=>
  if (decide (a≤d))=true then
   (idx c b).bind fun g=>
   if 0≤a∧a<5 then
   Zbv d b f (List.set c (Int.toNat b) (Arr5.set g a (Zb.mk (0:Int) (0:Int)))) (IntKind.wrap .i64 (a + (1:Int)))
   else none
  else
   some c
def Zda (b:Int) (c:ZL):Nat→ZL→Int→Option ZL
 | 0,_,_=>none
 | f+1,d,a=>
  if (decide (a<(List.length c:Int)))=true then
   (Zbv b a fuel d (0:Int)).bind fun g=>
    Zda b c f g (IntKind.wrap .i64 (a + (1:Int)))
  else
   some d
def Zf5 (b:Int) (a:ZL):Option ZL:=
 if List.length a≤lim then
 (Zda b a fuel a (0:Int)).bind fun c=>
  some c
 else none
def Za0 (b:ZL) (c:ZL):Nat→Int→Option (Unit ⊕ Bool)
 | 0,_=>none
 | d+1,a=>
  if (decide (a<(List.length b:Int)))=true then
   (idx b a).bind fun f=>
   (idx c a).bind fun g=>
   if (!(Zfv f g))=true then
    some (.inr false)
   else
    Za0 b c d (IntKind.wrap .i64 (a + (1:Int)))
  else
   some (.inl ())
def Zan (a:ZL) (b:ZL):Option Bool:=
 if ((List.length a:Int) != (List.length b:Int))=true then
  some false
 else
  (Za0 a b fuel (0:Int)).bind fun(c:(Unit ⊕ Bool))=>
  match c with
  | .inl ()=>
    some true
  | .inr d=>
    some d
def Zcv (a:Int) (b:ZL):Nat→Int→Option Int
 | 0,_=>none
 | d+1,c=>
  (some (decide (c<(List.length b:Int)))).bind fun f=>
  (if f=true then
   (idx b c).bind fun g=>
   if 0≤a∧a<5 then
   (idx b (0:Int)).bind fun i=>
   if 0≤a∧a<5 then
   some (Zex (Arr5.get g a) (Arr5.get i a))
   else none
   else none
   else some false).bind fun j=>
  if j=true then
   Zcv a b d (IntKind.wrap .i64 (c + (1:Int)))
  else
   some c
def Zb9 (b:Int) (g:Int→ZL→Option Bool):Nat→Zh→ZL→Option (Zh ⊕ Bool)
 | 0,_,_=>none
 | j+1,d,a=>
  if (decide ((List.length a:Int) > (0:Int)))=true then
   (Zcv b a fuel (1:Int)).bind fun c=>
    (idx a (0:Int)).bind fun f=>
    if 0≤b∧b<5 then
    if 0≤(0:Int)∧(0:Int)≤c∧c≤(List.length a:Int) then
    (Zf5 b (List.drop (Int.toNat (0:Int)) (List.take (Int.toNat c) a))).bind fun i=>
    if 0≤(0:Int)∧(0:Int)≤c∧c≤(List.length a:Int) then
    (g (IntKind.wrap .i64 (b + (1:Int))) (List.drop (Int.toNat (0:Int)) (List.take (Int.toNat c) a))).bind fun k=>
    if (!k)=true then
     some (.inr false)
    else
     (if (decide ((List.length d.f_rest:Int) > (0:Int)))=true then
      (some (decide ((Arr5.get f b).Lo≤d.f_values.Hi))).bind fun l=>
      (if l=true then some true else
       (some ((Arr5.get f b).Lo == (IntKind.wrap .u32 (d.f_values.Hi + (1:Int))))).bind fun m=>
       (if m=true then
        (Zan i d.f_rest).bind fun n=>
        some n
        else some false).bind fun o=>
       some o
       ).bind fun p=>
      if p=true then
       some (.inr false)
      else
       some (.inl ())
     else
      some (.inl ())).bind fun(q:(Unit ⊕ Bool))=>
     match q with
     | .inl ()=>
       if 0≤c∧c≤(List.length a:Int)∧(List.length a:Int)≤(List.length a:Int) then
       Zb9 b g j (Zh.mk (Arr5.get f b) i) (List.drop (Int.toNat c) (List.take (Int.toNat (List.length a:Int)) a))
       else none
     | .inr r=>
       some (.inr r)
    else none
    else none
    else none
  else
   some (.inl d)
def Zbp:Nat→Int→ZL→Option Bool
 | 0,_,_=>none
 | nr+1,a,b=>
  if (a == (5:Int))=true then
   some (decide ((List.length b:Int)≤(1:Int)))
  else
   (Zb9 a (Zbp nr) fuel Zf3 b).bind fun(c:(Zh ⊕ Bool))=>
   match c with
   | .inl _=>
     some true
   | .inr d=>
     some d
def Zd5 (a:ZL):Option Bool:=
 (some (decide ((List.length a:Int)≤(4096:Int)))).bind fun b=>
 (if b=true then
  (Ze4 a).bind fun c=>
  some ((List.length c:Int) == (List.length a:Int))
  else some false).bind fun d=>
 (some d).bind fun f=>
 (if f=true then
  (Zbp fuel (0:Int) a).bind fun g=>
  some g
  else some false).bind fun i=>
 some i
def Zem (a:Bool) (b:Bool):Option Bool:=
 (some a).bind fun c=>
 some (c || b)
def Zhw (a:Int):Option Int:=
 (some (decide (a<(0:Int)))).bind fun b=>
 if (b || (decide (a ≥ (5:Int))))=true then
  some (0:Int)
 else
  if 0≤a∧a<5 then
  some (Arr5.get Za5 a)
  else none
def Zg8 (a:Int):Option Int:=
 (if (decide (a ≥ (4294967296:Int)))=true then
  some ((bShr .u64 a (32:Int)),(32:Int))
 else
  some (a,(0:Int))).bind fun g=>
 match g with
 | (b,d)=>
  (if (decide (b ≥ (65536:Int)))=true then
   some ((bShr .u64 b (16:Int)),(IntKind.wrap .i64 (d + (16:Int))))
  else
   some (b,d)).bind fun i=>
  match i with
  | (c,f)=>
   (if (decide (c ≥ (256:Int)))=true then
    some ((bShr .u64 c (8:Int)),(IntKind.wrap .i64 (f + (8:Int))))
   else
    some (c,f)).bind fun j=>
   match j with
   | (k,l)=>
    (sidx ⟨#[0,1,2,2,3,3,3,3,4,4,4,4,4,4,4,4,5,5,5,5,5,5,5,5,5,5,5,5,5,5,5,5,6,6,6,6,6,6,6,6,6,6,6,6,6,6,6,6,6,6,6,6,6,6,6,6,6,6,6,6,6,6,6,6,7,7,7,7,7,7,7,7,7,7,7,7,7,7,7,7,7,7,7,7,7,7,7,7,7,7,7,7,7,7,7,7,7,7,7,7,7,7,7,7,7,7,7,7,7,7,7,7,7,7,7,7,7,7,7,7,7,7,7,7,7,7,7,7,8,8,8,8,8,8,8,8,8,8,8,8,8,8,8,8,8,8,8,8,8,8,8,8,8,8,8,8,8,8,8,8,8,8,8,8,8,8,8,8,8,8,8,8,8,8,8,8,8,8,8,8,8,8,8,8,8,8,8,8,8,8,8,8,8,8,8,8,8,8,8,8,8,8,8,8,8,8,8,8,8,8,8,8,8,8,8,8,8,8,8,8,8,8,8,8,8,8,8,8,8,8,8,8,8,8,8,8,8,8,8,8,8,8,8,8,8,8,8,8,8,8,8,8,8,8,8,8]⟩ (IntKind.wrap .u8 k)).bind fun m=>
    some (IntKind.wrap .i64 (l + (IntKind.wrap .i64 m)))
def Zfy (a:Int):Option Int:=
 (Zg8 a).bind fun b=>
 some b
def Zfo (a:Int):Option Bool:=
 some (a != a)
def Zab (a:Int) (b:Int):Option Bool:=
 (Zfo a).bind fun c=>
 (some c).bind fun d=>
 (if d=true then
  (Zfo b).bind fun f=>
  some (!f)
  else some false).bind fun g=>
 (some g).bind fun i=>
 some (i || (decide (a<b)))
def Zaj (c:Nat) (d:Int):Nat→(List Int)→Int→Option (List Int)
 | 0,_,_=>none
 | g+1,b,a=>
  (some (decide (a > d))).bind fun i=>
  (if i=true then
   (idxn c b a).bind fun j=>
   (idxn c b (IntKind.wrap .i64 (a - (1:Int)))).bind fun k=>
   (Zab j k).bind fun l=>
   some l
   else some false).bind fun m=>
  if m=true then
   (idxn c b (IntKind.wrap .i64 (a - (1:Int)))).bind fun f=>
   (idxn c b a).bind fun n=>
   (idxn c b a).bind fun _=>
   (idxn c (List.set b (Int.toNat a) f) (IntKind.wrap .i64 (a - (1:Int)))).bind fun _=>
   Zaj c d g (List.set (List.set b (Int.toNat a) f) (Int.toNat (IntKind.wrap .i64 (a - (1:Int)))) n) (IntKind.wrap .i64 (a - (1:Int)))
  else
   some b
def Zak (b:Nat) (c:Int) (d:Int):Nat→(List Int)→Int→Option (List Int)
 | 0,_,_=>none
 | g+1,f,a=>
  if (decide (a<d))=true then
   (Zaj b c fuel f a).bind fun i=>
    Zak b c d g i (IntKind.wrap .i64 (a + (1:Int)))
  else
   some f
def Zbz (b:Nat) (c:(List Int)) (a:Int) (d:Int):Option (List Int):=
 (Zak b a d fuel c (IntKind.wrap .i64 (a + (1:Int)))).bind fun f=>
  some f
def Zae (d:Nat) (g:Int) (a:Int):Nat→(List Int)→Int→Option ((List Int) ⊕ (List Int))
 | 0,_,_=>none
 | j+1,b,c=>
  if (decide ((IntKind.wrap .i64 ((IntKind.wrap .i64 ((2:Int) * c)) + (1:Int))) ≥ g))=true then
   some (.inl b)
  else
   ((some (decide ((IntKind.wrap .i64 ((IntKind.wrap .i64 ((IntKind.wrap .i64 ((2:Int) * c)) + (1:Int))) + (1:Int)))<g))).bind fun k=>
   (if k=true then
    (idxn d b (IntKind.wrap .i64 (a + (IntKind.wrap .i64 ((IntKind.wrap .i64 ((2:Int) * c)) + (1:Int)))))).bind fun l=>
    (idxn d b (IntKind.wrap .i64 ((IntKind.wrap .i64 (a + (IntKind.wrap .i64 ((IntKind.wrap .i64 ((2:Int) * c)) + (1:Int))))) + (1:Int)))).bind fun m=>
    (Zab l m).bind fun n=>
    some n
    else some false).bind fun o=>
   if o=true then
    some (IntKind.wrap .i64 ((IntKind.wrap .i64 ((IntKind.wrap .i64 ((2:Int) * c)) + (1:Int))) + (1:Int)))
   else
    some (IntKind.wrap .i64 ((IntKind.wrap .i64 ((2:Int) * c)) + (1:Int)))).bind fun f=>
    (idxn d b (IntKind.wrap .i64 (a + c))).bind fun p=>
    (idxn d b (IntKind.wrap .i64 (a + f))).bind fun q=>
    (Zab p q).bind fun r=>
    if (!r)=true then
     some (.inr b)
    else
     (idxn d b (IntKind.wrap .i64 (a + f))).bind fun i=>
     (idxn d b (IntKind.wrap .i64 (a + c))).bind fun s=>
     (idxn d b (IntKind.wrap .i64 (a + c))).bind fun _=>
     (idxn d (List.set b (Int.toNat (IntKind.wrap .i64 (a + c))) i) (IntKind.wrap .i64 (a + f))).bind fun _=>
     Zae d g a j (List.set (List.set b (Int.toNat (IntKind.wrap .i64 (a + c))) i) (Int.toNat (IntKind.wrap .i64 (a + f))) s) f
def Zby (a:Nat) (b:(List Int)) (c:Int) (d:Int) (f:Int):Option (List Int):=
 (Zae a d f fuel b c).bind fun(g:((List Int) ⊕ (List Int)))=>
 match g with
 | .inl i=>
   some i
 | .inr j=>
   some j
def Zax (c:Nat) (a:Int) (d:Int):Nat→(List Int)→Int→Option (List Int)
 | 0,_,_=>none
 | g+1,f,b=>
  if (decide (b ≥ (0:Int)))=true then
   (Zby c f b (IntKind.wrap .i64 (d - a)) a).bind fun i=>
   Zax c a d g i (IntKind.wrap .i64 (b - (1:Int)))
  else
   some f
def Zay (b:Nat) (a:Int):Nat→(List Int)→Int→Option (List Int)
 | 0,_,_=>none
 | g+1,c,d=>
  if (decide (d ≥ (0:Int)))=true then
   (idxn b c (IntKind.wrap .i64 (a + d))).bind fun f=>
   (idxn b c a).bind fun i=>
   (idxn b c a).bind fun _=>
   (idxn b (List.set c (Int.toNat a) f) (IntKind.wrap .i64 (a + d))).bind fun _=>
   (Zby b (List.set (List.set c (Int.toNat a) f) (Int.toNat (IntKind.wrap .i64 (a + d))) i) (0:Int) d a).bind fun j=>
   Zay b a g j (IntKind.wrap .i64 (d - (1:Int)))
  else
   some c
def Zck (c:Nat) (d:(List Int)) (a:Int) (b:Int):Option (List Int):=
 (Zax c a b fuel d (IntKind.wrap .i64 (Int.tdiv (IntKind.wrap .i64 ((IntKind.wrap .i64 (b - a)) - (1:Int))) (2:Int)))).bind fun f=>
  (Zay c a fuel f (IntKind.wrap .i64 ((IntKind.wrap .i64 (b - a)) - (1:Int)))).bind fun g=>
   some g
def Zfa (b:Int):Option Int:=
 (Zfy (IntKind.wrap .u64 b)).bind fun a=>
 if 0≤a then
 some (bShl .u64 (1:Int) a)
 else none
def Zed (a:Int):Option (Int × Int):=
 some ((bXor .u64 (bXor .u64 (bXor .u64 a (bShl .u64 a (13:Int))) (bShr .u64 (bXor .u64 a (bShl .u64 a (13:Int))) (7:Int))) (bShl .u64 (bXor .u64 (bXor .u64 a (bShl .u64 a (13:Int))) (bShr .u64 (bXor .u64 a (bShl .u64 a (13:Int))) (7:Int))) (17:Int))),(bXor .u64 (bXor .u64 (bXor .u64 a (bShl .u64 a (13:Int))) (bShr .u64 (bXor .u64 a (bShl .u64 a (13:Int))) (7:Int))) (bShl .u64 (bXor .u64 (bXor .u64 a (bShl .u64 a (13:Int))) (bShr .u64 (bXor .u64 a (bShl .u64 a (13:Int))) (7:Int))) (17:Int))))
def Zw (d:Nat) (a:Int) (f:Int) (g:Int):Nat→(List Int)→Int→Int→Option ((List Int) × Int)
 | 0,_,_,_=>none
 | m+1,b,k,c=>
  if (decide (c≤(IntKind.wrap .i64 ((IntKind.wrap .i64 (a + (IntKind.wrap .i64 ((IntKind.wrap .i64 (Int.tdiv (IntKind.wrap .i64 (f - a)) (4:Int))) * (2:Int))))) + (1:Int)))))=true then
   ((Zed k).bind fun i=>
   (if (decide ((IntKind.wrap .i64 (bAnd .u64 i.1 (IntKind.wrap .u64 (g - (1:Int))))) ≥ (IntKind.wrap .i64 (f - a))))=true then
    some (IntKind.wrap .i64 ((IntKind.wrap .i64 (bAnd .u64 i.1 (IntKind.wrap .u64 (g - (1:Int))))) - (IntKind.wrap .i64 (f - a))))
   else
    some (IntKind.wrap .i64 (bAnd .u64 i.1 (IntKind.wrap .u64 (g - (1:Int)))))).bind fun j=>
    (idxn d b (IntKind.wrap .i64 (a + j))).bind fun l=>
    (idxn d b c).bind fun n=>
    (idxn d b c).bind fun _=>
    (idxn d (List.set b (Int.toNat c) l) (IntKind.wrap .i64 (a + j))).bind fun _=>
    some ((List.set (List.set b (Int.toNat c) l) (Int.toNat (IntKind.wrap .i64 (a + j))) n),i.2)).bind fun o=>
   match o with
   | (p,q)=>
    Zw d a f g m p q (IntKind.wrap .i64 (c + (1:Int)))
  else
   some (b,k)
def Za9 (d:Nat) (c:(List Int)) (a:Int) (b:Int):Option (List Int):=
 if (decide ((IntKind.wrap .i64 (b - a)) ≥ (8:Int)))=true then
  (Zfa (IntKind.wrap .i64 (b - a))).bind fun f=>
  (Zw d a b f fuel c (IntKind.wrap .u64 (IntKind.wrap .i64 (b - a))) (IntKind.wrap .i64 ((IntKind.wrap .i64 (a + (IntKind.wrap .i64 ((IntKind.wrap .i64 (Int.tdiv (IntKind.wrap .i64 (b - a)) (4:Int))) * (2:Int))))) - (1:Int)))).bind fun g=>
  match g with
  | (i,_)=>
   some i
 else
  some c
def Zbm (c:Nat) (d:(List Int)) (a:Int) (b:Int) (f:Int):Option (Int × Int × Int):=
 (idxn c d b).bind fun g=>
 (idxn c d a).bind fun i=>
 (Zab g i).bind fun j=>
 if j=true then
  some (b,a,(IntKind.wrap .i64 (f + (1:Int))))
 else
  some (a,b,f)
def Zb5 (a:Nat) (b:(List Int)) (g:Int) (i:Int) (j:Int) (k:Int):Option (Int × Int):=
 (Zbm a b g i k).bind fun c=>
 (Zbm a b c.2.1 j c.2.2).bind fun d=>
 (Zbm a b c.1 d.1 d.2.2).bind fun f=>
 some (f.2.1,f.2.2)
def Zap (c:Nat) (d:(List Int)) (a:Int) (f:Int):Option (Int × Int):=
 (Zb5 c d (IntKind.wrap .i64 (a - (1:Int))) a (IntKind.wrap .i64 (a + (1:Int))) f).bind fun b=>
 some (b.1,b.2)
def Zb4 (c:Nat) (d:(List Int)) (a:Int) (b:Int):Option (Int × Int):=
 (if (decide ((IntKind.wrap .i64 (b - a)) ≥ (8:Int)))=true then
  (if (decide ((IntKind.wrap .i64 (b - a)) ≥ (50:Int)))=true then
   (Zap c d (IntKind.wrap .i64 (a + (IntKind.wrap .i64 ((IntKind.wrap .i64 (Int.tdiv (IntKind.wrap .i64 (b - a)) (4:Int))) * (1:Int))))) (0:Int)).bind fun g=>
   (Zap c d (IntKind.wrap .i64 (a + (IntKind.wrap .i64 ((IntKind.wrap .i64 (Int.tdiv (IntKind.wrap .i64 (b - a)) (4:Int))) * (2:Int))))) g.2).bind fun i=>
   (Zap c d (IntKind.wrap .i64 (a + (IntKind.wrap .i64 ((IntKind.wrap .i64 (Int.tdiv (IntKind.wrap .i64 (b - a)) (4:Int))) * (3:Int))))) i.2).bind fun j=>
   some (j.2,g.1,i.1,j.1)
  else
   some ((0:Int),(IntKind.wrap .i64 (a + (IntKind.wrap .i64 ((IntKind.wrap .i64 (Int.tdiv (IntKind.wrap .i64 (b - a)) (4:Int))) * (1:Int))))),(IntKind.wrap .i64 (a + (IntKind.wrap .i64 ((IntKind.wrap .i64 (Int.tdiv (IntKind.wrap .i64 (b - a)) (4:Int))) * (2:Int))))),(IntKind.wrap .i64 (a + (IntKind.wrap .i64 ((IntKind.wrap .i64 (Int.tdiv (IntKind.wrap .i64 (b - a)) (4:Int))) * (3:Int))))))).bind fun m=>
  match m with
  | (n,o,p,q)=>
   (Zb5 c d o p q n).bind fun k=>
   some (k.2,k.1)
 else
  some ((0:Int),(IntKind.wrap .i64 (a + (IntKind.wrap .i64 ((IntKind.wrap .i64 (Int.tdiv (IntKind.wrap .i64 (b - a)) (4:Int))) * (2:Int))))))).bind fun r=>
 match r with
 | (l,f)=>
  if (l == (0:Int))=true then
   some (f,(1:Int))
  else
   if (l == (12:Int))=true then
    some (f,(2:Int))
   else
    some (f,(0:Int))
def Zal (c:Nat):Nat→(List Int)→Int→Int→Option (List Int)
 | 0,_,_,_=>none
 | g+1,a,b,d=>
  if (decide (b<d))=true then
   (idxn c a d).bind fun f=>
   (idxn c a b).bind fun i=>
   (idxn c a b).bind fun _=>
   (idxn c (List.set a (Int.toNat b) f) d).bind fun _=>
   Zal c g (List.set (List.set a (Int.toNat b) f) (Int.toNat d) i) (IntKind.wrap .i64 (b + (1:Int))) (IntKind.wrap .i64 (d - (1:Int)))
  else
   some a
def Zbd (a:Nat) (b:(List Int)) (c:Int) (d:Int):Option (List Int):=
 (Zal a fuel b c (IntKind.wrap .i64 (d - (1:Int)))).bind fun f=>
  some f
def Z6 (b:Nat) (d:Int) (c:(List Int)):Nat→Int→Option Int
 | 0,_=>none
 | f+1,a=>
  (some (decide (a<d))).bind fun g=>
  (if g=true then
   (idxn b c a).bind fun i=>
   (idxn b c (IntKind.wrap .i64 (a - (1:Int)))).bind fun j=>
   (Zab i j).bind fun k=>
   some (!k)
   else some false).bind fun l=>
  if l=true then
   Z6 b d c f (IntKind.wrap .i64 (a + (1:Int)))
  else
   some a
def Z3 (c:Nat):Nat→(List Int)→Int→Option (List Int)
 | 0,_,_=>none
 | f+1,b,a=>
  if (decide (a ≥ (1:Int)))=true then
   (idxn c b a).bind fun g=>
   (idxn c b (IntKind.wrap .i64 (a - (1:Int)))).bind fun i=>
   (Zab g i).bind fun j=>
   if (!j)=true then
    some b
   else
    (idxn c b (IntKind.wrap .i64 (a - (1:Int)))).bind fun d=>
    (idxn c b a).bind fun k=>
    (idxn c b a).bind fun _=>
    (idxn c (List.set b (Int.toNat a) d) (IntKind.wrap .i64 (a - (1:Int)))).bind fun _=>
    Z3 c f (List.set (List.set b (Int.toNat a) d) (Int.toNat (IntKind.wrap .i64 (a - (1:Int)))) k) (IntKind.wrap .i64 (a - (1:Int)))
  else
   some b
def Z7 (c:Nat) (d:Int):Nat→(List Int)→Int→Option (List Int)
 | 0,_,_=>none
 | g+1,b,a=>
  if (decide (a<d))=true then
   (idxn c b a).bind fun i=>
   (idxn c b (IntKind.wrap .i64 (a - (1:Int)))).bind fun j=>
   (Zab i j).bind fun k=>
   if (!k)=true then
    some b
   else
    (idxn c b (IntKind.wrap .i64 (a - (1:Int)))).bind fun f=>
    (idxn c b a).bind fun l=>
    (idxn c b a).bind fun _=>
    (idxn c (List.set b (Int.toNat a) f) (IntKind.wrap .i64 (a - (1:Int)))).bind fun _=>
    Z7 c d g (List.set (List.set b (Int.toNat a) f) (Int.toNat (IntKind.wrap .i64 (a - (1:Int)))) l) (IntKind.wrap .i64 (a + (1:Int)))
  else
   some b
def Z8 (c:Nat) (f:Int) (d:Int):Nat→(List Int)→Int→Int→Option ((List Int) ⊕ (Bool × (List Int)))
 | 0,_,_,_=>none
 | l+1,b,m,i=>
  if (decide (i<(5:Int)))=true then
   ((Z6 c d b fuel m).bind fun a=>
    if (a == d)=true then
     some (.inr (true,b))
    else
     if (decide ((IntKind.wrap .i64 (d - f))<(50:Int)))=true then
      some (.inr (false,b))
     else
      (idxn c b (IntKind.wrap .i64 (a - (1:Int)))).bind fun g=>
      (idxn c b a).bind fun j=>
      (idxn c b a).bind fun _=>
      (idxn c (List.set b (Int.toNat a) g) (IntKind.wrap .i64 (a - (1:Int)))).bind fun _=>
      (if (decide ((IntKind.wrap .i64 (a - f)) ≥ (2:Int)))=true then
       (Z3 c fuel (List.set (List.set b (Int.toNat a) g) (Int.toNat (IntKind.wrap .i64 (a - (1:Int)))) j) (IntKind.wrap .i64 (a - (1:Int)))).bind fun n=>
        some n
      else
       some (List.set (List.set b (Int.toNat a) g) (Int.toNat (IntKind.wrap .i64 (a - (1:Int)))) j)).bind fun k=>
       if (decide ((IntKind.wrap .i64 (d - a)) ≥ (2:Int)))=true then
        (Z7 c d fuel k (IntKind.wrap .i64 (a + (1:Int)))).bind fun o=>
         some (.inl (o,a))
       else
        some (.inl (k,a))).bind fun(p:(((List Int) × Int) ⊕ (Bool × (List Int))))=>
   match p with
   | .inl (q,r)=>
     Z8 c f d l q r (IntKind.wrap .i64 (i + (1:Int)))
   | .inr s=>
     some (.inr s)
  else
   some (.inl b)
def Zam (b:Nat) (c:(List Int)) (a:Int) (d:Int):Option (Bool × (List Int)):=
 (Z8 b a d fuel c (IntKind.wrap .i64 (a + (1:Int))) (0:Int)).bind fun(f:((List Int) ⊕ (Bool × (List Int))))=>
 match f with
 | .inl g=>
   some (false,g)
 | .inr i=>
   some i
def Zas (b:Nat) (d:Int) (c:(List Int)) (f:Int):Nat→Int→Option Int
 | 0,_=>none
 | g+1,a=>
  (some (decide (a≤f))).bind fun i=>
  (if i=true then
   (idxn b c d).bind fun j=>
   (idxn b c a).bind fun k=>
   (Zab j k).bind fun l=>
   some (!l)
   else some false).bind fun m=>
  if m=true then
   Zas b d c f g (IntKind.wrap .i64 (a + (1:Int)))
  else
   some a
def Zat (b:Nat) (d:Int) (c:(List Int)) (f:Int):Nat→Int→Option Int
 | 0,_=>none
 | g+1,a=>
  (some (decide (f≤a))).bind fun i=>
  (if i=true then
   (idxn b c d).bind fun j=>
   (idxn b c a).bind fun k=>
   (Zab j k).bind fun l=>
   some l
   else some false).bind fun m=>
  if m=true then
   Zat b d c f g (IntKind.wrap .i64 (a - (1:Int)))
  else
   some a
def Zah (c:Nat) (f:Int):Nat→(List Int)→Int→Int→Option ((List Int) × Int)
 | 0,_,_,_=>none
 | j+1,a,k,g=>
  (Zas c f a g fuel k).bind fun b=>
   (Zat c f a b fuel g).bind fun d=>
    if (decide (b > d))=true then
     some (a,b)
    else
     (idxn c a d).bind fun i=>
     (idxn c a b).bind fun l=>
     (idxn c a b).bind fun _=>
     (idxn c (List.set a (Int.toNat b) i) d).bind fun _=>
     Zah c f j (List.set (List.set a (Int.toNat b) i) (Int.toNat d) l) (IntKind.wrap .i64 (b + (1:Int))) (IntKind.wrap .i64 (d - (1:Int)))
def Zbu (b:Nat) (c:(List Int)) (a:Int) (g:Int) (d:Int):Option (Int × (List Int)):=
 (idxn b c d).bind fun f=>
 (idxn b c a).bind fun i=>
 (idxn b c a).bind fun _=>
 (idxn b (List.set c (Int.toNat a) f) d).bind fun _=>
 (Zah b a fuel (List.set (List.set c (Int.toNat a) f) (Int.toNat d) i) (IntKind.wrap .i64 (a + (1:Int))) (IntKind.wrap .i64 (g - (1:Int)))).bind fun j=>
 match j with
 | (k,l)=>
  some (l,k)
def Zbe (c:Nat) (d:(List Int)) (a:Int) (j:Int) (f:Int) (g:Int) (i:Int):Nat→Int→Option Int
 | 0,_=>none
 | k+1,b=>
  (some (decide (b≤(IntKind.wrap .i64 (j - (1:Int)))))).bind fun l=>
  (if l=true then
   (idxn c (List.set (List.set d (Int.toNat a) g) (Int.toNat f) i) b).bind fun m=>
   (idxn c (List.set (List.set d (Int.toNat a) g) (Int.toNat f) i) a).bind fun n=>
   (Zab m n).bind fun o=>
   some o
   else some false).bind fun p=>
  if p=true then
   Zbe c d a j f g i k (IntKind.wrap .i64 (b + (1:Int)))
  else
   some b
def Zbf (c:Nat) (d:(List Int)) (a:Int) (f:Int) (g:Int) (i:Int) (j:Int):Nat→Int→Option Int
 | 0,_=>none
 | k+1,b=>
  (some (decide (j≤b))).bind fun l=>
  (if l=true then
   (idxn c (List.set (List.set d (Int.toNat a) g) (Int.toNat f) i) b).bind fun m=>
   (idxn c (List.set (List.set d (Int.toNat a) g) (Int.toNat f) i) a).bind fun n=>
   (Zab m n).bind fun o=>
   some (!o)
   else some false).bind fun p=>
  if p=true then
   Zbf c d a f g i j k (IntKind.wrap .i64 (b - (1:Int)))
  else
   some b
def Zbg (b:Nat) (d:Int) (c:(List Int)) (f:Int):Nat→Int→Option Int
 | 0,_=>none
 | g+1,a=>
  (some (decide (a≤f))).bind fun i=>
  (if i=true then
   (idxn b c a).bind fun j=>
   (idxn b c d).bind fun k=>
   (Zab j k).bind fun l=>
   some l
   else some false).bind fun m=>
  if m=true then
   Zbg b d c f g (IntKind.wrap .i64 (a + (1:Int)))
  else
   some a
def Zbh (b:Nat) (d:Int) (c:(List Int)) (f:Int):Nat→Int→Option Int
 | 0,_=>none
 | g+1,a=>
  (some (decide (f≤a))).bind fun i=>
  (if i=true then
   (idxn b c a).bind fun j=>
   (idxn b c d).bind fun k=>
   (Zab j k).bind fun l=>
   some (!l)
   else some false).bind fun m=>
  if m=true then
   Zbh b d c f g (IntKind.wrap .i64 (a - (1:Int)))
  else
   some a
def Zau (b:Nat) (f:Int):Nat→(List Int)→Int→Int→Option ((List Int) × Int)
 | 0,_,_,_=>none
 | j+1,a,k,g=>
  (Zbg b f a g fuel k).bind fun c=>
   (Zbh b f a c fuel g).bind fun d=>
    if (decide (c > d))=true then
     some (a,d)
    else
     (idxn b a d).bind fun i=>
     (idxn b a c).bind fun l=>
     (idxn b a c).bind fun _=>
     (idxn b (List.set a (Int.toNat c) i) d).bind fun _=>
     Zau b f j (List.set (List.set a (Int.toNat c) i) (Int.toNat d) l) (IntKind.wrap .i64 (c + (1:Int))) (IntKind.wrap .i64 (d - (1:Int)))
def Zcg (b:Nat) (c:(List Int)) (a:Int) (m:Int) (d:Int):Option (Int × Bool × (List Int)):=
 (idxn b c d).bind fun f=>
 (idxn b c a).bind fun g=>
 (idxn b c a).bind fun _=>
 (idxn b (List.set c (Int.toNat a) f) d).bind fun _=>
 (Zbe b c a m d f g fuel (IntKind.wrap .i64 (a + (1:Int)))).bind fun j=>
  (Zbf b c a d f g j fuel (IntKind.wrap .i64 (m - (1:Int)))).bind fun i=>
   if (decide (j > i))=true then
    (idxn b (List.set (List.set c (Int.toNat a) f) (Int.toNat d) g) a).bind fun n=>
    (idxn b (List.set (List.set c (Int.toNat a) f) (Int.toNat d) g) i).bind fun q=>
    (idxn b (List.set (List.set c (Int.toNat a) f) (Int.toNat d) g) i).bind fun _=>
    (idxn b (List.set (List.set (List.set c (Int.toNat a) f) (Int.toNat d) g) (Int.toNat i) n) a).bind fun _=>
    some (i,true,(List.set (List.set (List.set (List.set c (Int.toNat a) f) (Int.toNat d) g) (Int.toNat i) n) (Int.toNat a) q))
   else
    (idxn b (List.set (List.set c (Int.toNat a) f) (Int.toNat d) g) i).bind fun o=>
    (idxn b (List.set (List.set c (Int.toNat a) f) (Int.toNat d) g) j).bind fun r=>
    (idxn b (List.set (List.set c (Int.toNat a) f) (Int.toNat d) g) j).bind fun _=>
    (idxn b (List.set (List.set (List.set c (Int.toNat a) f) (Int.toNat d) g) (Int.toNat j) o) i).bind fun _=>
    (Zau b a fuel (List.set (List.set (List.set (List.set c (Int.toNat a) f) (Int.toNat d) g) (Int.toNat j) o) (Int.toNat i) r) (IntKind.wrap .i64 (j + (1:Int))) (IntKind.wrap .i64 (i - (1:Int)))).bind fun s=>
    match s with
    | (k,l)=>
     (idxn b k a).bind fun p=>
     (idxn b k l).bind fun t=>
     (idxn b k l).bind fun _=>
     (idxn b (List.set k (Int.toNat l) p) a).bind fun _=>
     some (l,false,(List.set (List.set k (Int.toNat l) p) (Int.toNat a) t))
def Zao (c:Nat) (f:Nat→(List Int)→Int→Int→Int→Option (List Int)):Nat→(List Int)→Int→Int→Int→Bool→Bool→Option (List Int)
 | 0,_,_,_,_,_,_=>none
 | l+1,i,a,b,m,n,r=>
  if (decide ((IntKind.wrap .i64 (b - a))≤(12:Int)))=true then
   (Zbz c i a b).bind fun u=>
   some u
  else
   if (m == (0:Int))=true then
    (Zck c i a b).bind fun v=>
    some v
   else
    (if (!n)=true then
     (Za9 c i a b).bind fun w=>
     some (w,(IntKind.wrap .i64 (m - (1:Int))))
    else
     some (i,m)).bind fun x=>
    match x with
    | (o,g)=>
     (Zb4 c o a b).bind fun j=>
     (if (j.2 == (2:Int))=true then
      (Zbd c o a b).bind fun y=>
      some (y,(IntKind.wrap .i64 ((IntKind.wrap .i64 (b - (1:Int))) - (IntKind.wrap .i64 (j.1 - a)))),(1:Int))
     else
      some (o,j.1,j.2)).bind fun z=>
     match z with
     | (s,p,a0)=>
      ((some n).bind fun a1=>
      (some (a1 && r)).bind fun a2=>
      if (a2 && (a0 == (1:Int)))=true then
       (Zam c s a b).bind fun q=>
       if q.1=true then
        some (.inr q.2)
       else
        some (.inl q.2)
      else
       some (.inl s)).bind fun(a3:((List Int) ⊕ (List Int)))=>
      match a3 with
      | .inl k=>
        (some (decide (a > (0:Int)))).bind fun a4=>
        (if a4=true then
         (idxn c k (IntKind.wrap .i64 (a - (1:Int)))).bind fun a5=>
         (idxn c k p).bind fun a6=>
         (Zab a5 a6).bind fun a7=>
         some (!a7)
         else some false).bind fun a8=>
        if a8=true then
         (Zbu c k a b p).bind fun t=>
         Zao c f l t.2 t.1 b g n r
        else
         (Zcg c k a b p).bind fun d=>
         if (decide ((IntKind.wrap .i64 (d.1 - a))<(IntKind.wrap .i64 (b - d.1))))=true then
          (f c d.2.2 a d.1 g).bind fun a9=>
          Zao c f l a9 (IntKind.wrap .i64 (d.1 + (1:Int))) b g (decide ((IntKind.wrap .i64 (d.1 - a)) ≥ (IntKind.wrap .i64 (Int.tdiv (IntKind.wrap .i64 (b - a)) (8:Int))))) d.2.1
         else
          (f c d.2.2 (IntKind.wrap .i64 (d.1 + (1:Int))) b g).bind fun b0=>
          Zao c f l b0 a d.1 g (decide ((IntKind.wrap .i64 (b - d.1)) ≥ (IntKind.wrap .i64 (Int.tdiv (IntKind.wrap .i64 (b - a)) (8:Int))))) d.2.1
      | .inr b1=>
        some b1
def Z1:Nat→Nat→(List Int)→Int→Int→Int→Option (List Int)
 | 0,_,_,_,_,_=>none
 | nr+1,a,b,c,d,f=>
  (Zao a (Z1 nr) fuel b c d f true true).bind fun g=>
  match g with
  | i=>
   some i
def Zc5 (a:Nat) (b:(List Int)):Option (List Int):=
 (Zfy (IntKind.wrap .u64 (a:Int))).bind fun c=>
 (Z1 fuel a b (0:Int) (a:Int) c).bind fun d=>
 some d
def Za1 (c:Nat) (a:Int):Nat→(List Int)→Int→Int→Option ((List Int) × Int)
 | 0,_,_,_=>none
 | g+1,b,d,f=>
  if (decide (f<(((Int.toNat (c:Int) - Int.toNat a):Nat):Int)))=true then
   ((idxv (Int.toNat (c:Int) - Int.toNat a) b a f).bind fun i=>
   (idxv (Int.toNat (c:Int) - Int.toNat a) b a (IntKind.wrap .i64 (f - (1:Int)))).bind fun j=>
   if (i != j)=true then
    (idxv (Int.toNat (c:Int) - Int.toNat a) b a f).bind fun k=>
    (idxn c b d).bind fun _=>
    some ((List.set b (Int.toNat d) k),(IntKind.wrap .i64 (d + (1:Int))))
   else
    some (b,d)).bind fun l=>
   match l with
   | (m,n)=>
    Za1 c a g m n (IntKind.wrap .i64 (f + (1:Int)))
  else
   some (b,d)
def Za2 (a:Nat) (d:(List Int)):Nat→Int→Option (Unit ⊕ (Nat × (List Int)))
 | 0,_=>none
 | g+1,c=>
  if (decide (c<(a:Int)))=true then
   (idxn a d c).bind fun i=>
   (idxn a d (IntKind.wrap .i64 (c - (1:Int)))).bind fun j=>
   if (i == j)=true then
    if 0≤c∧c≤(a:Int)∧(a:Int)≤(a:Int) then
    (Za1 a c fuel d c (1:Int)).bind fun k=>
    match k with
    | (f,b)=>
     if 0≤b∧b≤(a:Int)∧(a:Int)≤(a:Int) then
     if Int.toNat b + (Int.toNat (a:Int) - Int.toNat b)≤List.length f then
     if 0≤(0:Int)∧(0:Int)≤b∧b≤(a:Int) then
     some (.inr ((Int.toNat b),(List.take (Int.toNat b) f++List.replicate (Int.toNat (a:Int) - Int.toNat b) (0:Int)++List.drop (Int.toNat b + (Int.toNat (a:Int) - Int.toNat b)) f)))
     else none
     else none
     else none
    else none
   else
    Za2 a d g (IntKind.wrap .i64 (c + (1:Int)))
  else
   some (.inl ())
def Zcr (a:Nat) (b:(List Int)):Option (Nat × (List Int)):=
 if (decide ((a:Int)<(2:Int)))=true then
  some (a,b)
 else
  (Za2 a b fuel (1:Int)).bind fun(c:(Unit ⊕ (Nat × (List Int))))=>
  match c with
  | .inl ()=>
    some (a,b)
  | .inr d=>
    some d
def Zce (a:Int):Nat→Int→Int→Option Int
 | 0,_,_=>none
 | d+1,c,b=>
  if (decide (b<(List.length (List.drop (Int.toNat a) (List.take (Int.toNat (List.length ([]:(List Int)):Int)) ([]:(List Int)))):Int)))=true then
   ((idx (List.drop (Int.toNat a) (List.take (Int.toNat (List.length ([]:(List Int)):Int)) ([]:(List Int)))) b).bind fun f=>
   (idx (List.drop (Int.toNat a) (List.take (Int.toNat (List.length ([]:(List Int)):Int)) ([]:(List Int)))) (IntKind.wrap .i64 (b - (1:Int)))).bind fun g=>
   if (f != g)=true then
    none
   else
    some ()).bind fun i=>
   match i with
   | ()=>
    Zce a d c (IntKind.wrap .i64 (b + (1:Int)))
  else
   some c
def Zcf:Nat→Int→Option (Unit ⊕ (List Int))
 | 0,_=>none
 | b+1,a=>
  if (decide (a<(List.length ([]:(List Int)):Int)))=true then
   (idx ([]:(List Int)) a).bind fun c=>
   (idx ([]:(List Int)) (IntKind.wrap .i64 (a - (1:Int)))).bind fun d=>
   if (c == d)=true then
    if 0≤a∧a≤(List.length ([]:(List Int)):Int)∧(List.length ([]:(List Int)):Int)≤(List.length ([]:(List Int)):Int) then
    (Zce a fuel a (1:Int)).bind fun _=>
     none
    else none
   else
    Zcf b (IntKind.wrap .i64 (a + (1:Int)))
  else
   some (.inl ())
def Zcs:Option (List Int):=
 if (decide ((List.length ([]:(List Int)):Int)<(2:Int)))=true then
  some ([]:(List Int))
 else
  (Zcf fuel (1:Int)).bind fun(a:(Unit ⊕ (List Int)))=>
  match a with
  | .inl ()=>
    some ([]:(List Int))
  | .inr b=>
    some b
def Zcz (a:Int) (c:ZL):Nat→(List Int)→Int→Option (List Int)
 | 0,_,_=>none
 | g+1,d,f=>
  if (decide (f<(List.length c:Int)))=true then
   (idx c f).bind fun b=>
   if 0≤a∧a<5 then
   if 0≤a∧a<5 then
   if List.length d + List.length [(IntKind.wrap .u64 (Arr5.get b a).Lo),(IntKind.wrap .u64 ((IntKind.wrap .u64 (Arr5.get b a).Hi) + (1:Int)))]≤lim then
   Zcz a c g (d++[(IntKind.wrap .u64 (Arr5.get b a).Lo),(IntKind.wrap .u64 ((IntKind.wrap .u64 (Arr5.get b a).Hi) + (1:Int)))]) (IntKind.wrap .i64 (f + (1:Int)))
   else none
   else none
   else none
  else
   some d
def Zc0 (c:Int) (a:(List ZL)):Nat→(List Int)→Int→Option (List Int)
 | 0,_,_=>none
 | f+1,d,b=>
  if (decide (b<(List.length a:Int)))=true then
   (idx a b).bind fun g=>
   (Zcz c g fuel d (0:Int)).bind fun i=>
    Zc0 c a f i (IntKind.wrap .i64 (b + (1:Int)))
  else
   some d
def Zdx (c:Int) (f:(List ZL)):Option (List Int):=
 (Zhw c).bind fun g=>
 (Zc0 c f fuel [(0:Int),(IntKind.wrap .u64 ((IntKind.wrap .u64 g) + (1:Int)))] (0:Int)).bind fun a=>
  if a ≠ [] then
  (Zc5 (List.length a) a).bind fun b=>
  if List.length b=List.length a then
  (handB b (Zcr (List.length b) b) (Zcs)).bind fun d=>
  some (List.take d.1 d.2)
  else none
  else none
def Zcm (d:ZL) (a:Int) (f:Int):Nat→ZL→Int→Option ZL
 | 0,_,_=>none
 | i+1,b,g=>
  if (decide (g<(List.length d:Int)))=true then
   ((idx d g).bind fun c=>
   if 0≤a∧a<5 then
   (some (decide ((Arr5.get c a).Lo≤f))).bind fun j=>
   (if j=true then
    if 0≤a∧a<5 then
    some (decide (f≤(Arr5.get c a).Hi))
    else none
    else some false).bind fun k=>
   if k=true then
    if List.length b + List.length [c]≤lim then
    some (b++[c])
    else none
   else
    some b
   else none).bind fun l=>
    Zcm d a f i l (IntKind.wrap .i64 (g + (1:Int)))
  else
   some b
def Zbw (a:ZL) (b:Int) (c:Int):Option ZL:=
 (Zcm a b c fuel ([]:ZL) (0:Int)).bind fun d=>
  some d
def Zy (f:Int) (l:ZL) (m:ZL) (j:Int) (n:Int→ZL→ZL→Int→Option (ZL × Bool)) (g:(List Int)):Nat→(List Zh)→Int→Int→Option (((List Zh) × Int) ⊕ (ZL × Bool))
 | 0,_,_,_=>none
 | p+1,a,c,i=>
  if (decide ((IntKind.wrap .i64 (i + (1:Int)))<(List.length g:Int)))=true then
   ((idx g i).bind fun d=>
   (idx g (IntKind.wrap .i64 (i + (1:Int)))).bind fun k=>
   (Zbw l f (IntKind.wrap .u32 d)).bind fun q=>
   (Zbw m f (IntKind.wrap .u32 d)).bind fun r=>
   (n (IntKind.wrap .i64 (f + (1:Int))) q r j).bind fun b=>
   if (!b.2)=true then
    some (.inr (([]:ZL),false))
   else
    if ((List.length b.1:Int) == (0:Int))=true then
     some (.inl (a,c))
    else
     (some (decide ((List.length a:Int) > (0:Int)))).bind fun s=>
     (if s=true then
      (idx a (IntKind.wrap .i64 ((List.length a:Int) - (1:Int)))).bind fun t=>
      some ((IntKind.wrap .u32 (t.f_values.Hi + (1:Int))) == (IntKind.wrap .u32 d))
      else some false).bind fun u=>
     (some u).bind fun v=>
     (if v=true then
      (idx a (IntKind.wrap .i64 ((List.length a:Int) - (1:Int)))).bind fun w=>
      (Zan w.f_rest b.1).bind fun x=>
      some x
      else some false).bind fun y=>
     if y=true then
      (idx a (IntKind.wrap .i64 ((List.length a:Int) - (1:Int)))).bind fun o=>
      some (.inl ((List.set a (Int.toNat (IntKind.wrap .i64 ((List.length a:Int) - (1:Int)))) ({ o with f_values:=({ o.f_values with Hi:=(IntKind.wrap .u32 (IntKind.wrap .u64 (k - (1:Int)))) }:Zb) }:Zh)),c))
     else
      if List.length a + List.length [(Zh.mk (Zb.mk (IntKind.wrap .u32 d) (IntKind.wrap .u32 (IntKind.wrap .u64 (k - (1:Int))))) b.1)]≤lim then
      if (decide ((IntKind.wrap .i64 (c + (List.length b.1:Int))) > j))=true then
       some (.inr (([]:ZL),false))
      else
       some (.inl ((a++[(Zh.mk (Zb.mk (IntKind.wrap .u32 d) (IntKind.wrap .u32 (IntKind.wrap .u64 (k - (1:Int))))) b.1)]),(IntKind.wrap .i64 (c + (List.length b.1:Int)))))
      else none).bind fun(z:(((List Zh) × Int) ⊕ (ZL × Bool)))=>
   match z with
   | .inl (a0,a1)=>
     Zy f l m j n g p a0 a1 (IntKind.wrap .i64 (i + (1:Int)))
   | .inr a2=>
     some (.inr a2)
  else
   some (.inl (a,c))
def Zz (a:Int) (b:Zh):Nat→ZL→Int→Option ZL
 | 0,_,_=>none
 | g+1,c,d=>
  if (decide (d<(List.length b.f_rest:Int)))=true then
   (idx b.f_rest d).bind fun f=>
   if 0≤a∧a<5 then
   if List.length c + List.length [(Arr5.set f a b.f_values)]≤lim then
   Zz a b g (c++[(Arr5.set f a b.f_values)]) (IntKind.wrap .i64 (d + (1:Int)))
   else none
   else none
  else
   some c
def Zv (c:Int) (a:(List Zh)):Nat→ZL→Int→Option ZL
 | 0,_,_=>none
 | f+1,d,b=>
  if (decide (b<(List.length a:Int)))=true then
   (idx a b).bind fun g=>
   (Zz c g fuel d (0:Int)).bind fun i=>
    Zv c a f i (IntKind.wrap .i64 (b + (1:Int)))
  else
   some d
def Zad:Nat→Int→ZL→ZL→Int→Option (ZL × Bool)
 | 0,_,_,_,_=>none
 | nr+1,a,b,c,f=>
  if (a == (5:Int))=true then
   (Zem (decide ((List.length b:Int) > (0:Int))) (decide ((List.length c:Int) > (0:Int)))).bind fun g=>
   if g=true then
    some ([(Arr5.mk Zp Zp Zp Zp Zp)],true)
   else
    some (([]:ZL),true)
  else
   (some ((IntKind.wrap .i64 ((List.length b:Int) + (List.length c:Int))) == (0:Int))).bind fun i=>
   (if i=true then
    (Zem false false).bind fun j=>
    some (!j)
    else some false).bind fun k=>
   if k=true then
    some (([]:ZL),true)
   else
    (Zdx a [b,c]).bind fun l=>
    (Zy a b c f (Zad nr) l fuel ([]:(List Zh)) (0:Int) (0:Int)).bind fun(m:(((List Zh) × Int) ⊕ (ZL × Bool)))=>
    match m with
    | .inl (n,d)=>
      if 0≤d∧d≤(lim:Int) then
      (Zv a n fuel ([]:ZL) (0:Int)).bind fun o=>
       some (o,true)
      else none
    | .inr p=>
      some p
def Za3 (b:ZL) (c:ZL):Option (ZL × Int):=
 (Zad fuel (0:Int) b c (4096:Int)).bind fun a=>
 if (!a.2)=true then
  some (([]:ZL),(3:Int))
 else
  some (a.1,(0:Int))
def Zdn (a:ZL):Nat→ZL→Int→Option (ZL ⊕ (ZL × Int))
 | 0,_,_=>none
 | f+1,d,b=>
  if (decide (b<(List.length a:Int)))=true then
   (idx a b).bind fun g=>
   (Za3 d [g]).bind fun c=>
   if (c.2 != (0:Int))=true then
    some (.inr (([]:ZL),c.2))
   else
    Zdn a f c.1 (IntKind.wrap .i64 (b + (1:Int)))
  else
   some (.inl d)
def Zfh (a:ZL):Option (ZL × Int):=
 (Ze4 a).bind fun b=>
 (Zdn b fuel ([]:ZL) (0:Int)).bind fun(c:(ZL ⊕ (ZL × Int)))=>
 match c with
 | .inl d=>
   some (d,(0:Int))
 | .inr f=>
   some f
def Zb0 (a:Zj) (c:ZL) (d:Int):Option (ZL × Zj):=
 (if (a.f_err == (0:Int))=true then
  some ({ a with f_err:=d }:Zj)
 else
  some a).bind fun b=>
  if (b.f_err != (0:Int))=true then
   some (([]:ZL),b)
  else
   some (c,b)
def Zdt (b:Zj) (a:ZL):Option (ZL × Zj):=
 (Zd5 a).bind fun f=>
 if f=true then
  some (a,b)
 else
  (Zfh a).bind fun c=>
  (Zb0 b c.1 c.2).bind fun d=>
  some (d.1,d.2)
def Zct (a:ZL):Option (ZL × Int):=
 (Zd5 a).bind fun c=>
 if c=true then
  some (a,(0:Int))
 else
  (Zfh a).bind fun b=>
  some (b.1,b.2)
def Zfi (a:Bool) (b:Bool):Option Bool:=
 (some a).bind fun c=>
 some (c && b)
def Zbr (f:Int) (l:ZL) (m:ZL) (j:Int) (n:Int→ZL→ZL→Int→Option (ZL × Bool)) (g:(List Int)):Nat→(List Zh)→Int→Int→Option (((List Zh) × Int) ⊕ (ZL × Bool))
 | 0,_,_,_=>none
 | p+1,a,c,i=>
  if (decide ((IntKind.wrap .i64 (i + (1:Int)))<(List.length g:Int)))=true then
   ((idx g i).bind fun d=>
   (idx g (IntKind.wrap .i64 (i + (1:Int)))).bind fun k=>
   (Zbw l f (IntKind.wrap .u32 d)).bind fun q=>
   (Zbw m f (IntKind.wrap .u32 d)).bind fun r=>
   (n (IntKind.wrap .i64 (f + (1:Int))) q r j).bind fun b=>
   if (!b.2)=true then
    some (.inr (([]:ZL),false))
   else
    if ((List.length b.1:Int) == (0:Int))=true then
     some (.inl (a,c))
    else
     (some (decide ((List.length a:Int) > (0:Int)))).bind fun s=>
     (if s=true then
      (idx a (IntKind.wrap .i64 ((List.length a:Int) - (1:Int)))).bind fun t=>
      some ((IntKind.wrap .u32 (t.f_values.Hi + (1:Int))) == (IntKind.wrap .u32 d))
      else some false).bind fun u=>
     (some u).bind fun v=>
     (if v=true then
      (idx a (IntKind.wrap .i64 ((List.length a:Int) - (1:Int)))).bind fun w=>
      (Zan w.f_rest b.1).bind fun x=>
      some x
      else some false).bind fun y=>
     if y=true then
      (idx a (IntKind.wrap .i64 ((List.length a:Int) - (1:Int)))).bind fun o=>
      some (.inl ((List.set a (Int.toNat (IntKind.wrap .i64 ((List.length a:Int) - (1:Int)))) ({ o with f_values:=({ o.f_values with Hi:=(IntKind.wrap .u32 (IntKind.wrap .u64 (k - (1:Int)))) }:Zb) }:Zh)),c))
     else
      if List.length a + List.length [(Zh.mk (Zb.mk (IntKind.wrap .u32 d) (IntKind.wrap .u32 (IntKind.wrap .u64 (k - (1:Int))))) b.1)]≤lim then
      if (decide ((IntKind.wrap .i64 (c + (List.length b.1:Int))) > j))=true then
       some (.inr (([]:ZL),false))
      else
       some (.inl ((a++[(Zh.mk (Zb.mk (IntKind.wrap .u32 d) (IntKind.wrap .u32 (IntKind.wrap .u64 (k - (1:Int))))) b.1)]),(IntKind.wrap .i64 (c + (List.length b.1:Int)))))
      else none).bind fun(z:(((List Zh) × Int) ⊕ (ZL × Bool)))=>
   match z with
   | .inl (a0,a1)=>
     Zbr f l m j n g p a0 a1 (IntKind.wrap .i64 (i + (1:Int)))
   | .inr a2=>
     some (.inr a2)
  else
   some (.inl (a,c))
def Zbs (a:Int) (b:Zh):Nat→ZL→Int→Option ZL
 | 0,_,_=>none
 | g+1,c,d=>
  if (decide (d<(List.length b.f_rest:Int)))=true then
   (idx b.f_rest d).bind fun f=>
   if 0≤a∧a<5 then
   if List.length c + List.length [(Arr5.set f a b.f_values)]≤lim then
   Zbs a b g (c++[(Arr5.set f a b.f_values)]) (IntKind.wrap .i64 (d + (1:Int)))
   else none
   else none
  else
   some c
def Zbt (c:Int) (a:(List Zh)):Nat→ZL→Int→Option ZL
 | 0,_,_=>none
 | f+1,d,b=>
  if (decide (b<(List.length a:Int)))=true then
   (idx a b).bind fun g=>
   (Zbs c g fuel d (0:Int)).bind fun i=>
    Zbt c a f i (IntKind.wrap .i64 (b + (1:Int)))
  else
   some d
def Zai:Nat→Int→ZL→ZL→Int→Option (ZL × Bool)
 | 0,_,_,_,_=>none
 | nr+1,a,b,c,f=>
  if (a == (5:Int))=true then
   (Zfi (decide ((List.length b:Int) > (0:Int))) (decide ((List.length c:Int) > (0:Int)))).bind fun g=>
   if g=true then
    some ([(Arr5.mk Zp Zp Zp Zp Zp)],true)
   else
    some (([]:ZL),true)
  else
   (some ((IntKind.wrap .i64 ((List.length b:Int) + (List.length c:Int))) == (0:Int))).bind fun i=>
   (if i=true then
    (Zfi false false).bind fun j=>
    some (!j)
    else some false).bind fun k=>
   if k=true then
    some (([]:ZL),true)
   else
    (Zdx a [b,c]).bind fun l=>
    (Zbr a b c f (Zai nr) l fuel ([]:(List Zh)) (0:Int) (0:Int)).bind fun(m:(((List Zh) × Int) ⊕ (ZL × Bool)))=>
    match m with
    | .inl (n,d)=>
      if 0≤d∧d≤(lim:Int) then
      (Zbt a n fuel ([]:ZL) (0:Int)).bind fun o=>
       some (o,true)
      else none
    | .inr p=>
      some p
def Zc6 (b:ZL) (c:ZL):Option (ZL × Int):=
 (Zai fuel (0:Int) b c (4096:Int)).bind fun a=>
 if (!a.2)=true then
  some (([]:ZL),(3:Int))
 else
  some (a.1,(0:Int))
def Zfk (d:ZL) (f:ZL):Option (ZL × Int):=
 (Zct d).bind fun a=>
 if (a.2 != (0:Int))=true then
  some (([]:ZL),a.2)
 else
  (Zct f).bind fun b=>
  if (b.2 != (0:Int))=true then
   some (([]:ZL),b.2)
  else
   (Zc6 a.1 b.1).bind fun c=>
   some (c.1,c.2)
def Zen (b:ZL) (c:ZL):Option (ZL × Int):=
 (Zfk b c).bind fun a=>
 some (a.1,a.2)
def Za6 (c:Zj) (d:ZL) (f:ZL):Option (ZL × Zj):=
 (Zen d f).bind fun a=>
 (Zb0 c a.1 a.2).bind fun b=>
 some (b.1,b.2)
def Zd9 (a:Bool) (b:Bool):Option Bool:=
 (some a).bind fun c=>
 some (c && (!b))
def Zbi (f:Int) (l:ZL) (m:ZL) (j:Int) (n:Int→ZL→ZL→Int→Option (ZL × Bool)) (g:(List Int)):Nat→(List Zh)→Int→Int→Option (((List Zh) × Int) ⊕ (ZL × Bool))
 | 0,_,_,_=>none
 | p+1,a,c,i=>
  if (decide ((IntKind.wrap .i64 (i + (1:Int)))<(List.length g:Int)))=true then
   ((idx g i).bind fun d=>
   (idx g (IntKind.wrap .i64 (i + (1:Int)))).bind fun k=>
   (Zbw l f (IntKind.wrap .u32 d)).bind fun q=>
   (Zbw m f (IntKind.wrap .u32 d)).bind fun r=>
   (n (IntKind.wrap .i64 (f + (1:Int))) q r j).bind fun b=>
   if (!b.2)=true then
    some (.inr (([]:ZL),false))
   else
    if ((List.length b.1:Int) == (0:Int))=true then
     some (.inl (a,c))
    else
     (some (decide ((List.length a:Int) > (0:Int)))).bind fun s=>
     (if s=true then
      (idx a (IntKind.wrap .i64 ((List.length a:Int) - (1:Int)))).bind fun t=>
      some ((IntKind.wrap .u32 (t.f_values.Hi + (1:Int))) == (IntKind.wrap .u32 d))
      else some false).bind fun u=>
     (some u).bind fun v=>
     (if v=true then
      (idx a (IntKind.wrap .i64 ((List.length a:Int) - (1:Int)))).bind fun w=>
      (Zan w.f_rest b.1).bind fun x=>
      some x
      else some false).bind fun y=>
     if y=true then
      (idx a (IntKind.wrap .i64 ((List.length a:Int) - (1:Int)))).bind fun o=>
      some (.inl ((List.set a (Int.toNat (IntKind.wrap .i64 ((List.length a:Int) - (1:Int)))) ({ o with f_values:=({ o.f_values with Hi:=(IntKind.wrap .u32 (IntKind.wrap .u64 (k - (1:Int)))) }:Zb) }:Zh)),c))
     else
      if List.length a + List.length [(Zh.mk (Zb.mk (IntKind.wrap .u32 d) (IntKind.wrap .u32 (IntKind.wrap .u64 (k - (1:Int))))) b.1)]≤lim then
      if (decide ((IntKind.wrap .i64 (c + (List.length b.1:Int))) > j))=true then
       some (.inr (([]:ZL),false))
      else
       some (.inl ((a++[(Zh.mk (Zb.mk (IntKind.wrap .u32 d) (IntKind.wrap .u32 (IntKind.wrap .u64 (k - (1:Int))))) b.1)]),(IntKind.wrap .i64 (c + (List.length b.1:Int)))))
      else none).bind fun(z:(((List Zh) × Int) ⊕ (ZL × Bool)))=>
   match z with
   | .inl (a0,a1)=>
     Zbi f l m j n g p a0 a1 (IntKind.wrap .i64 (i + (1:Int)))
   | .inr a2=>
     some (.inr a2)
  else
   some (.inl (a,c))
def Zbj (a:Int) (b:Zh):Nat→ZL→Int→Option ZL
 | 0,_,_=>none
 | g+1,c,d=>
  if (decide (d<(List.length b.f_rest:Int)))=true then
   (idx b.f_rest d).bind fun f=>
   if 0≤a∧a<5 then
   if List.length c + List.length [(Arr5.set f a b.f_values)]≤lim then
   Zbj a b g (c++[(Arr5.set f a b.f_values)]) (IntKind.wrap .i64 (d + (1:Int)))
   else none
   else none
  else
   some c
def Zbk (c:Int) (a:(List Zh)):Nat→ZL→Int→Option ZL
 | 0,_,_=>none
 | f+1,d,b=>
  if (decide (b<(List.length a:Int)))=true then
   (idx a b).bind fun g=>
   (Zbj c g fuel d (0:Int)).bind fun i=>
    Zbk c a f i (IntKind.wrap .i64 (b + (1:Int)))
  else
   some d
def Zac:Nat→Int→ZL→ZL→Int→Option (ZL × Bool)
 | 0,_,_,_,_=>none
 | nr+1,a,b,c,f=>
  if (a == (5:Int))=true then
   (Zd9 (decide ((List.length b:Int) > (0:Int))) (decide ((List.length c:Int) > (0:Int)))).bind fun g=>
   if g=true then
    some ([(Arr5.mk Zp Zp Zp Zp Zp)],true)
   else
    some (([]:ZL),true)
  else
   (some ((IntKind.wrap .i64 ((List.length b:Int) + (List.length c:Int))) == (0:Int))).bind fun i=>
   (if i=true then
    (Zd9 false false).bind fun j=>
    some (!j)
    else some false).bind fun k=>
   if k=true then
    some (([]:ZL),true)
   else
    (Zdx a [b,c]).bind fun l=>
    (Zbi a b c f (Zac nr) l fuel ([]:(List Zh)) (0:Int) (0:Int)).bind fun(m:(((List Zh) × Int) ⊕ (ZL × Bool)))=>
    match m with
    | .inl (n,d)=>
      if 0≤d∧d≤(lim:Int) then
      (Zbk a n fuel ([]:ZL) (0:Int)).bind fun o=>
       some (o,true)
      else none
    | .inr p=>
      some p
def Zcu (b:ZL) (c:ZL):Option (ZL × Int):=
 (Zac fuel (0:Int) b c (4096:Int)).bind fun a=>
 if (!a.2)=true then
  some (([]:ZL),(3:Int))
 else
  some (a.1,(0:Int))
def Zeu (d:ZL) (f:ZL):Option (ZL × Int):=
 (Zct d).bind fun a=>
 if (a.2 != (0:Int))=true then
  some (([]:ZL),a.2)
 else
  (Zct f).bind fun b=>
  if (b.2 != (0:Int))=true then
   some (([]:ZL),b.2)
  else
   (Zcu a.1 b.1).bind fun c=>
   some (c.1,c.2)
def Ze0 (b:ZL) (c:ZL):Option (ZL × Int):=
 (Zeu b c).bind fun a=>
 some (a.1,a.2)
def Zcw (c:Zj) (d:ZL) (f:ZL):Option (ZL × Zj):=
 (Ze0 d f).bind fun a=>
 (Zb0 c a.1 a.2).bind fun b=>
 some (b.1,b.2)
def Zbb (c:ZL):Nat→Zj→(List ZL)→ZL→Int→Option (Zj × (List ZL) × ZL)
 | 0,_,_,_,_=>none
 | k+1,d,a,b,f=>
  if (decide (f<(List.length c:Int)))=true then
   ((idx c f).bind fun g=>
   (Zgc g).bind fun l=>
   if (!l)=true then
    if List.length a + List.length [([]:ZL)]≤lim then
    some (d,(a++[([]:ZL)]),b)
    else none
   else
    (Za6 d b [g]).bind fun i=>
    if List.length a + List.length [i.1]≤lim then
    (Zcw i.2 b [g]).bind fun j=>
    some (j.2,(a++[i.1]),j.1)
    else none).bind fun m=>
   match m with
   | (n,o,p)=>
    Zbb c k n o p (IntKind.wrap .i64 (f + (1:Int)))
  else
   some (d,a,b)
def Zee (a:Zj) (b:ZL) (c:ZL):Option ((List ZL) × ZL × Zj):=
 (Zbb b fuel a ([]:(List ZL)) c (0:Int)).bind fun d=>
 match d with
 | (f,g,i)=>
  some (g,i,f)
def Ze1 (d:ZL) (f:ZL):Option (ZL × Int):=
 (Zct d).bind fun a=>
 if (a.2 != (0:Int))=true then
  some (([]:ZL),a.2)
 else
  (Zct f).bind fun b=>
  if (b.2 != (0:Int))=true then
   some (([]:ZL),b.2)
  else
   (Za3 a.1 b.1).bind fun c=>
   some (c.1,c.2)
def Zf6 (b:ZL) (c:ZL):Option (ZL × Int):=
 (Ze1 b c).bind fun a=>
 some (a.1,a.2)
def Zca (c:Zj) (d:ZL) (f:ZL):Option (ZL × Zj):=
 (Zf6 d f).bind fun a=>
 (Zb0 c a.1 a.2).bind fun b=>
 some (b.1,b.2)
def Zc8 (a:Zj) (b:ZL):Option (ZL × Int):=
 if (a.f_err != (0:Int))=true then
  some (([]:ZL),a.f_err)
 else
  if List.length b≤lim then
  some (b,(0:Int))
  else none
def Ziq:Nat→ZB→Int→Option ZB
 | 0,_,_=>none
 | c+1,b,a=>
  if (decide (a<(5:Int)))=true then
   if 0≤a∧a<5 then
   if 0≤a∧a<5 then
   Ziq c (Arr5.set b a ({ (Arr5.get b a) with Hi:=(Arr5.get Za5 a) }:Zb)) (IntKind.wrap .i64 (a + (1:Int)))
   else none
   else none
  else
   some b
def Zjd:Option ZB:=
 (Ziq fuel Zn (0:Int)).bind fun a=>
  some a
def Zdy (a:ZL):Nat→ZL→Int→Option ZL
 | 0,_,_=>none
 | f+1,b,c=>
  if (decide (c<(List.length a:Int)))=true then
   ((idx a c).bind fun g=>
   (Zdq g).bind fun i=>
   if i=true then
    (idx a c).bind fun d=>
    if List.length b + List.length [d]≤lim then
    some (b++[d])
    else none
   else
    some b).bind fun j=>
    Zdy a f j (IntKind.wrap .i64 (c + (1:Int)))
  else
   some b
def Zfz (a:ZL):Option ZL:=
 (Zdy a fuel ([]:ZL) (0:Int)).bind fun b=>
  some b
def Zgi (a:ZL) (b:ZL):Option Bool:=
 (Zfz a).bind fun c=>
 (Zfz b).bind fun d=>
 (Zcd fuel c d (2:Int) (0:Int)).bind fun f=>
 some ((List.length f:Int) == (0:Int))
def Zfp (k:Ze):Option (Zi × Ze):=
 (Zha).bind fun a=>
 (Zt k (2:Int)).bind fun f=>
 (idx [(3325256705:Int),(167772165:Int)] f.1).bind fun g=>
 (Zdi f.2 (65535:Int)).bind fun b=>
 (Zcl b.2).bind fun c=>
 ((Zt c.2 (2:Int)).bind fun d=>
 if (d.1 == (0:Int))=true then
  (Zt d.2 (3:Int)).bind fun i=>
  (idx [(6:Int),(17:Int),(1:Int)] i.1).bind fun j=>
  some (i.2,({ (Zi.mk a g b.1) with Match:=({ ({ a with x0:=c.1 }:ZB) with x2:=(Zb.mk j j) }:ZB) }:Zi))
 else
  some (d.2,({ (Zi.mk a g b.1) with Match:=({ a with x0:=c.1 }:ZB) }:Zi))).bind fun l=>
 match l with
 | (m,n)=>
  some (n,m)
def Zcb (c:Bool):Nat→Ze→(List Zi)→Int→Option (Ze × (List Zi))
 | 0,_,_,_=>none
 | p+1,i,d,j=>
  if (decide (j > (0:Int)))=true then
   ((Zfp i).bind fun a=>
   ((some c).bind fun q=>
   (if q=true then
    (Zt a.2 (6:Int)).bind fun k=>
    some ((k.1 == (5:Int)),k.2)
    else some (false,a.2)).bind fun f=>
   if f.1=true then
    (Zde f.2 a.1.Match).bind fun l=>
    some (l.2,({ a.1 with Match:=l.1 }:Zi))
   else
    some (f.2,a.1)).bind fun r=>
   match r with
   | (m,b)=>
    ((some c).bind fun s=>
    (if s=true then
     (Zt m (6:Int)).bind fun n=>
     some ((n.1 == (5:Int)),n.2)
     else some (false,m)).bind fun g=>
    if g.1=true then
     some (g.2,({ b with Ports:=({ b.Ports with Hi:=(IntKind.wrap .u32 (b.Ports.Hi + (65536:Int))) }:Zb) }:Zi))
    else
     some (g.2,b)).bind fun t=>
    match t with
    | (u,o)=>
     if List.length d + List.length [o]≤lim then
     some (u,(d++[o]))
     else none).bind fun v=>
   match v with
   | (w,x)=>
    Zcb c p w x (IntKind.wrap .i64 (j - (1:Int)))
  else
   some (i,d)
def Zfd (b:Ze) (c:Int) (d:Bool):Option ((List Zi) × Ze):=
 (Zt b (IntKind.wrap .i64 (c + (1:Int)))).bind fun a=>
 (Zcb d fuel a.2 ([]:(List Zi)) a.1).bind fun f=>
 match f with
 | (g,i)=>
  some (i,g)
def Zch (a:Zi):Option Bool:=
 (Zgc a.Match).bind fun b=>
 (some b).bind fun c=>
 (some (c && (decide (a.Ports.Lo≤a.Ports.Hi)))).bind fun d=>
 (if d=true then
  (Zhw (3:Int)).bind fun f=>
  some (decide (a.Ports.Hi≤f))
  else some false).bind fun g=>
 some g
def Zdb (a:(List Zi)):Nat→ZL→Int→Option ZL
 | 0,_,_=>none
 | g+1,b,c=>
  if (decide (c<(List.length a:Int)))=true then
   ((idx a c).bind fun d=>
   ((Zch d).bind fun i=>
   if (!i)=true then
    some ({ d with Match:=(Arr5.mk (Zb.mk (1:Int) (0:Int)) Zp Zp Zp Zp) }:Zi)
   else
    some d).bind fun f=>
    if List.length b + List.length [f.Match]≤lim then
    some (b++[f.Match])
    else none).bind fun j=>
    Zdb a g j (IntKind.wrap .i64 (c + (1:Int)))
  else
   some b
def Zf7 (a:(List Zi)):Option ZL:=
 (Zdb a fuel ([]:ZL) (0:Int)).bind fun b=>
  some b
def Zdo (a:Int) (d:(ZL × Int)):Nat→ZL→Int→Option ZL
 | 0,_,_=>none
 | f+1,b,c=>
  if (decide (c<(List.length d.1:Int)))=true then
   ((some (decide (a ≥ (0:Int)))).bind fun g=>
   if (g && (decide (a<(5:Int))))=true then
    (Zhw a).bind fun i=>
    (idx b c).bind fun j=>
    if 0≤a∧a<5 then
    some (List.set b (Int.toNat c) (Arr5.set j a (Zb.mk (0:Int) i)))
    else none
   else
    some b).bind fun k=>
    Zdo a d f k (IntKind.wrap .i64 (c + (1:Int)))
  else
   some b
def Zgj (c:ZL) (d:Int):Option (ZL × Int):=
 (Zct c).bind fun a=>
 if (a.2 != (0:Int))=true then
  some (([]:ZL),a.2)
 else
  if List.length a.1≤lim then
  (Zdo d a fuel a.1 (0:Int)).bind fun f=>
   (Za3 f ([]:ZL)).bind fun b=>
   some (b.1,b.2)
  else none
def Zc2 (c:Zj) (d:ZL) (f:Int):Option (ZL × Zj):=
 (Zgj d f).bind fun a=>
 (Zb0 c a.1 a.2).bind fun b=>
 some (b.1,b.2)
def Zb2 (c:Zi) (d:ZL):Nat→ZL→Int→Option ZL
 | 0,_,_=>none
 | g+1,b,a=>
  if (decide (a<(List.length d:Int)))=true then
   (idx b a).bind fun f=>
   (idx (List.set b (Int.toNat a) ({ f with x0:=(Zb.mk (IntKind.wrap .u32 (IntKind.wrap .i64 ((2:Int) * a))) (IntKind.wrap .u32 (IntKind.wrap .i64 ((2:Int) * a)))) }:ZB)) a).bind fun i=>
   Zb2 c d g (List.set (List.set b (Int.toNat a) ({ f with x0:=(Zb.mk (IntKind.wrap .u32 (IntKind.wrap .i64 ((2:Int) * a))) (IntKind.wrap .u32 (IntKind.wrap .i64 ((2:Int) * a)))) }:ZB)) (Int.toNat a) ({ i with x3:=c.Ports }:ZB)) (IntKind.wrap .i64 (a + (1:Int)))
  else
   some b
def Zb3 (b:Zi) (d:(ZL × Zj)):Nat→ZL→Int→Option ZL
 | 0,_,_=>none
 | f+1,c,a=>
  if (decide (a<(List.length d.1:Int)))=true then
   (idx c a).bind fun g=>
   Zb3 b d f (List.set c (Int.toNat a) ({ g with x0:=(Zb.mk b.Addr b.Addr) }:ZB)) (IntKind.wrap .i64 (a + (1:Int)))
  else
   some c
def Zd3 (d:Zj) (c:Zi) (b:ZL):Option (ZL × Zj):=
 if List.length b≤lim then
 (Zb2 c b fuel b (0:Int)).bind fun f=>
  (Zc2 d f (0:Int)).bind fun a=>
  if List.length a.1≤lim then
  (Zb3 c a fuel a.1 (0:Int)).bind fun g=>
   some (g,a.2)
  else none
 else none
def Zbx (b:(List Zi)) (c:((List ZL) × ZL × Zj)):Nat→Zj→ZL→Int→Option (Zj × ZL)
 | 0,_,_,_=>none
 | j+1,d,f,a=>
  if (decide (a<(List.length c.1:Int)))=true then
   ((idx c.1 a).bind fun k=>
   (idx b a).bind fun l=>
   (Zch l).bind fun m=>
   if m=true then
    (idx b a).bind fun n=>
    (Zd3 d n k).bind fun g=>
    (Zca g.2 f g.1).bind fun i=>
    some (i.2,i.1)
   else
    some (d,f)).bind fun o=>
   match o with
   | (p,q)=>
    Zbx b c j p q (IntKind.wrap .i64 (a + (1:Int)))
  else
   some (d,f)
def Zfe (b:(List Zi)) (g:ZL):Option (ZL × Int):=
 (Zf7 b).bind fun i=>
 (Zdt Zdu g).bind fun c=>
 (Zee c.2 i c.1).bind fun a=>
 (Zbx b a fuel a.2.2 ([]:ZL) (0:Int)).bind fun j=>
 match j with
 | (k,l)=>
  (Zca k l a.2.1).bind fun d=>
  (Zc8 d.2 d.1).bind fun f=>
  some (f.1,f.2)
def Zbc (c:(List Zi)) (i:(ZL × Zj)):Nat→Zj→ZL→ZL→Int→Option (Zj × ZL × ZL)
 | 0,_,_,_,_=>none
 | q+1,d,f,b,g=>
  if (decide (g<(List.length c:Int)))=true then
   ((idx c g).bind fun a=>
   (Zch a).bind fun r=>
   if (!r)=true then
    some (d,f,b)
   else
    (Zjd).bind fun s=>
    (Za6 d i.1 [({ ({ s with x0:=(Zb.mk a.Addr a.Addr) }:ZB) with x3:=a.Ports }:ZB)]).bind fun j=>
    (Zc2 j.2 j.1 (0:Int)).bind fun k=>
    (Zc2 k.2 k.1 (3:Int)).bind fun l=>
    (Za6 l.2 l.1 [a.Match]).bind fun m=>
    (Za6 m.2 m.1 b).bind fun n=>
    (Zca n.2 f n.1).bind fun o=>
    (Zcw o.2 b [a.Match]).bind fun p=>
    some (p.2,o.1,p.1)).bind fun t=>
   match t with
   | (u,v,w)=>
    Zbc c i q u v w (IntKind.wrap .i64 (g + (1:Int)))
  else
   some (d,f,b)
def Zef (f:(List Zi)) (g:ZL):Option (ZL × Int):=
 (Zdt Zdu g).bind fun a=>
 (Zjd).bind fun i=>
 (Zbc f a fuel a.2 ([]:ZL) [i] (0:Int)).bind fun j=>
 match j with
 | (k,l,m)=>
  (Za6 k m a.1).bind fun b=>
  (Zca b.2 l b.1).bind fun c=>
  (Zc8 c.2 c.1).bind fun d=>
  some (d.1,d.2)
def Zeo (a:Zi) (b:Zo):Option Bool:=
 (Zch a).bind fun c=>
 (some c).bind fun d=>
 (if d=true then
  (Zgd a.Match b).bind fun f=>
  some f
  else some false).bind fun g=>
 some g
def Z0 (b:(List Zi)) (c:Zo):Nat→Int→Option (Unit ⊕ Int)
 | 0,_=>none
 | d+1,a=>
  if (decide (a<(List.length b:Int)))=true then
   (idx b a).bind fun f=>
   (Zeo f c).bind fun g=>
   if g=true then
    some (.inr a)
   else
    Z0 b c d (IntKind.wrap .i64 (a + (1:Int)))
  else
   some (.inl ())
def Za7 (a:(List Zi)) (b:Zo):Option Int:=
 (Z0 a b fuel (0:Int)).bind fun(c:(Unit ⊕ Int))=>
 match c with
 | .inl ()=>
   some (-1:Int)
 | .inr d=>
   some d
def Zea (a:(List Zi)) (b:Zo):Option Int:=
 (Za7 a b).bind fun c=>
 some c
def Zg2 (b:(Arr5 Int)):Nat→ZB→Int→Option ZB
 | 0,_,_=>none
 | d+1,c,a=>
  if (decide (a<(5:Int)))=true then
   if 0≤a∧a<5 then
   if 0≤a∧a<5 then
   Zg2 b d (Arr5.set c a (Zb.mk (Arr5.get b a) (Arr5.get b a))) (IntKind.wrap .i64 (a + (1:Int)))
   else none
   else none
  else
   some c
def Zk0 (a:Zo):Option ZB:=
 (Zhu a).bind fun b=>
 (Zg2 b fuel Zn (0:Int)).bind fun c=>
  some c
def Zfj (a:Zi) (b:Zo):Option ZB:=
 (Zk0 b).bind fun c=>
 ((Zch a).bind fun d=>
 (some d).bind fun f=>
 (if f=true then
  (Zgd a.Match b).bind fun g=>
  some g
  else some false).bind fun i=>
 if i=true then
  some ({ ({ c with x0:=(Zb.mk a.Addr a.Addr) }:ZB) with x3:=a.Ports }:ZB)
 else
  some c).bind fun j=>
  some j
def Zc3 (a:ZL) (c:Zo):Nat→Int→Option (Unit ⊕ Bool)
 | 0,_=>none
 | d+1,b=>
  if (decide (b<(List.length a:Int)))=true then
   (idx a b).bind fun f=>
   (Zfn f c).bind fun g=>
   if g=true then
    some (.inr true)
   else
    Zc3 a c d (IntKind.wrap .i64 (b + (1:Int)))
  else
   some (.inl ())
def Zep (a:ZL) (b:Zo):Option Bool:=
 (Zc3 a b fuel (0:Int)).bind fun(c:(Unit ⊕ Bool))=>
 match c with
 | .inl ()=>
   some false
 | .inr d=>
   some d
def Zdz (a:ZL) (c:ZB):Nat→Int→Option (Unit ⊕ Bool)
 | 0,_=>none
 | d+1,b=>
  if (decide (b<(List.length a:Int)))=true then
   (idx a b).bind fun f=>
   (Zfb f c).bind fun g=>
   if g.2=true then
    some (.inr true)
   else
    Zdz a c d (IntKind.wrap .i64 (b + (1:Int)))
  else
   some (.inl ())
def Zgw (a:ZL) (b:ZB):Option Bool:=
 (Zdz a b fuel (0:Int)).bind fun(c:(Unit ⊕ Bool))=>
 match c with
 | .inl ()=>
   some false
 | .inr d=>
   some d
def Zaz (a:Zo) (f:((List Zi) × Ze)) (g:(ZL × Ze)) (j:(ZL × Int)) (k:(ZL × Int)) (b:(Zo × Ze)) (c:(Zo × Ze)):Nat→Int→Option (Unit ⊕ Bool)
 | 0,_=>none
 | m+1,d=>
  if (decide (d<(List.length [a,b.1,c.1]:Int)))=true then
   ((idx [a,b.1,c.1] d).bind fun n=>
   (Zhv n).bind fun o=>
   ((idx [a,b.1,c.1] d).bind fun p=>
   (Zea f.1 p).bind fun i=>
   if (decide (i ≥ (0:Int)))=true then
    if (decide (i ≥ (List.length f.1:Int)))=true then
     some (.inr false)
    else
     (idx f.1 i).bind fun q=>
     (idx [a,b.1,c.1] d).bind fun r=>
     (Zfj q r).bind fun s=>
     some (.inl s)
   else
    some (.inl o)).bind fun(t:(ZB ⊕ Bool))=>
   match t with
   | .inl l=>
     (idx [a,b.1,c.1] d).bind fun u=>
     (Zep g.1 u).bind fun v=>
     (some v).bind fun w=>
     (if w=true then
      (Zgi [l] j.1).bind fun x=>
      some (!x)
      else some false).bind fun y=>
     (some y).bind fun z=>
     (if z=true then some true else
      (idx [a,b.1,c.1] d).bind fun a0=>
      (Zep k.1 a0).bind fun a1=>
      (Zgw g.1 l).bind fun a2=>
      some (!(a1 == a2))
      ).bind fun a3=>
     if a3=true then
      some (.inr false)
     else
      some (.inl ())
   | .inr a4=>
     some (.inr a4)).bind fun(a5:(Unit ⊕ Bool))=>
   match a5 with
   | .inl ()=>
     Zaz a f g j k b c m (IntKind.wrap .i64 (d + (1:Int)))
   | .inr a6=>
     some (.inr a6)
  else
   some (.inl ())
def Zd6 (g:(List Int)) (i:Zo):Option Bool:=
 (Zjb g).bind fun j=>
 (Zfd j (3:Int) true).bind fun b=>
 (Zfc b.2 (3:Int) true).bind fun a=>
 (Zfe b.1 a.1).bind fun c=>
 (Zef b.1 a.1).bind fun d=>
 (some (c.2 != (0:Int))).bind fun k=>
 if (k || (d.2 != (0:Int)))=true then
  (some (c.2 == (3:Int))).bind fun l=>
  (some (l || (d.2 == (3:Int)))).bind fun m=>
  (if m=true then
   (Zh8).bind fun n=>
   some n
   else some false).bind fun o=>
  some o
 else
  (Zfm a.2 a.1).bind fun f=>
  (Zd1 f.2).bind fun p=>
  (Zaz i b a c d f p fuel (0:Int)).bind fun(q:(Unit ⊕ Bool))=>
  match q with
  | .inl ()=>
    (Zh8).bind fun r=>
    some r
  | .inr s=>
    some s
end Go.AM
set_option maxRecDepth 1000000
namespace Go.AM
open Go Go.Proofs
def glob:Glob:=[(0,Za4 Za5)]
def T0:Tab:=[]
theorem T0_ok:T0.ok Tryz.prog glob:=Tab.nil
def T1:Tab:=(147,[.sc (.int .i64 2),.sl 10 [[.sc (.int .u32 0),.sc (.int .u32 4294967295),.sc (.int .u32 5),.sc (.int .u32 5),.sc (.int .u32 0),.sc (.int .u32 255),.sc (.int .u32 0),.sc (.int .u32 65535),.sc (.int .u32 80),.sc (.int .u32 80)]],.sl 10 [[.sc (.int .u32 0),.sc (.int .u32 4294967295),.sc (.int .u32 5),.sc (.int .u32 5),.sc (.int .u32 0),.sc (.int .u32 255),.sc (.int .u32 0),.sc (.int .u32 65535),.sc (.int .u32 80),.sc (.int .u32 80)]],.sc (.func (.func 134) #[] #[]),.sc (.int .i64 4096)],.tup [.sl 10 [[.sc (.int .u32 0),.sc (.int .u32 0),.sc (.int .u32 0),.sc (.int .u32 0),.sc (.int .u32 0),.sc (.int .u32 255),.sc (.int .u32 0),.sc (.int .u32 65535),.sc (.int .u32 80),.sc (.int .u32 80)]],.sc (.bool true)]) :: T0
theorem T1_ok:T1.ok Tryz.prog glob:=Tab.cons T0_ok 100000 (by kernel_rfl)
def T2:Tab:=(133,[.sl 10 [[.sc (.int .u32 0),.sc (.int .u32 4294967295),.sc (.int .u32 5),.sc (.int .u32 5),.sc (.int .u32 0),.sc (.int .u32 255),.sc (.int .u32 0),.sc (.int .u32 65535),.sc (.int .u32 80),.sc (.int .u32 80)]],.sl 10 [[.sc (.int .u32 0),.sc (.int .u32 4294967295),.sc (.int .u32 5),.sc (.int .u32 5),.sc (.int .u32 0),.sc (.int .u32 255),.sc (.int .u32 0),.sc (.int .u32 65535),.sc (.int .u32 80),.sc (.int .u32 80)]],.sc (.func (.func 134) #[] #[])],.tup [.sl 10 [[.sc (.int .u32 0),.sc (.int .u32 4294967295),.sc (.int .u32 5),.sc (.int .u32 5),.sc (.int .u32 0),.sc (.int .u32 255),.sc (.int .u32 0),.sc (.int .u32 65535),.sc (.int .u32 80),.sc (.int .u32 80)]],.sc (.int .i64 0)]) :: T1
theorem T2_ok:T2.ok Tryz.prog glob:=Tab.cons T1_ok 100000 (by kernel_rfl)
def T3:Tab:=(147,[.sc (.int .i64 2),.sl 10 [[.sc (.int .u32 0),.sc (.int .u32 4294967295),.sc (.int .u32 5),.sc (.int .u32 5),.sc (.int .u32 0),.sc (.int .u32 255),.sc (.int .u32 0),.sc (.int .u32 65535),.sc (.int .u32 80),.sc (.int .u32 80)]],.sl 10 [[.sc (.int .u32 0),.sc (.int .u32 4294967295),.sc (.int .u32 5),.sc (.int .u32 5),.sc (.int .u32 0),.sc (.int .u32 255),.sc (.int .u32 0),.sc (.int .u32 65535),.sc (.int .u32 80),.sc (.int .u32 80)]],.sc (.func (.func 135) #[] #[]),.sc (.int .i64 4096)],.tup [.sl 10 [],.sc (.bool true)]) :: T2
theorem T3_ok:T3.ok Tryz.prog glob:=Tab.cons T2_ok 100000 (by kernel_rfl)
def T4:Tab:=(133,[.sl 10 [[.sc (.int .u32 0),.sc (.int .u32 4294967295),.sc (.int .u32 5),.sc (.int .u32 5),.sc (.int .u32 0),.sc (.int .u32 255),.sc (.int .u32 0),.sc (.int .u32 65535),.sc (.int .u32 80),.sc (.int .u32 80)]],.sl 10 [[.sc (.int .u32 0),.sc (.int .u32 4294967295),.sc (.int .u32 5),.sc (.int .u32 5),.sc (.int .u32 0),.sc (.int .u32 255),.sc (.int .u32 0),.sc (.int .u32 65535),.sc (.int .u32 80),.sc (.int .u32 80)]],.sc (.func (.func 135) #[] #[])],.tup [.sl 10 [],.sc (.int .i64 0)]) :: T3
theorem T4_ok:T4.ok Tryz.prog glob:=Tab.cons T3_ok 100000 (by kernel_rfl)
def T5:Tab:=(147,[.sc (.int .i64 1),.sc (.slice none 0 0),.sl 10 [[.sc (.int .u32 0),.sc (.int .u32 4294967295),.sc (.int .u32 7),.sc (.int .u32 7),.sc (.int .u32 0),.sc (.int .u32 255),.sc (.int .u32 0),.sc (.int .u32 65535),.sc (.int .u32 8080),.sc (.int .u32 8080)]],.sc (.func (.func 132) #[] #[]),.sc (.int .i64 4096)],.tup [.sl 10 [[.sc (.int .u32 0),.sc (.int .u32 0),.sc (.int .u32 7),.sc (.int .u32 7),.sc (.int .u32 0),.sc (.int .u32 255),.sc (.int .u32 0),.sc (.int .u32 65535),.sc (.int .u32 8080),.sc (.int .u32 8080)]],.sc (.bool true)]) :: T4
theorem T5_ok:T5.ok Tryz.prog glob:=Tab.cons T4_ok 100000 (by kernel_rfl)
def T6:Tab:=(147,[.sc (.int .i64 1),.sl 10 [[.sc (.int .u32 0),.sc (.int .u32 4294967295),.sc (.int .u32 7),.sc (.int .u32 7),.sc (.int .u32 0),.sc (.int .u32 255),.sc (.int .u32 0),.sc (.int .u32 65535),.sc (.int .u32 8080),.sc (.int .u32 8080)]],.sc (.slice none 0 0),.sc (.func (.func 132) #[] #[]),.sc (.int .i64 4096)],.tup [.sl 10 [[.sc (.int .u32 0),.sc (.int .u32 0),.sc (.int .u32 7),.sc (.int .u32 7),.sc (.int .u32 0),.sc (.int .u32 255),.sc (.int .u32 0),.sc (.int .u32 65535),.sc (.int .u32 8080),.sc (.int .u32 8080)]],.sc (.bool true)]) :: T5
theorem T6_ok:T6.ok Tryz.prog glob:=Tab.cons T5_ok 100000 (by kernel_rfl)
def T7:Tab:=(16,[.sl 20 [[.sc (.int .u32 0),.sc (.int .u32 4294967295),.sc (.int .u32 5),.sc (.int .u32 5),.sc (.int .u32 0),.sc (.int .u32 255),.sc (.int .u32 0),.sc (.int .u32 65535),.sc (.int .u32 80),.sc (.int .u32 80),.sc (.int .u32 0),.sc (.int .u32 4294967295),.sc (.int .u32 7),.sc (.int .u32 7),.sc (.int .u32 0),.sc (.int .u32 255),.sc (.int .u32 0),.sc (.int .u32 65535),.sc (.int .u32 8080),.sc (.int .u32 8080)]],.sl 10 [[.sc (.int .u32 0),.sc (.int .u32 4294967295),.sc (.int .u32 5),.sc (.int .u32 5),.sc (.int .u32 0),.sc (.int .u32 255),.sc (.int .u32 0),.sc (.int .u32 65535),.sc (.int .u32 80),.sc (.int .u32 80)]]],.tup [.sl 10 [[.sc (.int .u32 0),.sc (.int .u32 4294967295),.sc (.int .u32 7),.sc (.int .u32 7),.sc (.int .u32 0),.sc (.int .u32 255),.sc (.int .u32 0),.sc (.int .u32 65535),.sc (.int .u32 8080),.sc (.int .u32 8080)]],.sc (.int .i64 0)]) :: T6
theorem T7_ok:T7.ok Tryz.prog glob:=Tab.cons T6_ok 100000 (by kernel_rfl)
def T8:Tab:=(14,[],.sc (.bool true)) :: T7
theorem T8_ok:T8.ok Tryz.prog glob:=Tab.cons T7_ok 100000 (by kernel_rfl)
end Go.AM
set_option maxRecDepth 100000
namespace Go.AM
open Go Go.Proofs
def Zso (r:Bool):PV→List Blk→Prop:=fun p K=>p=(vb r)∧K=[]
theorem Zjz (r:Bool) (hF:Zh8=some r):ACall Tryz.prog glob 14 [] [] (Zso r):=by
 have hr:=someb hF
 subst hr
 exact(T8_ok _ (List.mem_cons.2 (.inl rfl))).1
def Zuy (r:Ze):PV→List Blk→Prop:=fun p K=>p=(.ptr 0 0)∧K=[.cells (Zg r)]
theorem Zuz (a:(List Int)) (r:Ze) (hF:Zjb a=some r):ACall Tryz.prog glob 8 [(slc 1 Zag a)] [] (Zuy r):=by
 refine ACall.body Tryz.func8 rfl (by kernel_rfl) ?_
 unfold Zjb at hF
 refine AWP.seq (AWP.rg0 [] [(0,(slc 1 Zag a))] (AWP.seq (AWP.rg [] [(2,(.ptr 0 0))] [.cells (Zg (Ze.mk a (0:Int)))] (AWP.ret ?_))))
 have hr:=someb hF
 subst hr
 exact(FnQ.f0 1 (.inr rfl))
def Zu0 (r:Int):PV→List Blk→Prop:=fun p K=>p=(i64 r)∧K=[]
theorem Zob (a:Int) (b:Int) (r:Int) (hF:Zg9 a b=some r):ACall Tryz.prog glob 86 [(i64 a),(i64 b)] [] (Zu0 r):=by
 refine ACall.body Tryz.func86 rfl (by kernel_rfl) ?_
 unfold Zg9 at hF
 refine AWP.seq (AWP.rg0 [] [(0,(i64 a)),(1,(i64 b))] (AWP.seq ?_))
 obtain⟨c,hF⟩:=chkb hF
 refine AWP.rg0 [(4,.rem c)] [(4,(i64 (ZI (Int.tmod (IntKind.wrap .u64 a) (IntKind.wrap .u64 b)))))] (AWP.ret ?_)
 have hr:=someb hF
 subst hr
 exact(FnQ.f0 0 (.inr rfl))
def Zoc (r:(Int × Ze)):PV→List Blk→Prop:=fun p K=>p=(i64 r.1)∧K=[.cells (Zg r.2)]
theorem Zu (a:Ze) (b:Int) (r:(Int × Ze)) (hF:Zt a b=some r):ACall Tryz.prog glob 32 [(.ptr 0 0),(i64 b)] [.cells (Zg a)] (Zoc r):=by
 refine ACall.body Tryz.func32 rfl (by kernel_rfl) ?_
 unfold Zt at hF
 refine AWP.seq (AWP.rg0 [] [(0,(.ptr 0 0)),(1,(i64 b))] (AWP.seq (AWP.seq ?_)))
 obtain⟨d,c,hF⟩:=bindb hF
 replace c:=someb c
 refine AWP.to [(0,(.ptr 0 0)),(1,(i64 b)),(18,(vb (d || (decide (a.f_i ≥ (List.length a.f_l:Int))))))] [.cells (Zg a)] ?_ ?_
 ·cases d with
  | false=>
   exact AWP.drT [(2,.bool c),(11,.len Zag a.f_l)] 14 [] [] []
  | true=>
   exact AWP.drT [(2,.bool c)] 14 [] [] []
 refine AWP.cif hF (fun g hF=>?_) (fun g hF=>?_)
 ·refine AWP.seq (AWP.rg0 [] [(4,(i64 (0:Int)))] (AWP.ret ?_))
  have hr:=someb hF
  subst hr
  exact(FnQ.f0 1 (.inr rfl))
 ·refine AWP.skip (AWP.seq (AWP.rg [] [(0,(.ptr 0 0)),(1,(i64 b))] [.cells (Zg ({ a with f_i:=(ZI (a.f_i + (1:Int))) }:Ze))] (AWP.seq ?_)))
  obtain⟨i,j,hF⟩:=bindb hF
  obtain⟨f,k,hF⟩:=bindb hF
  refine AWP.dr [(9,.idx Zag j),(12,.call Tryz.func86 [] (Zob i b f k))] 13 [] [] [] [(4,(i64 f))] [.cells (Zg ({ a with f_i:=(ZI (a.f_i + (1:Int))) }:Ze))] (AWP.ret ?_)
  have hr:=someb hF
  subst hr
  exact(FnQ.f0 1 (.inr rfl))
def Znm (r:Int):PV→List Blk→Prop:=fun p K=>p=(u32 r)∧K=[]
abbrev Zt8 (r:Int):Exit→St→List Blk→Prop:=FnQ Tryz.prog Tryz.f43.results 0 (Znm r)
theorem Zhj (a:Int) (r:Int) (hF:Ze6 a=some r):ACall Tryz.prog glob 43 [(i64 a)] [] (Znm r):=by
 refine ACall.body Tryz.func43 rfl (by kernel_rfl) ?_
 unfold Ze6 at hF
 refine AWP.seq (AWP.rg0 [] [(0,(i64 a))] ?_)
 obtain⟨b,c,hF⟩:=bindb hF
 refine AWP.seq ?_
 refine AWP.mid (fun e st H=>(e=.normal∧b=(.inl ())∧st=[]∧H=[])∨(e=.ret∧∃ r,b=(.inr r)∧Zt8 r e st H)) ?_ ?_
 ·clear hF
  have hF:=c
  refine AWP.seq (AWP.rg0 [] [(3,(i64 a))] (AWP.block ?_))
  obtain⟨d,f,hF⟩:=bindb hF
  refine AWP.seq ?_
  refine AWP.mid (fun e st H=>e=.normal∧st=[(3,(i64 a)),(4,(vb d))]∧H=[]) ?_ ?_
  ·clear hF
   have hF:=f
   refine AWP.seq (AWP.rg0 [] [(3,(i64 a)),(4,(vb (a == (0:Int))))] ?_)
   refine AWP.cif hF (fun g hF=>?_) (fun g hF=>?_)
   ·refine AWP.skip (LeQ.start (LeQ.pk [3,4] 0 ?_))
    have hr:=someb hF
    subst hr
    exact⟨rfl,by kernel_rfl,by kernel_rfl⟩
   ·refine AWP.rg0 [] [(3,(i64 a)),(4,(vb (a == (1:Int))))] (LeQ.start (LeQ.pk [3,4] 0 ?_))
    have hr:=someb hF
    subst hr
    exact⟨rfl,by kernel_rfl,by kernel_rfl⟩
  ·rintro _ _ _ ⟨rfl,rfl,rfl⟩
   refine AWP.cif hF (fun i hF=>?_) (fun i hF=>?_)
   ·refine AWP.seq (AWP.rg0 [] [(2,(u32 (4294967295:Int)))] (AWP.ret ?_))
    exact LeQ.of (.inr ⟨rfl,(4294967295:Int),(someb hF).symm,(FnQ.f0 0 (.inr rfl))⟩)
   ·refine AWP.seq (AWP.rg0 [] [(3,(i64 a)),(7,(vb (a == (2:Int))))] ?_)
    refine AWP.cif hF (fun j hF=>?_) (fun j hF=>?_)
    ·refine AWP.seq (AWP.rg0 [] [(2,(u32 (255:Int)))] (AWP.ret ?_))
     exact LeQ.of (.inr ⟨rfl,(255:Int),(someb hF).symm,(FnQ.f0 0 (.inr rfl))⟩)
    ·obtain⟨k,l,hF⟩:=bindb hF
     refine AWP.seq ?_
     refine AWP.mid (fun e st H=>e=.normal∧st=[(9,(vb k))]∧H=[]) ?_ ?_
     ·clear hF
      have hF:=l
      refine AWP.seq (AWP.rg0 [] [(3,(i64 a)),(9,(vb (a == (3:Int))))] ?_)
      refine AWP.cif hF (fun m hF=>?_) (fun m hF=>?_)
      ·refine AWP.skip (LeQ.start (LeQ.pk [9] 0 ?_))
       have hr:=someb hF
       subst hr
       exact⟨rfl,by kernel_rfl,by kernel_rfl⟩
      ·refine AWP.rg0 [] [(9,(vb (a == (4:Int))))] (LeQ.start (LeQ.pk [9] 0 ?_))
       have hr:=someb hF
       subst hr
       exact⟨rfl,by kernel_rfl,by kernel_rfl⟩
     ·rintro _ _ _ ⟨rfl,rfl,rfl⟩
      refine AWP.cif hF (fun n hF=>?_) (fun n hF=>?_)
      ·refine AWP.seq (AWP.rg0 [] [(2,(u32 (65535:Int)))] (AWP.ret ?_))
       exact LeQ.of (.inr ⟨rfl,(65535:Int),(someb hF).symm,(FnQ.f0 0 (.inr rfl))⟩)
      ·refine AWP.skip (LeQ.start (LeQ.pk [] 0 ?_))
       exact(.inl ⟨rfl,(someb hF).symm,by kernel_rfl,by kernel_rfl⟩)
 ·rintro _ _ _ (⟨rfl,rfl,rfl,rfl⟩ | ⟨rfl,o,rfl,hq⟩)
  ·refine AWP.seq (AWP.rg0 [] [(2,(u32 (0:Int)))] (AWP.ret ?_))
   have hr:=someb hF
   subst hr
   exact(FnQ.f0 0 (.inr rfl))
  ·have hr:=someb hF
   subst hr
   exact hq
def Zsp (r:ZB):PV→List Blk→Prop:=fun p K=>p=(Z9 r)∧K=[]
theorem Zia (r:ZB) (hF:Zha=some r):ACall Tryz.prog glob 47 [] [] (Zsp r):=by
 refine ACall.body Tryz.func47 rfl (by kernel_rfl) ?_
 unfold Zha at hF
 refine AWP.seq (AWP.rg [] [(0,(.ptr 0 0))] [.cells (Za Zn)] (AWP.seq (AWP.rg [] [(0,(.ptr 0 0)),(1,(.ptr 1 0))] [.cells (Za Zn),.cells (Za Zn)] (AWP.seq (AWP.seq (AWP.rg0 [] [(0,(.ptr 0 0)),(1,(.ptr 1 0)),(2,(i64 (0:Int)))] ?_))))))
 obtain⟨c,j,hF⟩:=bindb hF
 refine AWP.mid (fun e st H=>e=.normal∧st=[(0,(.ptr 0 0)),(1,(.ptr 1 0))]∧H=[.cells (Za Zn),.cells (Za c)]) ?_ ?_
 ·clear hF
  refine AWP.kp [0,1,2] 2 ?_
  refine AWP.bround (fun n st H=>∃ b,∃ a,Zg7 n b a=some c∧st=[(0,(.ptr 0 0)),(1,(.ptr 1 0)),(2,(i64 a))]∧H=[.cells (Za Zn),.cells (Za b)]) fuel ⟨Zn,(0:Int),j,by kernel_rfl,by kernel_rfl⟩ ?_
  rintro f st H ⟨b,a,hF,rfl,rfl⟩
  cases f with
  | zero=>exact noneb hF
  | succ f=>
   rw [Zg7] at hF
   refine AWP.seq (AWP.seq (AWP.rg0 [] [(0,(.ptr 0 0)),(1,(.ptr 1 0)),(2,(i64 a)),(4,(vb (decide (a<(5:Int)))))] ?_))
   refine AWP.cif hF (fun k hF=>?_) (fun k hF=>?_)
   ·refine AWP.skip (AWP.seq (AWP.block ?_))
    obtain⟨d,l,hF⟩:=bindb hF
    obtain⟨g,hF⟩:=chkb hF
    refine AWP.rg [(2,.call Tryz.func43 [] (Zhj a d l)),(3,.ixd g),(5,.stA (fun i=>Za (Arr5.set b i ({ (Arr5.get b i) with Hi:=d }:Zb))) 0 2 1 g)] [(0,(.ptr 0 0)),(1,(.ptr 1 0)),(2,(i64 a))] [.cells (Za Zn),.cells (Za (Arr5.set b a ({ (Arr5.get b a) with Hi:=d }:Zb)))] (AWP.rg0 [] [(0,(.ptr 0 0)),(1,(.ptr 1 0)),(2,(i64 (ZI (a + (1:Int)))))] (LeQ.start (LeQ.pk [0,1,2] 2 ?_)))
    exact⟨f,Nat.lt_succ_self _,(Arr5.set b a ({ (Arr5.get b a) with Hi:=d }:Zb)),(ZI (a + (1:Int))),hF,by kernel_rfl,by kernel_rfl⟩
   ·refine AWP.exit (LeQ.start (LeQ.pk [0,1] 2 ?_))
    have hr:=someb hF
    subst hr
    exact⟨rfl,by kernel_rfl,by kernel_rfl⟩
 ·rintro _ _ _ ⟨rfl,rfl,rfl⟩
  refine AWP.seq (AWP.rg [] [(0,(.ptr 0 0))] [.cells (Za c),.cells (Za c)] (AWP.ret ?_))
  have hr:=someb hF
  subst hr
  exact(FnQ.f0 0 (.inr rfl))
def Zm2 (r:(Int × Ze)):PV→List Blk→Prop:=fun p K=>p=(u32 r.1)∧K=[.cells (Zg r.2)]
theorem Zga (b:Ze) (a:Int) (r:(Int × Ze)) (hF:Zco b a=some r):ACall Tryz.prog glob 46 [(.ptr 0 0),(u32 a)] [.cells (Zg b)] (Zm2 r):=by
 refine ACall.body Tryz.func46 rfl (by kernel_rfl) ?_
 unfold Zco at hF
 refine AWP.seq (AWP.rg0 [] [(0,(.ptr 0 0)),(1,(u32 a))] (AWP.seq ?_))
 obtain⟨c,f,hF⟩:=bindb hF
 obtain⟨d,g,hF⟩:=bindb hF
 refine AWP.rg [(7,.call Tryz.func32 [] (Zu b (17:Int) c f)),(8,.idx Zdd g)] [(1,(u32 a)),(5,(u32 d))] [.cells (Zg c.2)] (AWP.seq (AWP.rg0 [] [(4,(u32 (iMin d a)))] (AWP.ret ?_)))
 have hr:=someb hF
 subst hr
 exact(FnQ.f0 1 (.inr rfl))
def Zno (r:(Zb × Ze)):PV→List Blk→Prop:=fun p K=>p=(Zky r.1)∧K=[.cells (Zg r.2)]
theorem Zff (d:Ze) (b:Int) (r:(Zb × Ze)) (hF:Zdi d b=some r):ACall Tryz.prog glob 118 [(.ptr 0 0),(u32 b)] [.cells (Zg d)] (Zno r):=by
 refine ACall.body Tryz.func118 rfl (by kernel_rfl) ?_
 unfold Zdi at hF
 refine AWP.seq (AWP.rg [] [(0,(.ptr 0 0)),(1,(u32 b)),(4,(.ptr 1 0))] [.cells (Zg d),.cells (Zl Zp)] (AWP.seq ?_))
 obtain⟨c,f,hF⟩:=bindb hF
 obtain⟨a,g,hF⟩:=bindb hF
 refine AWP.rg [(2,.call Tryz.func46 [] (Zga d b c f)),(5,.call Tryz.func46 [] (Zga c.2 b a g))] [(4,(.ptr 1 0)),(5,(u32 c.1)),(6,(u32 a.1))] [.cells (Zg a.2),.cells (Zl Zp)] (AWP.seq (AWP.rg [] [(4,(.ptr 1 0))] [.cells (Zg a.2),.cells (Zl (Zb.mk (iMin c.1 a.1) (iMax c.1 a.1)))] (AWP.ret ?_)))
 have hr:=someb hF
 subst hr
 exact(FnQ.f0 1 (.inr rfl))
def Zrs (r:Zbl):PV→List Blk→Prop:=fun p K=>p=(Zkg r)∧K=[]
theorem Zlm (a:Int) (r:Zbl) (hF:Zfw a=some r):ACall Tryz.prog glob 88 [(i64 a)] [] (Zrs r):=by
 refine ACall.body Tryz.func88 rfl (by kernel_rfl) ?_
 unfold Zfw at hF
 refine AWP.seq (AWP.rg [] [(0,(i64 a)),(2,(.ptr 0 0))] [.cells (Zc1 Zux)] (AWP.seq ?_))
 obtain⟨b,c,hF⟩:=bindb hF
 obtain⟨d,f,hF⟩:=bindb hF
 refine AWP.rg [(8,.call Tryz.func86 [] (Zob a (6:Int) b c)),(9,.idx Zc1 f)] [(2,(.ptr 0 0))] [.cells (Zc1 d)] (AWP.ret ?_)
 have hr:=someb hF
 subst hr
 exact(FnQ.f0 0 (.inr rfl))
def Zsq (r:Int):PV→List Blk→Prop:=fun p K=>p=(u64 r)∧K=[]
theorem Zmf (a:Int) (r:Int) (hF:Zh9 a=some r):ACall Tryz.prog glob 127 [(i64 a)] [] (Zsq r):=by
 refine ACall.body Tryz.func127 rfl (by kernel_rfl) ?_
 unfold Zh9 at hF
 refine AWP.seq (AWP.rg0 [] [(0,(i64 a))] (AWP.seq ?_))
 obtain⟨b,hF⟩:=chkb hF
 refine AWP.rg0 [(3,.sh b)] [(2,(u64 (bShl .u64 (1:Int) (IntKind.wrap .u64 (ZI ((32:Int) - a))))))] (AWP.ret ?_)
 have hr:=someb hF
 subst hr
 exact(FnQ.f0 0 (.inr rfl))
def Zrt (r:Bool):PV→List Blk→Prop:=fun p K=>p=(vb r)∧K=[]
theorem Zru (b:Zbl) (r:Bool) (hF:Zjc b=some r):ACall Tryz.prog glob 126 [(Zkg b)] [] (Zrt r):=by
 refine ACall.body Tryz.func126 rfl (by kernel_rfl) ?_
 unfold Zjc at hF
 refine AWP.seq (AWP.rg [] [(1,(.ptr 0 0))] [.cells (Zc1 b)] (AWP.seq ?_))
 obtain⟨g,c,hF⟩:=bindb hF
 replace c:=someb c
 obtain⟨i,d,hF⟩:=bindb hF
 replace d:=someb d
 obtain⟨j,f,hF⟩:=bindb hF
 refine AWP.to [(2,(vb j))] [.cells (Zc1 b)] ?_ ?_
 ·cases g with
  | false=>
   subst d
   have k:=someb (ifF f rfl)
   subst k
   exact AWP.drT [(3,.bool c)] 18 [] [] []
  | true=>
   cases i with
   | false=>
    have l:=someb (ifF f rfl)
    subst l
    exact AWP.drT [(3,.bool c),(8,.bool d)] 18 [] [] []
   | true=>
    have a:=ifT f rfl
    obtain⟨m,n,a⟩:=bindb a
    obtain⟨o,a⟩:=chkb a
    replace a:=someb a
    subst a
    exact AWP.drT [(3,.bool c),(8,.bool d),(14,.call Tryz.func127 [] (Zmf b.Bits m n)),(15,.rem o)] 18 [] [] []
 refine AWP.ret ?_
 have hr:=someb hF
 subst hr
 exact(FnQ.f0 0 (.inr rfl))
def Zu1 (r:(Zb × Bool)):PV→List Blk→Prop:=fun p K=>p=(.tup [(Zky r.1),(vb r.2)])∧K=[]
theorem Zod (a:Zbl) (r:(Zb × Bool)) (hF:Zht a=some r):ACall Tryz.prog glob 87 [(Zkg a)] [] (Zu1 r):=by
 refine ACall.body Tryz.func87 rfl (by kernel_rfl) ?_
 unfold Zht at hF
 refine AWP.seq (AWP.rg [] [(1,(.ptr 0 0)),(2,(.ptr 1 0))] [.cells (Zc1 a),.cells (Zl Zp)] (AWP.seq (AWP.seq ?_)))
 obtain⟨b,d,hF⟩:=bindb hF
 refine AWP.rg0 [(1,.call Tryz.func126 [] (Zru a b d))] [(1,(.ptr 0 0)),(2,(.ptr 1 0)),(6,(vb (!b)))] ?_
 refine AWP.cif hF (fun f hF=>?_) (fun f hF=>?_)
 ·refine AWP.seq (AWP.rg [] [(2,(.ptr 1 0)),(3,(vb false))] [.cells (Zc1 a),.cells (Zl (Zb.mk (0:Int) (0:Int)))] (AWP.ret ?_))
  have hr:=someb hF
  subst hr
  exact(FnQ.f0 0 (.inr rfl))
 ·refine AWP.skip (AWP.seq ?_)
  obtain⟨c,g,hF⟩:=bindb hF
  refine AWP.dr [(7,.call Tryz.func127 [] (Zmf a.Bits c g))] 12 [] [] [] [(2,(.ptr 1 0)),(3,(vb true))] [.cells (Zc1 a),.cells (Zl (Zb.mk a.Addr (IntKind.wrap .u32 (IntKind.wrap .u64 ((IntKind.wrap .u64 ((IntKind.wrap .u64 a.Addr) + c)) - (1:Int))))))] (AWP.ret ?_)
  have hr:=someb hF
  subst hr
  exact(FnQ.f0 0 (.inr rfl))
def Zoe (r:(Int × Ze)):PV→List Blk→Prop:=fun p K=>p=(u32 r.1)∧K=[.cells (Zg r.2)]
theorem Zfq (d:Ze) (r:(Int × Ze)) (hF:Zcp d=some r):ACall Tryz.prog glob 45 [(.ptr 0 0)] [.cells (Zg d)] (Zoe r):=by
 refine ACall.body Tryz.func45 rfl (by kernel_rfl) ?_
 unfold Zcp at hF
 refine AWP.seq (AWP.rg0 [] [(0,(.ptr 0 0))] (AWP.seq (AWP.seq ?_)))
 obtain⟨a,j,hF⟩:=bindb hF
 refine AWP.rg [(1,.call Tryz.func32 [] (Zu d (5:Int) a j))] [(0,(.ptr 0 0)),(8,(vb (a.1 == (4:Int))))] [.cells (Zg a.2)] ?_
 refine AWP.cif hF (fun k hF=>?_) (fun k hF=>?_)
 ·refine AWP.seq ?_
  obtain⟨g,l,hF⟩:=bindb hF
  obtain⟨m,n,hF⟩:=bindb hF
  refine AWP.rg [(2,.call Tryz.func32 [] (Zu a.2 (6:Int) g l)),(3,.idx Zdd n)] [(2,(u32 m))] [.cells (Zg g.2)] (AWP.ret ?_)
  have hr:=someb hF
  subst hr
  exact(FnQ.f0 1 (.inr rfl))
 ·refine AWP.skip (AWP.seq ?_)
  obtain⟨b,o,hF⟩:=bindb hF
  obtain⟨c,p,hF⟩:=bindb hF
  refine AWP.rg [(1,.call Tryz.func32 [] (Zu a.2 (6:Int) b o)),(2,.call Tryz.func88 [] (Zlm b.1 c p))] [(0,(.ptr 0 0)),(3,(.ptr 1 0))] [.cells (Zg b.2),.cells (Zc1 c)] (AWP.seq ?_)
  obtain⟨f,q,hF⟩:=bindb hF
  refine AWP.rg [(1,.call Tryz.func87 [] (Zod c f q))] [(0,(.ptr 0 0)),(4,(.ptr 2 0))] [.cells (Zg b.2),.cells (Zc1 c),.cells (Zl f.1)] (AWP.seq ?_)
  obtain⟨i,s,hF⟩:=bindb hF
  obtain⟨t,u,hF⟩:=bindb hF
  refine AWP.dr [(15,.call Tryz.func32 [] (Zu b.2 (5:Int) i s)),(16,.idx Zdd u)] 18 [] [15] [] [(2,(u32 t))] [.cells (Zg i.2),.cells (Zc1 c),.cells (Zl f.1)] (AWP.ret ?_)
  have hr:=someb hF
  subst hr
  exact(FnQ.f0 1 (.inr rfl))
def Zlc (r:(Zb × Ze)):PV→List Blk→Prop:=fun p K=>p=(Zky r.1)∧K=[.cells (Zg r.2)]
theorem Zgr (f:Ze) (r:(Zb × Ze)) (hF:Zcl f=some r):ACall Tryz.prog glob 117 [(.ptr 0 0)] [.cells (Zg f)] (Zlc r):=by
 refine ACall.body Tryz.func117 rfl (by kernel_rfl) ?_
 unfold Zcl at hF
 refine AWP.seq (AWP.rg [] [(0,(.ptr 0 0)),(2,(.ptr 1 0))] [.cells (Zg f),.cells (Zl Zp)] (AWP.seq (AWP.seq ?_)))
 obtain⟨a,k,hF⟩:=bindb hF
 refine AWP.rg [(1,.call Tryz.func32 [] (Zu f (4:Int) a k))] [(0,(.ptr 0 0)),(2,(.ptr 1 0)),(9,(i64 a.1))] [.cells (Zg a.2),.cells (Zl Zp)] (AWP.block (AWP.seq (AWP.rg0 [] [(0,(.ptr 0 0)),(2,(.ptr 1 0)),(9,(i64 a.1)),(10,(vb (a.1 == (0:Int))))] ?_)))
 refine AWP.cif hF (fun l hF=>?_) (fun l hF=>?_)
 ·refine AWP.seq ?_
  obtain⟨g,m,hF⟩:=bindb hF
  obtain⟨j,n,hF⟩:=bindb hF
  obtain⟨i,o,hF⟩:=bindb hF
  refine AWP.rg [(1,.call Tryz.func32 [] (Zu a.2 (6:Int) g m)),(2,.call Tryz.func88 [] (Zlm g.1 j n)),(3,.call Tryz.func87 [] (Zod j i o))] [(2,(.ptr 1 0)),(3,(.ptr 2 0))] [.cells (Zg g.2),.cells (Zl Zp),.cells (Zl i.1)] (AWP.seq (AWP.rg [] [(2,(.ptr 1 0))] [.cells (Zg g.2),.cells (Zl i.1),.cells (Zl i.1)] (AWP.ret ?_)))
  have hr:=someb hF
  subst hr
  exact(FnQ.f0 1 (.inr rfl))
 ·refine AWP.seq (AWP.rg0 [] [(0,(.ptr 0 0)),(2,(.ptr 1 0)),(9,(i64 a.1)),(20,(vb (a.1 == (1:Int))))] ?_)
  refine AWP.cif hF (fun p hF=>?_) (fun p hF=>?_)
  ·refine AWP.seq ?_
   obtain⟨d,q,hF⟩:=bindb hF
   obtain⟨b,s,hF⟩:=bindb hF
   refine AWP.rg [(1,.call Tryz.func45 [] (Zfq a.2 d q)),(3,.call Tryz.func45 [] (Zfq d.2 b s))] [(2,(.ptr 1 0)),(5,(u32 d.1)),(6,(u32 b.1))] [.cells (Zg b.2),.cells (Zl Zp)] (AWP.seq (AWP.rg [] [(2,(.ptr 1 0))] [.cells (Zg b.2),.cells (Zl (Zb.mk (iMin d.1 b.1) (iMax d.1 b.1)))] (AWP.ret ?_)))
   have hr:=someb hF
   subst hr
   exact(FnQ.f0 1 (.inr rfl))
  ·refine AWP.seq (AWP.rg0 [] [(0,(.ptr 0 0)),(2,(.ptr 1 0)),(33,(vb (a.1 == (2:Int))))] ?_)
   refine AWP.cif hF (fun t hF=>?_) (fun t hF=>?_)
   ·refine AWP.seq ?_
    obtain⟨c,u,hF⟩:=bindb hF
    refine AWP.rg [(1,.call Tryz.func45 [] (Zfq a.2 c u))] [(2,(.ptr 1 0)),(7,(u32 c.1))] [.cells (Zg c.2),.cells (Zl Zp)] (AWP.seq (AWP.rg [] [(2,(.ptr 1 0))] [.cells (Zg c.2),.cells (Zl (Zb.mk c.1 c.1))] (AWP.ret ?_)))
    have hr:=someb hF
    subst hr
    exact(FnQ.f0 1 (.inr rfl))
   ·refine AWP.skip (AWP.seq (AWP.rg [] [(2,(.ptr 1 0))] [.cells (Zg a.2),.cells (Zl (Zb.mk (0:Int) (4294967295:Int)))] (AWP.ret ?_)))
    have hr:=someb hF
    subst hr
    exact(FnQ.f0 1 (.inr rfl))
def Zof (r:(Zi × Ze)):PV→List Blk→Prop:=fun p K=>p=(Zin r.1)∧K=[.cells (Zg r.2)]
theorem Zog (f:Ze) (r:(Zi × Ze)) (hF:Zfp f=some r):ACall Tryz.prog glob 68 [(.ptr 0 0)] [.cells (Zg f)] (Zof r):=by
 refine ACall.body Tryz.func68 rfl (by kernel_rfl) ?_
 unfold Zfp at hF
 refine AWP.seq (AWP.rg [] [(0,(.ptr 0 0)),(2,(.ptr 1 0))] [.cells (Zg f),.cells (Zf Zhi)] (AWP.seq ?_))
 obtain⟨a,n,hF⟩:=bindb hF
 obtain⟨g,o,hF⟩:=bindb hF
 obtain⟨d,p,hF⟩:=bindb hF
 obtain⟨b,q,hF⟩:=bindb hF
 refine AWP.to [(0,(.ptr 0 0)),(2,(.ptr 1 0)),(3,(.ptr 2 0))] [.cells (Zg b.2),.cells (Zf Zhi),.cells (Zf (Zi.mk a d b.1))] ?_ ?_
 ·refine AWP.of_draw (by kernel_rfl) ?_
  refine ADraw.either 9 3 (by kernel_rfl) ?_ ?_
  ·refine ADraw.either 9 7 (by kernel_rfl) ?_ ?_
   ·exact ADraw.drT [(0,.call Tryz.func47 [] (Zia a n)),(3,.call Tryz.func32 [] (Zu f (2:Int) g o)),(4,.idx Zdd p),(7,.call Tryz.func118 [] (Zff g.2 (65535:Int) b q))] 10 [] [3,7,9] []
   ·exact ADraw.drT [(0,.call Tryz.func47 [] (Zia a n)),(3,.call Tryz.func32 [] (Zu f (2:Int) g o)),(4,.idx Zdd p),(7,.call Tryz.func118 [] (Zff g.2 (65535:Int) b q))] 10 [0,1,2,3,4,5,6,9,7,8] [3,9,7] []
  ·exact ADraw.drT [(0,.call Tryz.func47 [] (Zia a n)),(3,.call Tryz.func32 [] (Zu f (2:Int) g o)),(4,.idx Zdd p),(7,.call Tryz.func118 [] (Zff g.2 (65535:Int) b q))] 10 [0,1,2,6,9,3,4,5,7,8] [9,3,7] []
 refine AWP.seq ?_
 obtain⟨c,s,hF⟩:=bindb hF
 refine AWP.rg [(1,.call Tryz.func117 [] (Zgr b.2 c s))] [(0,(.ptr 0 0)),(2,(.ptr 1 0)),(3,(.ptr 2 0))] [.cells (Zg c.2),.cells (Zf Zhi),.cells (Zf ({ (Zi.mk a d b.1) with Match:=({ a with x0:=c.1 }:ZB) }:Zi))] ?_
 obtain⟨t,u,hF⟩:=bindb hF
 refine AWP.seq ?_
 refine AWP.mid (fun e st H=>(e=.normal∧∃ l,∃ i,t=(l,i)∧st=[(2,(.ptr 1 0)),(3,(.ptr 2 0))]∧H=[.cells (Zg l),.cells (Zf Zhi),.cells (Zf i)])) ?_ ?_
 ·clear hF
  have hF:=u
  refine AWP.seq ?_
  obtain⟨j,v,hF⟩:=bindb hF
  refine AWP.rg [(1,.call Tryz.func32 [] (Zu c.2 (2:Int) j v))] [(0,(.ptr 0 0)),(2,(.ptr 1 0)),(3,(.ptr 2 0)),(20,(vb (j.1 == (0:Int))))] [.cells (Zg j.2),.cells (Zf Zhi),.cells (Zf ({ (Zi.mk a d b.1) with Match:=({ a with x0:=c.1 }:ZB) }:Zi))] ?_
  refine AWP.cif hF (fun w hF=>?_) (fun w hF=>?_)
  ·refine AWP.seq ?_
   obtain⟨m,x,hF⟩:=bindb hF
   obtain⟨k,y,hF⟩:=bindb hF
   refine AWP.rg [(2,.call Tryz.func32 [] (Zu j.2 (3:Int) m x)),(3,.idx Zdd y)] [(2,(.ptr 1 0)),(3,(.ptr 2 0)),(4,(u32 k))] [.cells (Zg m.2),.cells (Zf Zhi),.cells (Zf ({ (Zi.mk a d b.1) with Match:=({ a with x0:=c.1 }:ZB) }:Zi))] (AWP.rg [] [(2,(.ptr 1 0)),(3,(.ptr 2 0))] [.cells (Zg m.2),.cells (Zf Zhi),.cells (Zf ({ (Zi.mk a d b.1) with Match:=({ ({ a with x0:=c.1 }:ZB) with x2:=(Zb.mk k k) }:ZB) }:Zi))] (LeQ.start (LeQ.pk [2,3] 3 ?_)))
   exact⟨rfl,m.2,({ (Zi.mk a d b.1) with Match:=({ ({ a with x0:=c.1 }:ZB) with x2:=(Zb.mk k k) }:ZB) }:Zi),(someb hF).symm,by kernel_rfl,by kernel_rfl⟩
  ·refine AWP.skip (LeQ.start (LeQ.pk [2,3] 3 ?_))
   exact⟨rfl,j.2,({ (Zi.mk a d b.1) with Match:=({ a with x0:=c.1 }:ZB) }:Zi),(someb hF).symm,by kernel_rfl,by kernel_rfl⟩
 ·rintro _ _ _ ⟨rfl,l,i,rfl,rfl,rfl⟩
  refine AWP.seq (AWP.rg [] [(2,(.ptr 1 0))] [.cells (Zg l),.cells (Zf i),.cells (Zf i)] (AWP.ret ?_))
  have hr:=someb hF
  subst hr
  exact(FnQ.f0 1 (.inr rfl))
def Zlz (r:(ZB × Ze)):PV→List Blk→Prop:=fun p K=>p=(Z9 r.1)∧K=[.cells (Zg r.2)]
theorem Zio (f:Ze) (a:ZB) (r:(ZB × Ze)) (hF:Zde f a=some r):ACall Tryz.prog glob 34 [(.ptr 0 0),(Z9 a)] [.cells (Zg f)] (Zlz r):=by
 refine ACall.body Tryz.func34 rfl (by kernel_rfl) ?_
 unfold Zde at hF
 refine AWP.seq (AWP.rg [] [(0,(.ptr 0 0)),(3,(.ptr 1 0)),(4,(.ptr 2 0))] [.cells (Zg f),.cells (Za a),.cells (Za Zn)] (AWP.seq ?_))
 obtain⟨b,s,hF⟩:=bindb hF
 refine AWP.rg [(1,.call Tryz.func32 [] (Zu f (5:Int) b s))] [(0,(.ptr 0 0)),(3,(.ptr 1 0)),(4,(.ptr 2 0)),(5,(i64 b.1))] [.cells (Zg b.2),.cells (Za a),.cells (Za Zn)] ?_
 obtain⟨t,u,hF⟩:=bindb hF
 refine AWP.seq ?_
 refine AWP.mid (fun e st H=>(e=.normal∧∃ g,∃ d,t=(g,d)∧st=[(3,(.ptr 1 0)),(4,(.ptr 2 0))]∧H=[.cells (Zg g),.cells (Za d),.cells (Za Zn)])) ?_ ?_
 ·clear hF
  have hF:=u
  refine AWP.seq ?_
  obtain⟨c,v,hF⟩:=bindb hF
  refine AWP.rg [(1,.call Tryz.func32 [] (Zu b.2 (3:Int) c v))] [(3,(.ptr 1 0)),(4,(.ptr 2 0)),(5,(i64 b.1)),(9,(i64 c.1))] [.cells (Zg c.2),.cells (Za a),.cells (Za Zn)] (AWP.block (AWP.seq (AWP.rg0 [] [(3,(.ptr 1 0)),(4,(.ptr 2 0)),(5,(i64 b.1)),(9,(i64 c.1)),(13,(vb (c.1 == (0:Int))))] ?_)))
  refine AWP.cif hF (fun w hF=>?_) (fun w hF=>?_)
  ·obtain⟨i,hF⟩:=chkb hF
   obtain⟨j,hF⟩:=chkb hF
   obtain⟨k,hF⟩:=chkb hF
   obtain⟨l,hF⟩:=chkb hF
   refine AWP.dr [(3,.ixd i),(5,.ldA Zl (Arr5.get a) 0 2 1 i),(7,.ixd j),(9,.ldA Zl (Arr5.get a) 0 2 0 j),(10,.ixd k),(12,.stA (fun m=>Za (Arr5.set a m ({ (Arr5.get a m) with Lo:=(Arr5.get a b.1).Hi }:Zb))) 0 2 0 k),(13,.ixd l),(15,.stA (fun n=>Za (Arr5.set (Arr5.set a b.1 ({ (Arr5.get a b.1) with Lo:=(Arr5.get a b.1).Hi }:Zb)) n ({ (Arr5.get (Arr5.set a b.1 ({ (Arr5.get a b.1) with Lo:=(Arr5.get a b.1).Hi }:Zb)) n) with Hi:=(Arr5.get a b.1).Lo }:Zb))) 0 2 1 l)] 13 [] [12] [] [(3,(.ptr 1 0)),(4,(.ptr 2 0))] [.cells (Zg c.2),.cells (Za (Arr5.set (Arr5.set a b.1 ({ (Arr5.get a b.1) with Lo:=(Arr5.get a b.1).Hi }:Zb)) b.1 ({ (Arr5.get (Arr5.set a b.1 ({ (Arr5.get a b.1) with Lo:=(Arr5.get a b.1).Hi }:Zb)) b.1) with Hi:=(Arr5.get a b.1).Lo }:Zb))),.cells (Za Zn)] (LeQ.start (LeQ.pk [3,4] 3 ?_))
   exact⟨rfl,c.2,(Arr5.set (Arr5.set a b.1 ({ (Arr5.get a b.1) with Lo:=(Arr5.get a b.1).Hi }:Zb)) b.1 ({ (Arr5.get (Arr5.set a b.1 ({ (Arr5.get a b.1) with Lo:=(Arr5.get a b.1).Hi }:Zb)) b.1) with Hi:=(Arr5.get a b.1).Lo }:Zb)),(someb hF).symm,by kernel_rfl,by kernel_rfl⟩
  ·refine AWP.seq (AWP.rg0 [] [(3,(.ptr 1 0)),(4,(.ptr 2 0)),(5,(i64 b.1)),(29,(vb (c.1 == (1:Int))))] ?_)
   refine AWP.cif hF (fun x hF=>?_) (fun x hF=>?_)
   ·obtain⟨o,hF⟩:=chkb hF
    refine AWP.rg [(1,.ixd o),(3,.stA (fun p=>Za (Arr5.set a p ({ (Arr5.get a p) with Hi:=(4294967295:Int) }:Zb))) 0 2 1 o)] [(3,(.ptr 1 0)),(4,(.ptr 2 0))] [.cells (Zg c.2),.cells (Za (Arr5.set a b.1 ({ (Arr5.get a b.1) with Hi:=(4294967295:Int) }:Zb))),.cells (Za Zn)] (LeQ.start (LeQ.pk [3,4] 3 ?_))
    exact⟨rfl,c.2,(Arr5.set a b.1 ({ (Arr5.get a b.1) with Hi:=(4294967295:Int) }:Zb)),(someb hF).symm,by kernel_rfl,by kernel_rfl⟩
   ·obtain⟨q,hF⟩:=chkb hF
    refine AWP.rg [(2,.ixd q),(3,.stA (fun y=>Za (Arr5.set a y (Zb.mk (1:Int) (0:Int)))) 0 2 0 q)] [(3,(.ptr 1 0)),(4,(.ptr 2 0))] [.cells (Zg c.2),.cells (Za (Arr5.set a b.1 (Zb.mk (1:Int) (0:Int)))),.cells (Za Zn)] (LeQ.start (LeQ.pk [3,4] 3 ?_))
    exact⟨rfl,c.2,(Arr5.set a b.1 (Zb.mk (1:Int) (0:Int))),(someb hF).symm,by kernel_rfl,by kernel_rfl⟩
 ·rintro _ _ _ ⟨rfl,g,d,rfl,rfl,rfl⟩
  refine AWP.seq (AWP.rg [] [(4,(.ptr 2 0))] [.cells (Zg g),.cells (Za d),.cells (Za d)] (AWP.ret ?_))
  have hr:=someb hF
  subst hr
  exact(FnQ.f0 1 (.inr rfl))
def Znp (r:((List Zi) × Ze)):PV→List Blk→Prop:=fun p K=>p=(slc 13 Zf r.1)∧K=[.cells (Zg r.2)]
theorem Znq (y:Ze) (g:Int) (b:Bool) (r:((List Zi) × Ze)) (hF:Zfd y g b=some r):ACall Tryz.prog glob 23 [(.ptr 0 0),(i64 g),(vb b)] [.cells (Zg y)] (Znp r):=by
 refine ACall.body Tryz.func23 rfl (by kernel_rfl) ?_
 unfold Zfd at hF
 refine AWP.seq (AWP.rg0 [] [(0,(.ptr 0 0)),(1,(i64 g)),(2,(vb b))] (AWP.seq (AWP.rg0 [] [(0,(.ptr 0 0)),(1,(i64 g)),(2,(vb b)),(7,nils)] ?_)))
 refine AWP.own (H':=[.cells (Zg y),bf 13 62 Zf ([]:(List Zi)) false]) (st':=[(7,(.own 1 (List.length ([]:(List Zi))))),(0,(.ptr 0 0)),(1,(i64 g)),(2,(vb b))]) 7 13 62 (by kernel_rfl) (by kernel_rfl) (by kernel_rfl) ?_
 refine AWP.pick (st':=[(0,(.ptr 0 0)),(1,(i64 g)),(2,(vb b)),(7,(.own 1 (List.length ([]:(List Zi)))))]) (ks:=[0,1,2,7]) (by kernel_rfl) ?_
 refine AWP.seq (AWP.seq ?_)
 obtain⟨o,a9,hF⟩:=bindb hF
 refine AWP.rg [(3,.call Tryz.func32 [] (Zu y (ZI (g + (1:Int))) o a9))] [(0,(.ptr 0 0)),(2,(vb b)),(7,(.own 1 (List.length ([]:(List Zi))))),(8,(i64 o.1))] [.cells (Zg o.2),bf 13 62 Zf ([]:(List Zi)) false] ?_
 obtain⟨a6,b0,hF⟩:=bindb hF
 refine AWP.mid (fun e st H=>(e=.normal∧∃ a4,∃ k,a6=(a4,k)∧st=[(7,(.own 1 (List.length k)))]∧H=[.cells (Zg a4),bf 13 62 Zf k false])) ?_ ?_
 ·clear hF
  refine AWP.kp [0,2,7,8] 2 ?_
  refine AWP.bround (fun n st H=>∃ p,∃ a,∃ c,Zcb b n p a c=some a6∧st=[(0,(.ptr 0 0)),(2,(vb b)),(7,(.own 1 (List.length a))),(8,(i64 c))]∧H=[.cells (Zg p),bf 13 62 Zf a false]) fuel ⟨o.2,([]:(List Zi)),o.1,b0,by kernel_rfl,by kernel_rfl⟩ ?_
  rintro a5 st H ⟨p,a,c,hF,rfl,rfl⟩
  cases a5 with
  | zero=>exact noneb hF
  | succ a5=>
   rw [Zcb] at hF
   refine AWP.seq (AWP.seq (AWP.rg0 [] [(0,(.ptr 0 0)),(2,(vb b)),(7,(.own 1 (List.length a))),(8,(i64 c)),(15,(vb (decide (c > (0:Int)))))] ?_))
   refine AWP.cif hF (fun b1 hF=>?_) (fun b1 hF=>?_)
   ·refine AWP.skip ?_
    obtain⟨b2,b3,hF⟩:=bindb hF
    refine AWP.seq ?_
    refine AWP.mid (fun e st H=>(e=.normal∧∃ z,∃ m,b2=(z,m)∧st=[(0,(.ptr 0 0)),(2,(vb b)),(7,(.own 1 (List.length m))),(8,(i64 c))]∧H=[.cells (Zg z),bf 13 62 Zf m false])) ?_ ?_
    ·clear hF
     have hF:=b3
     refine AWP.block (AWP.seq ?_)
     obtain⟨f,b4,hF⟩:=bindb hF
     refine AWP.rg [(1,.call Tryz.func68 [] (Zog p f b4))] [(0,(.ptr 0 0)),(2,(vb b)),(7,(.own 1 (List.length a))),(8,(i64 c)),(9,(.ptr 2 0))] [.cells (Zg f.2),bf 13 62 Zf a false,.cells (Zf f.1)] ?_
     obtain⟨b5,b6,hF⟩:=bindb hF
     refine AWP.seq ?_
     refine AWP.mid (fun e st H=>(e=.normal∧∃ a0,∃ d,b5=(a0,d)∧st=[(0,(.ptr 0 0)),(2,(vb b)),(7,(.own 1 (List.length a))),(8,(i64 c)),(9,(.ptr 2 0))]∧H=[.cells (Zg a0),bf 13 62 Zf a false,.cells (Zf d)])) ?_ ?_
     ·clear hF
      have hF:=b6
      refine AWP.seq ?_
      obtain⟨b7,a1,hF⟩:=bindb hF
      replace a1:=someb a1
      obtain⟨a2,a7,hF⟩:=bindb hF
      refine AWP.to [(0,(.ptr 0 0)),(2,(vb b)),(7,(.own 1 (List.length a))),(8,(i64 c)),(9,(.ptr 2 0)),(25,(vb a2.1))] [.cells (Zg a2.2),bf 13 62 Zf a false,.cells (Zf f.1)] ?_ ?_
      ·cases b7 with
       | false=>
        have b8:=someb (ifF a7 rfl)
        subst b8
        exact AWP.rgT [(1,.bool a1)]
       | true=>
        have q:=ifT a7 rfl
        obtain⟨b9,c0,q⟩:=bindb q
        replace q:=someb q
        subst q
        exact AWP.rgT [(1,.bool a1),(3,.call Tryz.func32 [] (Zu f.2 (6:Int) b9 c0))]
      refine AWP.cif hF (fun c1 hF=>?_) (fun c1 hF=>?_)
      ·obtain⟨u,c2,hF⟩:=bindb hF
       refine AWP.rg [(3,.call Tryz.func34 [] (Zio a2.2 f.1.Match u c2))] [(0,(.ptr 0 0)),(2,(vb b)),(7,(.own 1 (List.length a))),(8,(i64 c)),(9,(.ptr 2 0))] [.cells (Zg u.2),bf 13 62 Zf a false,.cells (Zf ({ f.1 with Match:=u.1 }:Zi))] (LeQ.start (LeQ.pk [0,2,7,8,9] 3 ?_))
       exact⟨rfl,u.2,({ f.1 with Match:=u.1 }:Zi),(someb hF).symm,by kernel_rfl,by kernel_rfl⟩
      ·refine AWP.skip (LeQ.start (LeQ.pk [0,2,7,8,9] 3 ?_))
       exact⟨rfl,a2.2,f.1,(someb hF).symm,by kernel_rfl,by kernel_rfl⟩
     ·rintro _ _ _ ⟨rfl,a0,d,rfl,rfl,rfl⟩
      obtain⟨c3,c4,hF⟩:=bindb hF
      refine AWP.seq ?_
      refine AWP.mid (fun e st H=>(e=.normal∧∃ v,∃ j,c3=(v,j)∧st=[(0,(.ptr 0 0)),(2,(vb b)),(7,(.own 1 (List.length a))),(8,(i64 c)),(9,(.ptr 2 0))]∧H=[.cells (Zg v),bf 13 62 Zf a false,.cells (Zf j)])) ?_ ?_
      ·clear hF
       have hF:=c4
       refine AWP.seq ?_
       obtain⟨c5,a3,hF⟩:=bindb hF
       replace a3:=someb a3
       obtain⟨w,a8,hF⟩:=bindb hF
       refine AWP.to [(0,(.ptr 0 0)),(2,(vb b)),(7,(.own 1 (List.length a))),(8,(i64 c)),(9,(.ptr 2 0)),(36,(vb w.1))] [.cells (Zg w.2),bf 13 62 Zf a false,.cells (Zf d)] ?_ ?_
       ·cases c5 with
        | false=>
         have c6:=someb (ifF a8 rfl)
         subst c6
         exact AWP.rgT [(1,.bool a3)]
        | true=>
         have x:=ifT a8 rfl
         obtain⟨c7,c8,x⟩:=bindb x
         replace x:=someb x
         subst x
         exact AWP.rgT [(1,.bool a3),(3,.call Tryz.func32 [] (Zu a0 (6:Int) c7 c8))]
       refine AWP.cif hF (fun c9 hF=>?_) (fun c9 hF=>?_)
       ·refine AWP.rg [] [(0,(.ptr 0 0)),(2,(vb b)),(7,(.own 1 (List.length a))),(8,(i64 c)),(9,(.ptr 2 0))] [.cells (Zg w.2),bf 13 62 Zf a false,.cells (Zf ({ d with Ports:=({ d.Ports with Hi:=(IntKind.wrap .u32 (d.Ports.Hi + (65536:Int))) }:Zb) }:Zi))] (LeQ.start (LeQ.pk [0,2,7,8,9] 3 ?_))
        exact⟨rfl,w.2,({ d with Ports:=({ d.Ports with Hi:=(IntKind.wrap .u32 (d.Ports.Hi + (65536:Int))) }:Zb) }:Zi),(someb hF).symm,by kernel_rfl,by kernel_rfl⟩
       ·refine AWP.skip (LeQ.start (LeQ.pk [0,2,7,8,9] 3 ?_))
        exact⟨rfl,w.2,d,(someb hF).symm,by kernel_rfl,by kernel_rfl⟩
      ·rintro _ _ _ ⟨rfl,v,j,rfl,rfl,rfl⟩
       obtain⟨d0,hF⟩:=chkb hF
       refine AWP.rg [(3,.app Zf (fun _=>by kernel_rfl) d0)] [(0,(.ptr 0 0)),(2,(vb b)),(7,(.own 1 (List.length (a++[j])))),(8,(i64 c))] [.cells (Zg v),bf 13 62 Zf (a++[j]) false,.cells (Zf j)] (LeQ.start (LeQ.pk [0,2,7,8] 2 ?_))
       exact⟨rfl,v,(a++[j]),(someb hF).symm,by kernel_rfl,by kernel_rfl⟩
    ·rintro _ _ _ ⟨rfl,z,m,rfl,rfl,rfl⟩
     refine AWP.rg0 [] [(0,(.ptr 0 0)),(2,(vb b)),(7,(.own 1 (List.length m))),(8,(i64 (ZI (c - (1:Int)))))] (LeQ.start (LeQ.pk [0,2,7,8] 2 ?_))
     exact⟨a5,Nat.lt_succ_self _,z,m,(ZI (c - (1:Int))),hF,by kernel_rfl,by kernel_rfl⟩
   ·refine AWP.exit (LeQ.start (LeQ.pk [7] 2 ?_))
    exact⟨rfl,p,a,(someb hF).symm,by kernel_rfl,by kernel_rfl⟩
 ·rintro _ _ _ ⟨rfl,a4,k,rfl,rfl,rfl⟩
  refine AWP.seq (AWP.rg0 [] [(6,(.own 1 (List.length k)))] (AWP.ret ?_))
  have hr:=someb hF
  subst hr
  exact(FnQ.f1 1 (.inr rfl) (.inl (Wk.ownT (i:=1) (s:=13) (t:=62) (l:=k) (sh:=false) (row:=Zf) (by kernel_rfl) (.inl rfl))))
def Zpd (r:(ZB × Ze)):PV→List Blk→Prop:=fun p K=>p=(Z9 r.1)∧K=[.cells (Zg r.2)]
theorem Zpe (d:Ze) (r:(ZB × Ze)) (hF:Zf4 d=some r):ACall Tryz.prog glob 67 [(.ptr 0 0)] [.cells (Zg d)] (Zpd r):=by
 refine ACall.body Tryz.func67 rfl (by kernel_rfl) ?_
 unfold Zf4 at hF
 refine AWP.seq (AWP.rg [] [(0,(.ptr 0 0)),(2,(.ptr 1 0))] [.cells (Zg d),.cells (Za Zn)] (AWP.seq ?_))
 obtain⟨p,x,hF⟩:=bindb hF
 refine AWP.rg [(0,.call Tryz.func47 [] (Zia p x))] [(0,(.ptr 0 0)),(2,(.ptr 1 0)),(3,(.ptr 2 0))] [.cells (Zg d),.cells (Za Zn),.cells (Za p)] (AWP.seq (AWP.seq ?_))
 obtain⟨f,y,hF⟩:=bindb hF
 refine AWP.rg [(1,.call Tryz.func32 [] (Zu d (3:Int) f y))] [(0,(.ptr 0 0)),(2,(.ptr 1 0)),(3,(.ptr 2 0)),(4,(i64 (ZI ((1:Int) + f.1))))] [.cells (Zg f.2),.cells (Za Zn),.cells (Za p)] ?_
 obtain⟨w,z,hF⟩:=bindb hF
 refine AWP.mid (fun e st H=>(e=.normal∧∃ q,∃ g,w=(q,g)∧st=[(2,(.ptr 1 0)),(3,(.ptr 2 0))]∧H=[.cells (Zg q),.cells (Za Zn),.cells (Za g)])) ?_ ?_
 ·clear hF
  refine AWP.kp [0,2,3,4] 3 ?_
  refine AWP.bround (fun n st H=>∃ i,∃ b,∃ a,Zcq n i b a=some w∧st=[(0,(.ptr 0 0)),(2,(.ptr 1 0)),(3,(.ptr 2 0)),(4,(i64 a))]∧H=[.cells (Zg i),.cells (Za Zn),.cells (Za b)]) fuel ⟨f.2,p,(ZI ((1:Int) + f.1)),z,by kernel_rfl,by kernel_rfl⟩ ?_
  rintro v st H ⟨i,b,a,hF,rfl,rfl⟩
  cases v with
  | zero=>exact noneb hF
  | succ v=>
   rw [Zcq] at hF
   refine AWP.seq (AWP.seq (AWP.rg0 [] [(0,(.ptr 0 0)),(2,(.ptr 1 0)),(3,(.ptr 2 0)),(4,(i64 a)),(11,(vb (decide (a > (0:Int)))))] ?_))
   refine AWP.cif hF (fun a0 hF=>?_) (fun a0 hF=>?_)
   ·refine AWP.skip ?_
    obtain⟨a1,a2,hF⟩:=bindb hF
    refine AWP.seq ?_
    refine AWP.mid (fun e st H=>(e=.normal∧∃ s,∃ t,a1=(s,t)∧st=[(0,(.ptr 0 0)),(2,(.ptr 1 0)),(3,(.ptr 2 0)),(4,(i64 a))]∧H=[.cells (Zg s),.cells (Za Zn),.cells (Za t)])) ?_ ?_
    ·clear hF
     have hF:=a2
     refine AWP.block (AWP.seq ?_)
     obtain⟨c,a3,hF⟩:=bindb hF
     refine AWP.rg [(1,.call Tryz.func32 [] (Zu i (5:Int) c a3))] [(0,(.ptr 0 0)),(2,(.ptr 1 0)),(3,(.ptr 2 0)),(4,(i64 a)),(15,(i64 c.1))] [.cells (Zg c.2),.cells (Za Zn),.cells (Za b)] (AWP.block (AWP.seq (AWP.rg0 [] [(0,(.ptr 0 0)),(2,(.ptr 1 0)),(3,(.ptr 2 0)),(4,(i64 a)),(15,(i64 c.1)),(19,(vb (c.1 == (0:Int))))] ?_)))
     refine AWP.cif hF (fun a4 hF=>?_) (fun a4 hF=>?_)
     ·obtain⟨j,a5,hF⟩:=bindb hF
      refine AWP.rg [(1,.call Tryz.func117 [] (Zgr c.2 j a5))] [(0,(.ptr 0 0)),(2,(.ptr 1 0)),(3,(.ptr 2 0)),(4,(i64 a))] [.cells (Zg j.2),.cells (Za Zn),.cells (Za ({ b with x0:=j.1 }:ZB))] (LeQ.start (LeQ.pk [0,2,3,4] 3 ?_))
      exact⟨rfl,j.2,({ b with x0:=j.1 }:ZB),(someb hF).symm,by kernel_rfl,by kernel_rfl⟩
     ·refine AWP.seq (AWP.rg0 [] [(0,(.ptr 0 0)),(2,(.ptr 1 0)),(3,(.ptr 2 0)),(4,(i64 a)),(15,(i64 c.1)),(24,(vb (c.1 == (1:Int))))] ?_)
      refine AWP.cif hF (fun a6 hF=>?_) (fun a6 hF=>?_)
      ·obtain⟨k,a7,hF⟩:=bindb hF
       refine AWP.rg [(1,.call Tryz.func117 [] (Zgr c.2 k a7))] [(0,(.ptr 0 0)),(2,(.ptr 1 0)),(3,(.ptr 2 0)),(4,(i64 a))] [.cells (Zg k.2),.cells (Za Zn),.cells (Za ({ b with x1:=k.1 }:ZB))] (LeQ.start (LeQ.pk [0,2,3,4] 3 ?_))
       exact⟨rfl,k.2,({ b with x1:=k.1 }:ZB),(someb hF).symm,by kernel_rfl,by kernel_rfl⟩
      ·refine AWP.seq (AWP.rg0 [] [(0,(.ptr 0 0)),(2,(.ptr 1 0)),(3,(.ptr 2 0)),(4,(i64 a)),(15,(i64 c.1)),(29,(vb (c.1 == (2:Int))))] ?_)
       refine AWP.cif hF (fun a8 hF=>?_) (fun a8 hF=>?_)
       ·refine AWP.seq ?_
        obtain⟨u,a9,hF⟩:=bindb hF
        obtain⟨l,b0,hF⟩:=bindb hF
        refine AWP.rg [(2,.call Tryz.func32 [] (Zu c.2 (6:Int) u a9)),(3,.idx Zdd b0)] [(0,(.ptr 0 0)),(2,(.ptr 1 0)),(3,(.ptr 2 0)),(4,(i64 a)),(5,(u32 l))] [.cells (Zg u.2),.cells (Za Zn),.cells (Za b)] (AWP.rg [] [(0,(.ptr 0 0)),(2,(.ptr 1 0)),(3,(.ptr 2 0)),(4,(i64 a))] [.cells (Zg u.2),.cells (Za Zn),.cells (Za ({ b with x2:=(Zb.mk l l) }:ZB))] (LeQ.start (LeQ.pk [0,2,3,4] 3 ?_)))
        exact⟨rfl,u.2,({ b with x2:=(Zb.mk l l) }:ZB),(someb hF).symm,by kernel_rfl,by kernel_rfl⟩
       ·refine AWP.seq (AWP.rg0 [] [(0,(.ptr 0 0)),(2,(.ptr 1 0)),(3,(.ptr 2 0)),(4,(i64 a)),(40,(vb (c.1 == (3:Int))))] ?_)
        refine AWP.cif hF (fun b1 hF=>?_) (fun b1 hF=>?_)
        ·obtain⟨m,b2,hF⟩:=bindb hF
         refine AWP.rg [(1,.call Tryz.func118 [] (Zff c.2 (65535:Int) m b2))] [(0,(.ptr 0 0)),(2,(.ptr 1 0)),(3,(.ptr 2 0)),(4,(i64 a))] [.cells (Zg m.2),.cells (Za Zn),.cells (Za ({ b with x3:=m.1 }:ZB))] (LeQ.start (LeQ.pk [0,2,3,4] 3 ?_))
         exact⟨rfl,m.2,({ b with x3:=m.1 }:ZB),(someb hF).symm,by kernel_rfl,by kernel_rfl⟩
        ·obtain⟨o,b3,hF⟩:=bindb hF
         refine AWP.rg [(1,.call Tryz.func118 [] (Zff c.2 (65535:Int) o b3))] [(0,(.ptr 0 0)),(2,(.ptr 1 0)),(3,(.ptr 2 0)),(4,(i64 a))] [.cells (Zg o.2),.cells (Za Zn),.cells (Za ({ b with x4:=o.1 }:ZB))] (LeQ.start (LeQ.pk [0,2,3,4] 3 ?_))
         exact⟨rfl,o.2,({ b with x4:=o.1 }:ZB),(someb hF).symm,by kernel_rfl,by kernel_rfl⟩
    ·rintro _ _ _ ⟨rfl,s,t,rfl,rfl,rfl⟩
     refine AWP.rg0 [] [(0,(.ptr 0 0)),(2,(.ptr 1 0)),(3,(.ptr 2 0)),(4,(i64 (ZI (a - (1:Int)))))] (LeQ.start (LeQ.pk [0,2,3,4] 3 ?_))
     exact⟨v,Nat.lt_succ_self _,s,t,(ZI (a - (1:Int))),hF,by kernel_rfl,by kernel_rfl⟩
   ·refine AWP.exit (LeQ.start (LeQ.pk [2,3] 3 ?_))
    exact⟨rfl,i,b,(someb hF).symm,by kernel_rfl,by kernel_rfl⟩
 ·rintro _ _ _ ⟨rfl,q,g,rfl,rfl,rfl⟩
  refine AWP.seq (AWP.rg [] [(2,(.ptr 1 0))] [.cells (Zg q),.cells (Za g),.cells (Za g)] (AWP.ret ?_))
  have hr:=someb hF
  subst hr
  exact(FnQ.f0 1 (.inr rfl))
def Znr (r:(ZL × Ze)):PV→List Blk→Prop:=fun p K=>p=(slc 10 Za r.1)∧K=[.cells (Zg r.2)]
theorem Zns (v:Ze) (d:Int) (a:Bool) (r:(ZL × Ze)) (hF:Zfc v d a=some r):ACall Tryz.prog glob 20 [(.ptr 0 0),(i64 d),(vb a)] [.cells (Zg v)] (Znr r):=by
 refine ACall.body Tryz.func20 rfl (by kernel_rfl) ?_
 unfold Zfc at hF
 refine AWP.seq (AWP.rg0 [] [(0,(.ptr 0 0)),(1,(i64 d)),(2,(vb a))] (AWP.seq (AWP.rg0 [] [(0,(.ptr 0 0)),(1,(i64 d)),(2,(vb a)),(7,nils)] ?_)))
 refine AWP.own (H':=[.cells (Zg v),bf 10 57 Za ([]:ZL) false]) (st':=[(7,(.own 1 (List.length ([]:ZL)))),(0,(.ptr 0 0)),(1,(i64 d)),(2,(vb a))]) 7 10 57 (by kernel_rfl) (by kernel_rfl) (by kernel_rfl) ?_
 refine AWP.pick (st':=[(0,(.ptr 0 0)),(1,(i64 d)),(2,(vb a)),(7,(.own 1 (List.length ([]:ZL))))]) (ks:=[0,1,2,7]) (by kernel_rfl) ?_
 refine AWP.seq (AWP.seq ?_)
 obtain⟨m,a3,hF⟩:=bindb hF
 refine AWP.rg [(3,.call Tryz.func32 [] (Zu v (ZI (d + (1:Int))) m a3))] [(0,(.ptr 0 0)),(2,(vb a)),(7,(.own 1 (List.length ([]:ZL)))),(8,(i64 m.1))] [.cells (Zg m.2),bf 10 57 Za ([]:ZL) false] ?_
 obtain⟨a1,a4,hF⟩:=bindb hF
 refine AWP.mid (fun e st H=>(e=.normal∧∃ z,∃ j,a1=(z,j)∧st=[(7,(.own 1 (List.length j)))]∧H=[.cells (Zg z),bf 10 57 Za j false])) ?_ ?_
 ·clear hF
  refine AWP.kp [0,2,7,8] 2 ?_
  refine AWP.bround (fun n st H=>∃ o,∃ b,∃ c,Zb8 a n o b c=some a1∧st=[(0,(.ptr 0 0)),(2,(vb a)),(7,(.own 1 (List.length b))),(8,(i64 c))]∧H=[.cells (Zg o),bf 10 57 Za b false]) fuel ⟨m.2,([]:ZL),m.1,a4,by kernel_rfl,by kernel_rfl⟩ ?_
  rintro a0 st H ⟨o,b,c,hF,rfl,rfl⟩
  cases a0 with
  | zero=>exact noneb hF
  | succ a0=>
   rw [Zb8] at hF
   refine AWP.seq (AWP.seq (AWP.rg0 [] [(0,(.ptr 0 0)),(2,(vb a)),(7,(.own 1 (List.length b))),(8,(i64 c)),(15,(vb (decide (c > (0:Int)))))] ?_))
   refine AWP.cif hF (fun a5 hF=>?_) (fun a5 hF=>?_)
   ·refine AWP.skip ?_
    obtain⟨a6,a7,hF⟩:=bindb hF
    refine AWP.seq ?_
    refine AWP.mid (fun e st H=>(e=.normal∧∃ w,∃ k,a6=(w,k)∧st=[(0,(.ptr 0 0)),(2,(vb a)),(7,(.own 1 (List.length k))),(8,(i64 c))]∧H=[.cells (Zg w),bf 10 57 Za k false])) ?_ ?_
    ·clear hF
     have hF:=a7
     refine AWP.block (AWP.seq ?_)
     obtain⟨f,a8,hF⟩:=bindb hF
     refine AWP.rg [(1,.call Tryz.func67 [] (Zpe o f a8))] [(0,(.ptr 0 0)),(2,(vb a)),(7,(.own 1 (List.length b))),(8,(i64 c)),(9,(.ptr 2 0))] [.cells (Zg f.2),bf 10 57 Za b false,.cells (Za f.1)] ?_
     obtain⟨a9,b0,hF⟩:=bindb hF
     refine AWP.seq ?_
     refine AWP.mid (fun e st H=>(e=.normal∧∃ p,∃ g,a9=(p,g)∧st=[(0,(.ptr 0 0)),(2,(vb a)),(7,(.own 1 (List.length b))),(8,(i64 c)),(9,(.ptr 2 0))]∧H=[.cells (Zg p),bf 10 57 Za b false,.cells (Za g)])) ?_ ?_
     ·clear hF
      have hF:=b0
      refine AWP.seq ?_
      obtain⟨b1,x,hF⟩:=bindb hF
      replace x:=someb x
      obtain⟨y,a2,hF⟩:=bindb hF
      refine AWP.to [(0,(.ptr 0 0)),(2,(vb a)),(7,(.own 1 (List.length b))),(8,(i64 c)),(9,(.ptr 2 0)),(25,(vb y.1))] [.cells (Zg y.2),bf 10 57 Za b false,.cells (Za f.1)] ?_ ?_
      ·cases b1 with
       | false=>
        have b2:=someb (ifF a2 rfl)
        subst b2
        exact AWP.rgT [(1,.bool x)]
       | true=>
        have q:=ifT a2 rfl
        obtain⟨b3,b4,q⟩:=bindb q
        replace q:=someb q
        subst q
        exact AWP.rgT [(1,.bool x),(3,.call Tryz.func32 [] (Zu f.2 (8:Int) b3 b4))]
      refine AWP.cif hF (fun b5 hF=>?_) (fun b5 hF=>?_)
      ·obtain⟨u,b6,hF⟩:=bindb hF
       refine AWP.rg [(2,.call Tryz.func34 [] (Zio y.2 f.1 u b6))] [(0,(.ptr 0 0)),(2,(vb a)),(7,(.own 1 (List.length b))),(8,(i64 c)),(9,(.ptr 2 0))] [.cells (Zg u.2),bf 10 57 Za b false,.cells (Za u.1)] (LeQ.start (LeQ.pk [0,2,7,8,9] 3 ?_))
       exact⟨rfl,u.2,u.1,(someb hF).symm,by kernel_rfl,by kernel_rfl⟩
      ·refine AWP.skip (LeQ.start (LeQ.pk [0,2,7,8,9] 3 ?_))
       exact⟨rfl,y.2,f.1,(someb hF).symm,by kernel_rfl,by kernel_rfl⟩
     ·rintro _ _ _ ⟨rfl,p,g,rfl,rfl,rfl⟩
      obtain⟨b7,hF⟩:=chkb hF
      refine AWP.rg [(3,.app Za (fun _=>by kernel_rfl) b7)] [(0,(.ptr 0 0)),(2,(vb a)),(7,(.own 1 (List.length (b++[g])))),(8,(i64 c))] [.cells (Zg p),bf 10 57 Za (b++[g]) false,.cells (Za g)] (LeQ.start (LeQ.pk [0,2,7,8] 2 ?_))
      exact⟨rfl,p,(b++[g]),(someb hF).symm,by kernel_rfl,by kernel_rfl⟩
    ·rintro _ _ _ ⟨rfl,w,k,rfl,rfl,rfl⟩
     refine AWP.rg0 [] [(0,(.ptr 0 0)),(2,(vb a)),(7,(.own 1 (List.length k))),(8,(i64 (ZI (c - (1:Int)))))] (LeQ.start (LeQ.pk [0,2,7,8] 2 ?_))
     exact⟨a0,Nat.lt_succ_self _,w,k,(ZI (c - (1:Int))),hF,by kernel_rfl,by kernel_rfl⟩
   ·refine AWP.exit (LeQ.start (LeQ.pk [7] 2 ?_))
    exact⟨rfl,o,b,(someb hF).symm,by kernel_rfl,by kernel_rfl⟩
 ·rintro _ _ _ ⟨rfl,z,j,rfl,rfl,rfl⟩
  refine AWP.seq (AWP.rg0 [] [(6,(.own 1 (List.length j)))] (AWP.ret ?_))
  have hr:=someb hF
  subst hr
  exact(FnQ.f1 1 (.inr rfl) (.inl (Wk.ownT (i:=1) (s:=10) (t:=57) (l:=j) (sh:=false) (row:=Za) (by kernel_rfl) (.inl rfl))))
def Zpw (r:Bool):PV→List Blk→Prop:=fun p K=>p=(vb r)∧K=[]
abbrev Zv5 (r:Bool):Exit→St→List Blk→Prop:=FnQ Tryz.prog Tryz.f98.results 0 (Zpw r)
theorem Zhk (a:ZB) (r:Bool) (hF:Zgc a=some r):ACall Tryz.prog glob 98 [(Z9 a)] [] (Zpw r):=by
 refine ACall.body Tryz.func98 rfl (by kernel_rfl) ?_
 unfold Zgc at hF
 refine AWP.seq (AWP.rg [] [(1,(.ptr 0 0))] [.cells (Za a)] (AWP.seq (AWP.seq (AWP.rg0 [] [(5,(Z9 a)),(6,(i64 (0:Int)))] ?_))))
 obtain⟨f,k,hF⟩:=bindb hF
 refine AWP.mid (fun e st H=>(e=.normal∧f=(.inl ())∧st=[]∧H=[.cells (Za a)])∨(e=.ret∧∃ r,f=(.inr r)∧Zv5 r e st H)) ?_ ?_
 ·clear hF
  refine AWP.kp [5,6] 1 ?_
  refine AWP.bround (fun n st H=>∃ b,Zar a n b=some f∧st=[(5,(Z9 a)),(6,(i64 b))]∧H=[.cells (Za a)]) fuel ⟨(0:Int),k,by kernel_rfl,by kernel_rfl⟩ ?_
  rintro g st H ⟨b,hF,rfl,rfl⟩
  cases g with
  | zero=>exact noneb hF
  | succ g=>
   rw [Zar] at hF
   refine AWP.seq (AWP.rg0 [] [(5,(Z9 a)),(6,(i64 b)),(7,(vb (decide (b<(5:Int)))))] (AWP.seq ?_))
   refine AWP.cif hF (fun l hF=>?_) (fun l hF=>?_)
   ·refine AWP.skip (AWP.seq (AWP.block (AWP.seq ?_)))
    obtain⟨m,hF⟩:=chkb hF
    refine AWP.rg [(1,.ixA Zl (Arr5.get a) m)] [(3,(i64 b)),(4,(.ptr 1 0)),(5,(Z9 a)),(6,(i64 b))] [.cells (Za a),.cells (Zl (Arr5.get a b))] (AWP.seq ?_)
    obtain⟨o,d,hF⟩:=bindb hF
    replace d:=someb d
    obtain⟨p,i,hF⟩:=bindb hF
    refine AWP.to [(5,(Z9 a)),(6,(i64 b)),(22,(vb p))] [.cells (Za a),.cells (Zl (Arr5.get a b))] ?_ ?_
    ·cases o with
     | false=>
      have c:=ifF i rfl
      obtain⟨j,c⟩:=chkb c
      replace c:=someb c
      subst c
      exact AWP.drT [(5,.bool d),(9,.ixd j),(10,.ldA Zdd (Arr5.get Za5) 0 1 0 j)] 13 [] [] []
     | true=>
      have q:=someb (ifT i rfl)
      subst q
      exact AWP.drT [(5,.bool d)] 13 [] [] []
    refine AWP.cif hF (fun s hF=>?_) (fun s hF=>?_)
    ·refine AWP.seq (AWP.rg0 [] [(2,(vb false))] (AWP.ret ?_))
     exact LeQ.of (.inr ⟨rfl,false,(someb hF).symm,(FnQ.f0 0 (.inr rfl))⟩)
    ·refine AWP.skip (AWP.rg0 [] [(5,(Z9 a)),(6,(i64 (ZI (b + (1:Int)))))] (LeQ.start (LeQ.pk [5,6] 1 ?_)))
     exact⟨g,Nat.lt_succ_self _,(ZI (b + (1:Int))),hF,by kernel_rfl,by kernel_rfl⟩
   ·refine AWP.exit (LeQ.start (LeQ.pk [] 1 ?_))
    exact(.inl ⟨rfl,(someb hF).symm,by kernel_rfl,by kernel_rfl⟩)
 ·rintro _ _ _ (⟨rfl,rfl,rfl,rfl⟩ | ⟨rfl,t,rfl,hq⟩)
  ·refine AWP.seq (AWP.rg0 [] [(2,(vb true))] (AWP.ret ?_))
   have hr:=someb hF
   subst hr
   exact(FnQ.f0 0 (.inr rfl))
  ·have hr:=someb hF
   subst hr
   exact hq
def Zx8 (r:Int):PV→List Blk→Prop:=fun p K=>p=(u32 r)∧K=[]
theorem Zoh (a:Int) (r:Int) (hF:Zhw a=some r):ACall Tryz.prog glob 119 [(i64 a)] [] (Zx8 r):=by
 refine ACall.body Tryz.func119 rfl (by kernel_rfl) ?_
 unfold Zhw at hF
 refine AWP.seq (AWP.rg0 [] [(0,(i64 a))] (AWP.seq (AWP.seq ?_)))
 obtain⟨c,b,hF⟩:=bindb hF
 replace b:=someb b
 refine AWP.to [(0,(i64 a)),(8,(vb (c || (decide (a ≥ (5:Int))))))] [] ?_ ?_
 ·cases c with
  | false=>
   exact AWP.rgT [(2,.bool b)]
  | true=>
   exact AWP.rgT [(2,.bool b)]
 refine AWP.cif hF (fun f hF=>?_) (fun f hF=>?_)
 ·refine AWP.seq (AWP.rg0 [] [(2,(u32 (0:Int)))] (AWP.ret ?_))
  have hr:=someb hF
  subst hr
  exact(FnQ.f0 0 (.inr rfl))
 ·refine AWP.skip (AWP.seq ?_)
  obtain⟨d,hF⟩:=chkb hF
  refine AWP.rg0 [(1,.ixd d),(2,.ldA Zdd (Arr5.get Za5) 0 1 0 d)] [(2,(u32 (Arr5.get Za5 a)))] (AWP.ret ?_)
  have hr:=someb hF
  subst hr
  exact(FnQ.f0 0 (.inr rfl))
def Znt (r:Bool):PV→List Blk→Prop:=fun p K=>p=(vb r)∧K=[]
theorem Zdp (a:Zi) (r:Bool) (hF:Zch a=some r):ACall Tryz.prog glob 70 [(Zin a)] [] (Znt r):=by
 refine ACall.body Tryz.func70 rfl (by kernel_rfl) ?_
 unfold Zch at hF
 refine AWP.seq (AWP.rg [] [(1,(.ptr 0 0))] [.cells (Zf a)] (AWP.seq ?_))
 obtain⟨f,g,hF⟩:=bindb hF
 obtain⟨j,b,hF⟩:=bindb hF
 replace b:=someb b
 obtain⟨k,c,hF⟩:=bindb hF
 replace c:=someb c
 obtain⟨l,i,hF⟩:=bindb hF
 refine AWP.to [(2,(vb l))] [.cells (Zf a)] ?_ ?_
 ·cases j with
  | false=>
   subst c
   have m:=someb (ifF i rfl)
   subst m
   exact AWP.drT [(2,.call Tryz.func98 [] (Zhk a.Match f g)),(3,.bool b)] 19 [] [] []
  | true=>
   cases k with
   | false=>
    have n:=someb (ifF i rfl)
    subst n
    exact AWP.drT [(2,.call Tryz.func98 [] (Zhk a.Match f g)),(3,.bool b),(12,.bool c)] 19 [] [] []
   | true=>
    have d:=ifT i rfl
    obtain⟨o,p,d⟩:=bindb d
    replace d:=someb d
    subst d
    exact AWP.drT [(2,.call Tryz.func98 [] (Zhk a.Match f g)),(3,.bool b),(12,.bool c),(16,.call Tryz.func119 [] (Zoh (3:Int) o p))] 19 [] [] []
 refine AWP.ret ?_
 have hr:=someb hF
 subst hr
 exact(FnQ.f0 0 (.inr rfl))
def Zpf (r:ZL):PV→List Blk→Prop:=fun p K=>p=(slc 10 Za r)∧K=[]
theorem Zpg (a:(List Zi)) (r:ZL) (hF:Zf7 a=some r):ACall Tryz.prog glob 69 [(slc 13 Zf a)] [] (Zpf r):=by
 refine ACall.body Tryz.func69 rfl (by kernel_rfl) ?_
 unfold Zf7 at hF
 refine AWP.seq (AWP.rg0 [] [(0,(slc 13 Zf a))] (AWP.seq (AWP.rg0 [] [(0,(slc 13 Zf a)),(3,nils)] ?_)))
 refine AWP.own (H':=[bf 10 57 Za ([]:ZL) false]) (st':=[(3,(.own 0 (List.length ([]:ZL)))),(0,(slc 13 Zf a))]) 3 10 57 (by kernel_rfl) (by kernel_rfl) (by kernel_rfl) ?_
 refine AWP.pick (st':=[(0,(slc 13 Zf a)),(3,(.own 0 (List.length ([]:ZL))))]) (ks:=[0,3]) (by kernel_rfl) ?_
 refine AWP.seq (AWP.seq (AWP.rg0 [(1,.len Zf a)] [(3,(.own 0 (List.length ([]:ZL)))),(6,(slc 13 Zf a)),(7,(i64 (List.length a:Int))),(8,(i64 (0:Int)))] ?_))
 obtain⟨d,o,hF⟩:=bindb hF
 refine AWP.mid (fun e st H=>e=.normal∧st=[(3,(.own 0 (List.length d)))]∧H=[bf 10 57 Za d false]) ?_ ?_
 ·clear hF
  refine AWP.kp [3,6,7,8] 1 ?_
  refine AWP.bround (fun n st H=>∃ b,∃ c,Zdb a n b c=some d∧st=[(3,(.own 0 (List.length b))),(6,(slc 13 Zf a)),(7,(i64 (List.length a:Int))),(8,(i64 c))]∧H=[bf 10 57 Za b false]) fuel ⟨([]:ZL),(0:Int),o,by kernel_rfl,by kernel_rfl⟩ ?_
  rintro j st H ⟨b,c,hF,rfl,rfl⟩
  cases j with
  | zero=>exact noneb hF
  | succ j=>
   rw [Zdb] at hF
   refine AWP.seq (AWP.rg0 [] [(3,(.own 0 (List.length b))),(6,(slc 13 Zf a)),(7,(i64 (List.length a:Int))),(8,(i64 c)),(9,(vb (decide (c<(List.length a:Int)))))] (AWP.seq ?_))
   refine AWP.cif hF (fun p hF=>?_) (fun p hF=>?_)
   ·refine AWP.skip ?_
    obtain⟨f,q,hF⟩:=bindb hF
    refine AWP.seq ?_
    refine AWP.mid (fun e st H=>e=.normal∧st=[(3,(.own 0 (List.length f))),(6,(slc 13 Zf a)),(7,(i64 (List.length a:Int))),(8,(i64 c))]∧H=[bf 10 57 Za f false]) ?_ ?_
    ·clear hF
     have hF:=q
     refine AWP.block (AWP.seq ?_)
     obtain⟨k,u,hF⟩:=bindb hF
     refine AWP.rg [(0,.idx Zf u)] [(3,(.own 0 (List.length b))),(5,(.ptr 1 0)),(6,(slc 13 Zf a)),(7,(i64 (List.length a:Int))),(8,(i64 c))] [bf 10 57 Za b false,.cells (Zf k)] ?_
     obtain⟨g,v,hF⟩:=bindb hF
     refine AWP.seq ?_
     refine AWP.mid (fun e st H=>e=.normal∧st=[(3,(.own 0 (List.length b))),(5,(.ptr 1 0)),(6,(slc 13 Zf a)),(7,(i64 (List.length a:Int))),(8,(i64 c))]∧H=[bf 10 57 Za b false,.cells (Zf g)]) ?_ ?_
     ·clear hF
      have hF:=v
      refine AWP.seq ?_
      obtain⟨m,w,hF⟩:=bindb hF
      refine AWP.rg0 [(1,.call Tryz.func70 [] (Zdp k m w))] [(3,(.own 0 (List.length b))),(5,(.ptr 1 0)),(6,(slc 13 Zf a)),(7,(i64 (List.length a:Int))),(8,(i64 c)),(14,(vb (!m)))] ?_
      refine AWP.cif hF (fun x hF=>?_) (fun x hF=>?_)
      ·refine AWP.rg [] [(3,(.own 0 (List.length b))),(5,(.ptr 1 0)),(6,(slc 13 Zf a)),(7,(i64 (List.length a:Int))),(8,(i64 c))] [bf 10 57 Za b false,.cells (Zf ({ k with Match:=(Arr5.mk (Zb.mk (1:Int) (0:Int)) Zp Zp Zp Zp) }:Zi))] (LeQ.start (LeQ.pk [3,5,6,7,8] 2 ?_))
       have hr:=someb hF
       subst hr
       exact⟨rfl,by kernel_rfl,by kernel_rfl⟩
      ·refine AWP.skip (LeQ.start (LeQ.pk [3,5,6,7,8] 2 ?_))
       have hr:=someb hF
       subst hr
       exact⟨rfl,by kernel_rfl,by kernel_rfl⟩
     ·rintro _ _ _ ⟨rfl,rfl,rfl⟩
      obtain⟨y,hF⟩:=chkb hF
      refine AWP.rg [(4,.app Za (fun _=>by kernel_rfl) y)] [(3,(.own 0 (List.length (b++[g.Match])))),(6,(slc 13 Zf a)),(7,(i64 (List.length a:Int))),(8,(i64 c))] [bf 10 57 Za (b++[g.Match]) false,.cells (Zf g)] (LeQ.start (LeQ.pk [3,6,7,8] 1 ?_))
      have hr:=someb hF
      subst hr
      exact⟨rfl,by kernel_rfl,by kernel_rfl⟩
    ·rintro _ _ _ ⟨rfl,rfl,rfl⟩
     refine AWP.rg0 [] [(3,(.own 0 (List.length f))),(6,(slc 13 Zf a)),(7,(i64 (List.length a:Int))),(8,(i64 (ZI (c + (1:Int)))))] (LeQ.start (LeQ.pk [3,6,7,8] 1 ?_))
     exact⟨j,Nat.lt_succ_self _,f,(ZI (c + (1:Int))),hF,by kernel_rfl,by kernel_rfl⟩
   ·refine AWP.exit (LeQ.start (LeQ.pk [3] 1 ?_))
    have hr:=someb hF
    subst hr
    exact⟨rfl,by kernel_rfl,by kernel_rfl⟩
 ·rintro _ _ _ ⟨rfl,rfl,rfl⟩
  refine AWP.seq (AWP.rg0 [] [(2,(.own 0 (List.length d)))] (AWP.ret ?_))
  have hr:=someb hF
  subst hr
  exact(FnQ.f1 0 (.inr rfl) (.inl (Wk.ownT (i:=0) (s:=10) (t:=57) (l:=d) (sh:=false) (row:=Za) (by kernel_rfl) (.inl rfl))))
def Znu (r:Bool):PV→List Blk→Prop:=fun p K=>p=(vb r)∧K=[]
theorem Zgl (a:ZB) (r:Bool) (hF:Zcy a=some r):ACall Tryz.prog glob 144 [(Z9 a)] [] (Znu r):=by
 refine ACall.body Tryz.func144 rfl (by kernel_rfl) ?_
 unfold Zcy at hF
 refine AWP.seq (AWP.rg [] [(1,(.ptr 0 0))] [.cells (Za a)] (AWP.seq ?_))
 obtain⟨b,c,hF⟩:=bindb hF
 refine AWP.rg0 [(1,.call Tryz.func98 [] (Zhk a b c))] [(2,(vb (!b)))] (AWP.ret ?_)
 have hr:=someb hF
 subst hr
 exact(FnQ.f0 0 (.inr rfl))
def Zd7 (a:ZL) (b:List Value) (r:Int):PV→List Blk→Prop:=fun p K=>p=(i64 r)∧K=[.cells (cel Za a b)]
abbrev Zgx (a:ZL) (b:List Value) (r:Int):Exit→St→List Blk→Prop:=FnQ Tryz.prog Tryz.f150.results 1 (Zd7 a b r)
theorem Zgy (a:Nat) (c:ZL) (d:List Value) (r:Int) (hF:Zbq a c=some r):ACall Tryz.prog glob 150 [(.vw 0 0 a),(.sc (.func (.func 144) #[] #[]))] [.cells (cel Za c d)] (Zd7 c d r):=by
 refine ACall.body Tryz.func150 rfl (by kernel_rfl) ?_
 unfold Zbq at hF
 refine AWP.seq (AWP.rg0 [] [(0,(.vw 0 0 a)),(1,(.sc (.func (.func 144) #[] #[])))] (AWP.seq (AWP.seq (AWP.rg0 [(1,.lenV a)] [(0,(.vw 0 0 a)),(1,(.sc (.func (.func 144) #[] #[]))),(7,(i64 (a:Int))),(8,(i64 (0:Int)))] ?_))))
 obtain⟨f,k,hF⟩:=bindb hF
 refine AWP.mid (fun e st H=>(e=.normal∧f=(.inl ())∧st=[]∧H=[.cells (cel Za c d)])∨(e=.ret∧∃ r,f=(.inr r)∧Zgx c d r e st H)) ?_ ?_
 ·clear hF
  refine AWP.kp [0,1,7,8] 1 ?_
  refine AWP.bround (fun n st H=>∃ b,Z5 a c n b=some f∧st=[(0,(.vw 0 0 a)),(1,(.sc (.func (.func 144) #[] #[]))),(7,(i64 (a:Int))),(8,(i64 b))]∧H=[.cells (cel Za c d)]) fuel ⟨(0:Int),k,by kernel_rfl,by kernel_rfl⟩ ?_
  rintro g st H ⟨b,hF,rfl,rfl⟩
  cases g with
  | zero=>exact noneb hF
  | succ g=>
   rw [Z5] at hF
   refine AWP.seq (AWP.rg0 [] [(0,(.vw 0 0 a)),(1,(.sc (.func (.func 144) #[] #[]))),(7,(i64 (a:Int))),(8,(i64 b)),(9,(vb (decide (b<(a:Int)))))] (AWP.seq ?_))
   refine AWP.cif hF (fun l hF=>?_) (fun l hF=>?_)
   ·refine AWP.skip (AWP.seq (AWP.block (AWP.seq (AWP.rg0 [] [(0,(.vw 0 0 a)),(1,(.sc (.func (.func 144) #[] #[]))),(5,(i64 b)),(7,(i64 (a:Int))),(8,(i64 b))] (AWP.seq ?_)))))
    obtain⟨m,i,hF⟩:=bindb hF
    obtain⟨j,o,hF⟩:=bindb hF
    refine AWP.rg0 [(3,.idxV (Zs i)),(4,.ldV Za (s:=10) (fun _=>rfl) d (Zr i) (0 + Int.toNat b * 10) (Nat.zero_add _) []),(5,.call Tryz.func144 [] (Zgl m j o))] [(0,(.vw 0 0 a)),(1,(.sc (.func (.func 144) #[] #[]))),(5,(i64 b)),(7,(i64 (a:Int))),(8,(i64 b)),(16,(vb j))] ?_
    refine AWP.cif hF (fun p hF=>?_) (fun p hF=>?_)
    ·refine AWP.seq (AWP.rg0 [] [(4,(i64 b))] (AWP.ret ?_))
     exact LeQ.of (.inr ⟨rfl,b,(someb hF).symm,(FnQ.f0 1 (.inr rfl))⟩)
    ·refine AWP.skip (AWP.rg0 [] [(0,(.vw 0 0 a)),(1,(.sc (.func (.func 144) #[] #[]))),(7,(i64 (a:Int))),(8,(i64 (ZI (b + (1:Int)))))] (LeQ.start (LeQ.pk [0,1,7,8] 1 ?_)))
     exact⟨g,Nat.lt_succ_self _,(ZI (b + (1:Int))),hF,by kernel_rfl,by kernel_rfl⟩
   ·refine AWP.exit (LeQ.start (LeQ.pk [] 1 ?_))
    exact(.inl ⟨rfl,(someb hF).symm,by kernel_rfl,by kernel_rfl⟩)
 ·rintro _ _ _ (⟨rfl,rfl,rfl,rfl⟩ | ⟨rfl,q,rfl,hq⟩)
  ·refine AWP.seq (AWP.rg0 [] [(4,(i64 (-1:Int)))] (AWP.ret ?_))
   have hr:=someb hF
   subst hr
   exact(FnQ.f0 1 (.inr rfl))
  ·have hr:=someb hF
   subst hr
   exact hq
def Zgs (a:List Value) (r:(Nat × ZL)):PV→List Blk→Prop:=fun p K=>p=(.vw 0 0 r.1)∧K=[.cells (cel Za r.2 a)]
theorem Zgt (a:Nat) (k:ZL) (b:List Value) (r:(Nat × ZL)) (hF:Zav a k=some r):ACall Tryz.prog glob 142 [(.vw 0 0 a),(.sc (.func (.func 144) #[] #[]))] [.cells (cel Za k b)] (Zgs b r):=by
 refine ACall.body Tryz.func142 rfl (by kernel_rfl) ?_
 unfold Zav at hF
 refine AWP.seq (AWP.rg0 [] [(0,(.vw 0 0 a)),(1,(.sc (.func (.func 144) #[] #[])))] (AWP.seq ?_))
 obtain⟨i,x,hF⟩:=bindb hF
 refine AWP.rg0 [(2,.callC Tryz.func150 [] (closedH.c (Zx (row:=Za) (fun _=>rfl) k b) closedH.n) (closedH.c (Zx (row:=Za) (fun _=>rfl) k b) closedH.n) (Zgy a k b i x))] [(0,(.vw 0 0 a)),(1,(.sc (.func (.func 144) #[] #[]))),(5,(i64 i))] (AWP.seq (AWP.seq (AWP.rg0 [] [(0,(.vw 0 0 a)),(1,(.sc (.func (.func 144) #[] #[]))),(5,(i64 i)),(12,(vb (i == (-1:Int))))] ?_)))
 refine AWP.cif hF (fun y hF=>?_) (fun y hF=>?_)
 ·refine AWP.seq (AWP.rg0 [] [(4,(.vw 0 0 a))] (AWP.ret ?_))
  have hr:=someb hF
  subst hr
  exact(FnQ.f0 1 (.inr rfl))
 ·refine AWP.skip (AWP.seq (AWP.seq (AWP.rg0 [] [(0,(.vw 0 0 a)),(1,(.sc (.func (.func 144) #[] #[]))),(5,(i64 i)),(6,(i64 (ZI (i + (1:Int)))))] ?_)))
  obtain⟨t,z,hF⟩:=bindb hF
  refine AWP.mid (fun e st H=>(e=.normal∧∃ l,∃ g,t=(l,g)∧st=[(0,(.vw 0 0 a)),(5,(i64 g))]∧H=[.cells (cel Za l b)])) ?_ ?_
  ·clear hF
   refine AWP.kp [0,1,5,6] 1 ?_
   refine AWP.bround (fun n st H=>∃ j,∃ d,∃ f,Z4 a n j d f=some t∧st=[(0,(.vw 0 0 a)),(1,(.sc (.func (.func 144) #[] #[]))),(5,(i64 d)),(6,(i64 f))]∧H=[.cells (cel Za j b)]) fuel ⟨k,i,(ZI (i + (1:Int))),z,by kernel_rfl,by kernel_rfl⟩ ?_
   rintro q st H ⟨j,d,f,hF,rfl,rfl⟩
   cases q with
   | zero=>exact noneb hF
   | succ q=>
    rw [Z4] at hF
    refine AWP.seq (AWP.seq (AWP.rg0 [(2,.lenV a)] [(0,(.vw 0 0 a)),(1,(.sc (.func (.func 144) #[] #[]))),(5,(i64 d)),(6,(i64 f)),(19,(vb (decide (f<(a:Int)))))] ?_))
    refine AWP.cif hF (fun a0 hF=>?_) (fun a0 hF=>?_)
    ·refine AWP.skip ?_
     obtain⟨a1,a2,hF⟩:=bindb hF
     refine AWP.seq ?_
     refine AWP.mid (fun e st H=>(e=.normal∧∃ p,∃ o,a1=(p,o)∧st=[(0,(.vw 0 0 a)),(1,(.sc (.func (.func 144) #[] #[]))),(5,(i64 o)),(6,(i64 f))]∧H=[.cells (cel Za p b)])) ?_ ?_
     ·clear hF
      have hF:=a2
      refine AWP.block (AWP.seq ?_)
      obtain⟨m,u,hF⟩:=bindb hF
      refine AWP.rg [(2,.idxV (Zs u)),(3,.ldV Za (s:=10) (fun _=>rfl) b (Zr u) (0 + Int.toNat f * 10) (Nat.zero_add _) [])] [(0,(.vw 0 0 a)),(1,(.sc (.func (.func 144) #[] #[]))),(5,(i64 d)),(6,(i64 f)),(7,(.ptr 1 0))] [.cells (cel Za j b),.cells (Za m)] (AWP.seq ?_)
      obtain⟨v,a3,hF⟩:=bindb hF
      refine AWP.rg0 [(2,.call Tryz.func144 [] (Zgl m v a3))] [(0,(.vw 0 0 a)),(1,(.sc (.func (.func 144) #[] #[]))),(5,(i64 d)),(6,(i64 f)),(7,(.ptr 1 0)),(29,(vb (!v)))] ?_
      refine AWP.cif hF (fun a4 hF=>?_) (fun a4 hF=>?_)
      ·refine AWP.seq ?_
       obtain⟨a8,w,hF⟩:=bindb hF
       refine AWP.rg [(3,.idxV (Zs w)),(4,.stV Za (s:=10) (fun _=>rfl) b (Zr w) m (0 + Int.toNat d * 10) (Nat.zero_add _) [])] [(0,(.vw 0 0 a)),(1,(.sc (.func (.func 144) #[] #[]))),(5,(i64 d)),(6,(i64 f))] [.cells (cel Za (List.set j (Int.toNat d) m) b),.cells (Za m)] (AWP.rg0 [] [(0,(.vw 0 0 a)),(1,(.sc (.func (.func 144) #[] #[]))),(5,(i64 (ZI (d + (1:Int))))),(6,(i64 f))] (LeQ.start (LeQ.pk [0,1,5,6] 1 ?_)))
       exact⟨rfl,(List.set j (Int.toNat d) m),(ZI (d + (1:Int))),(someb hF).symm,by kernel_rfl,by kernel_rfl⟩
      ·refine AWP.skip (LeQ.start (LeQ.pk [0,1,5,6] 1 ?_))
       exact⟨rfl,j,d,(someb hF).symm,by kernel_rfl,by kernel_rfl⟩
     ·rintro _ _ _ ⟨rfl,p,o,rfl,rfl,rfl⟩
      refine AWP.rg0 [] [(0,(.vw 0 0 a)),(1,(.sc (.func (.func 144) #[] #[]))),(5,(i64 o)),(6,(i64 (ZI (f + (1:Int)))))] (LeQ.start (LeQ.pk [0,1,5,6] 1 ?_))
      exact⟨q,Nat.lt_succ_self _,p,o,(ZI (f + (1:Int))),hF,by kernel_rfl,by kernel_rfl⟩
    ·refine AWP.exit (LeQ.start (LeQ.pk [0,5] 1 ?_))
     exact⟨rfl,j,d,(someb hF).symm,by kernel_rfl,by kernel_rfl⟩
  ·rintro _ _ _ ⟨rfl,l,g,rfl,rfl,rfl⟩
   refine AWP.seq ?_
   obtain⟨a5,hF⟩:=chkb hF
   obtain⟨a6,hF⟩:=chkb hF
   refine AWP.rg [(2,.sliceV a5),(3,.clrV Za (s:=10) (fun _=>rfl) (fun _=>rfl) b l Zn (lo:=Int.toNat g) (n:=(Int.toNat (a:Int) - Int.toNat g)) a6 (0 + Int.toNat g * 10) (Nat.zero_add _))] [(0,(.vw 0 0 a)),(5,(i64 g))] [.cells (cel Za (List.take (Int.toNat g) l++List.replicate (Int.toNat (a:Int) - Int.toNat g) Zn++List.drop (Int.toNat g + (Int.toNat (a:Int) - Int.toNat g)) l) b)] (AWP.seq ?_)
   obtain⟨a7,hF⟩:=chkb hF
   refine AWP.rg0 [(2,.sliceV a7)] [(4,(.vw 0 0 (Int.toNat g)))] (AWP.ret ?_)
   have hr:=someb hF
   subst hr
   exact(FnQ.f0 1 (.inr rfl))
def Zd0 (r:Int):PV→List Blk→Prop:=fun p K=>p=(i64 r)∧K=[]
abbrev Zgm (r:Int):Exit→St→List Blk→Prop:=FnQ Tryz.prog Tryz.f150.results 0 (Zd0 r)
theorem Zgn (a:ZL) (r:Int) (hF:Zcj a=some r):ACall Tryz.prog glob 150 [(slc 10 Za a),(.sc (.func (.func 144) #[] #[]))] [] (Zd0 r):=by
 refine ACall.body Tryz.func150 rfl (by kernel_rfl) ?_
 unfold Zcj at hF
 refine AWP.seq (AWP.rg0 [] [(0,(slc 10 Za a)),(1,(.sc (.func (.func 144) #[] #[])))] (AWP.seq (AWP.seq (AWP.rg0 [(1,.len Za a)] [(0,(slc 10 Za a)),(1,(.sc (.func (.func 144) #[] #[]))),(7,(i64 (List.length a:Int))),(8,(i64 (0:Int)))] ?_))))
 obtain⟨c,g,hF⟩:=bindb hF
 refine AWP.mid (fun e st H=>(e=.normal∧c=(.inl ())∧st=[]∧H=[])∨(e=.ret∧∃ r,c=(.inr r)∧Zgm r e st H)) ?_ ?_
 ·clear hF
  refine AWP.kp [0,1,7,8] 0 ?_
  refine AWP.bround (fun n st H=>∃ b,Zba a n b=some c∧st=[(0,(slc 10 Za a)),(1,(.sc (.func (.func 144) #[] #[]))),(7,(i64 (List.length a:Int))),(8,(i64 b))]∧H=[]) fuel ⟨(0:Int),g,by kernel_rfl,by kernel_rfl⟩ ?_
  rintro d st H ⟨b,hF,rfl,rfl⟩
  cases d with
  | zero=>exact noneb hF
  | succ d=>
   rw [Zba] at hF
   refine AWP.seq (AWP.rg0 [] [(0,(slc 10 Za a)),(1,(.sc (.func (.func 144) #[] #[]))),(7,(i64 (List.length a:Int))),(8,(i64 b)),(9,(vb (decide (b<(List.length a:Int)))))] (AWP.seq ?_))
   refine AWP.cif hF (fun i hF=>?_) (fun i hF=>?_)
   ·refine AWP.skip (AWP.seq (AWP.block (AWP.seq (AWP.rg0 [] [(0,(slc 10 Za a)),(1,(.sc (.func (.func 144) #[] #[]))),(5,(i64 b)),(7,(i64 (List.length a:Int))),(8,(i64 b))] (AWP.seq ?_)))))
    obtain⟨j,k,hF⟩:=bindb hF
    obtain⟨f,l,hF⟩:=bindb hF
    refine AWP.rg0 [(3,.idx Za k),(5,.call Tryz.func144 [] (Zgl j f l))] [(0,(slc 10 Za a)),(1,(.sc (.func (.func 144) #[] #[]))),(5,(i64 b)),(7,(i64 (List.length a:Int))),(8,(i64 b)),(16,(vb f))] ?_
    refine AWP.cif hF (fun m hF=>?_) (fun m hF=>?_)
    ·refine AWP.seq (AWP.rg0 [] [(4,(i64 b))] (AWP.ret ?_))
     exact LeQ.of (.inr ⟨rfl,b,(someb hF).symm,(FnQ.f0 0 (.inr rfl))⟩)
    ·refine AWP.skip (AWP.rg0 [] [(0,(slc 10 Za a)),(1,(.sc (.func (.func 144) #[] #[]))),(7,(i64 (List.length a:Int))),(8,(i64 (ZI (b + (1:Int)))))] (LeQ.start (LeQ.pk [0,1,7,8] 0 ?_)))
     exact⟨d,Nat.lt_succ_self _,(ZI (b + (1:Int))),hF,by kernel_rfl,by kernel_rfl⟩
   ·refine AWP.exit (LeQ.start (LeQ.pk [] 0 ?_))
    exact(.inl ⟨rfl,(someb hF).symm,by kernel_rfl,by kernel_rfl⟩)
 ·rintro _ _ _ (⟨rfl,rfl,rfl,rfl⟩ | ⟨rfl,o,rfl,hq⟩)
  ·refine AWP.seq (AWP.rg0 [] [(4,(i64 (-1:Int)))] (AWP.ret ?_))
   have hr:=someb hF
   subst hr
   exact(FnQ.f0 0 (.inr rfl))
  ·have hr:=someb hF
   subst hr
   exact hq
def Zf1 (r:ZL):PV→List Blk→Prop:=fun p K=>p=(slc 10 Za r)∧K=[]
theorem Zf2 (r:ZL) (hF:Zb1=some r):ACall Tryz.prog glob 142 [(slc 10 Za ([]:ZL)),(.sc (.func (.func 144) #[] #[]))] [] (Zf1 r):=by
 refine ACall.body Tryz.func142 rfl (by kernel_rfl) ?_
 unfold Zb1 at hF
 refine AWP.seq (AWP.rg0 [] [(0,(slc 10 Za ([]:ZL))),(1,(.sc (.func (.func 144) #[] #[])))] (AWP.seq ?_))
 obtain⟨c,j,hF⟩:=bindb hF
 refine AWP.rg0 [(2,.call Tryz.func150 [] (Zgn ([]:ZL) c j))] [(0,(slc 10 Za ([]:ZL))),(1,(.sc (.func (.func 144) #[] #[]))),(5,(i64 c))] (AWP.seq (AWP.seq (AWP.rg0 [] [(0,(slc 10 Za ([]:ZL))),(1,(.sc (.func (.func 144) #[] #[]))),(5,(i64 c)),(12,(vb (c == (-1:Int))))] ?_)))
 refine AWP.cif hF (fun k hF=>?_) (fun k hF=>?_)
 ·refine AWP.seq (AWP.rg0 [] [(4,(slc 10 Za ([]:ZL)))] (AWP.ret ?_))
  have hr:=someb hF
  subst hr
  exact(FnQ.f0 0 (.inr rfl))
 ·refine AWP.skip (AWP.seq (AWP.seq (AWP.rg0 [] [(0,(slc 10 Za ([]:ZL))),(1,(.sc (.func (.func 144) #[] #[]))),(5,(i64 c)),(6,(i64 (ZI (c + (1:Int)))))] ?_)))
  obtain⟨f,l,hF⟩:=bindb hF
  refine AWP.mid (fun e st H=>e=.normal∧st=[(0,(slc 10 Za ([]:ZL))),(5,(i64 f))]∧H=[]) ?_ ?_
  ·clear hF
   refine AWP.kp [0,1,5,6] 0 ?_
   refine AWP.bround (fun n st H=>∃ b,∃ a,Zaw n b a=some f∧st=[(0,(slc 10 Za ([]:ZL))),(1,(.sc (.func (.func 144) #[] #[]))),(5,(i64 b)),(6,(i64 a))]∧H=[]) fuel ⟨c,(ZI (c + (1:Int))),l,by kernel_rfl,by kernel_rfl⟩ ?_
   rintro d st H ⟨b,a,hF,rfl,rfl⟩
   cases d with
   | zero=>exact noneb hF
   | succ d=>
    rw [Zaw] at hF
    refine AWP.seq (AWP.seq (AWP.rg0 [(2,.len Za ([]:ZL))] [(0,(slc 10 Za ([]:ZL))),(1,(.sc (.func (.func 144) #[] #[]))),(5,(i64 b)),(6,(i64 a)),(19,(vb (decide (a<(List.length ([]:ZL):Int)))))] ?_))
    refine AWP.cif hF (fun m hF=>?_) (fun m hF=>?_)
    ·refine AWP.skip ?_
     obtain⟨o,p,hF⟩:=bindb hF
     refine AWP.seq ?_
     refine AWP.mid (fun e st H=>(e=.normal∧o=()∧st=[(0,(slc 10 Za ([]:ZL))),(1,(.sc (.func (.func 144) #[] #[]))),(5,(i64 b)),(6,(i64 a))]∧H=[])) ?_ ?_
     ·clear hF
      have hF:=p
      refine AWP.block (AWP.seq ?_)
      obtain⟨g,q,hF⟩:=bindb hF
      refine AWP.rg [(2,.idx Za q)] [(0,(slc 10 Za ([]:ZL))),(1,(.sc (.func (.func 144) #[] #[]))),(5,(i64 b)),(6,(i64 a)),(7,(.ptr 0 0))] [.cells (Za g)] (AWP.seq ?_)
      obtain⟨i,s,hF⟩:=bindb hF
      refine AWP.rg0 [(2,.call Tryz.func144 [] (Zgl g i s))] [(0,(slc 10 Za ([]:ZL))),(1,(.sc (.func (.func 144) #[] #[]))),(5,(i64 b)),(6,(i64 a)),(7,(.ptr 0 0)),(29,(vb (!i)))] ?_
      refine AWP.cif hF (fun t hF=>?_) (fun t hF=>?_)
      ·refine AWP.seq ?_
       exact noneb hF
      ·refine AWP.skip (LeQ.start (LeQ.pk [0,1,5,6] 0 ?_))
       exact⟨rfl,(someb hF).symm,by kernel_rfl,by kernel_rfl⟩
     ·rintro _ _ _ ⟨rfl,rfl,rfl,rfl⟩
      refine AWP.rg0 [] [(0,(slc 10 Za ([]:ZL))),(1,(.sc (.func (.func 144) #[] #[]))),(5,(i64 b)),(6,(i64 (ZI (a + (1:Int)))))] (LeQ.start (LeQ.pk [0,1,5,6] 0 ?_))
      exact⟨d,Nat.lt_succ_self _,b,(ZI (a + (1:Int))),hF,by kernel_rfl,by kernel_rfl⟩
    ·refine AWP.exit (LeQ.start (LeQ.pk [0,5] 0 ?_))
     have hr:=someb hF
     subst hr
     exact⟨rfl,by kernel_rfl,by kernel_rfl⟩
  ·rintro _ _ _ ⟨rfl,rfl,rfl⟩
   refine AWP.seq ?_
   exact noneb hF
def Zph (r:ZL):PV→List Blk→Prop:=fun p K=>p=(slc 10 Za r)∧K=[]
theorem Zig (a:ZL) (r:ZL) (hF:Ze4 a=some r):ACall Tryz.prog glob 129 [(slc 10 Za a)] [] (Zph r):=by
 refine ACall.body Tryz.func129 rfl (by kernel_rfl) ?_
 unfold Ze4 at hF
 refine AWP.seq (AWP.rg0 [] [(0,(slc 10 Za a))] (AWP.seq ?_))
 obtain⟨c,hF⟩:=chkb hF
 obtain⟨b,d,hF⟩:=bindb hF
 refine AWP.rg [(1,.clone Tryz.func143 Za (fun _=>by kernel_rfl) c),(2,.callBE (s:=10) Za Tryz.func142 (fun _=>rfl) d (fun h sp_=>Zgt (List.length a) a sp_ _ h) (fun h=>Zf2 _ h))] [(2,(slc 10 Za (List.take b.1 b.2)))] [bf 10 57 Za b.2 true] (AWP.ret ?_)
 have hr:=someb hF
 subst hr
 exact(FnQ.f0 0 (.inr rfl))
def Zpi (r:ZL):PV→List Blk→Prop:=fun p K=>p=(slc 10 Za r)∧K=[]
theorem Zpj (c:Int) (b:ZL) (r:ZL) (hF:Zf5 c b=some r):ACall Tryz.prog glob 145 [(i64 c),(slc 10 Za b)] [] (Zpi r):=by
 refine ACall.body Tryz.func145 rfl (by kernel_rfl) ?_
 unfold Zf5 at hF
 refine AWP.seq (AWP.rg0 [] [(0,(i64 c)),(1,(slc 10 Za b))] (AWP.seq ?_))
 obtain⟨v,hF⟩:=chkb hF
 refine AWP.rg [(1,.clone Tryz.func143 Za (fun _=>by kernel_rfl) v)] [(0,(i64 c)),(5,(.own 0 (List.length b)))] [bf 10 57 Za b false] (AWP.seq (AWP.seq (AWP.rg0 [(1,.len Za b)] [(0,(i64 c)),(5,(.own 0 (List.length b))),(11,(i64 (List.length b:Int))),(12,(i64 (0:Int)))] ?_)))
 obtain⟨j,w,hF⟩:=bindb hF
 refine AWP.mid (fun e st H=>e=.normal∧st=[(5,(.own 0 (List.length j)))]∧H=[bf 10 57 Za j false]) ?_ ?_
 ·clear hF
  refine AWP.kp [0,5,11,12] 1 ?_
  refine AWP.bround (fun n st H=>∃ g,∃ a,Zda c b n g a=some j∧st=[(0,(i64 c)),(5,(.own 0 (List.length g))),(11,(i64 (List.length b:Int))),(12,(i64 a))]∧H=[bf 10 57 Za g false]) fuel ⟨b,(0:Int),w,by kernel_rfl,by kernel_rfl⟩ ?_
  rintro o st H ⟨g,a,hF,rfl,rfl⟩
  cases o with
  | zero=>exact noneb hF
  | succ o=>
   rw [Zda] at hF
   refine AWP.seq (AWP.rg0 [] [(0,(i64 c)),(5,(.own 0 (List.length g))),(11,(i64 (List.length b:Int))),(12,(i64 a)),(13,(vb (decide (a<(List.length b:Int)))))] (AWP.seq ?_))
   refine AWP.cif hF (fun x hF=>?_) (fun x hF=>?_)
   ·refine AWP.skip (AWP.seq (AWP.block (AWP.seq (AWP.rg0 [] [(0,(i64 c)),(5,(.own 0 (List.length g))),(6,(i64 a)),(11,(i64 (List.length b:Int))),(12,(i64 a))] (AWP.seq (AWP.rg0 [] [(0,(i64 c)),(5,(.own 0 (List.length g))),(6,(i64 a)),(7,(i64 (0:Int))),(11,(i64 (List.length b:Int))),(12,(i64 a))] ?_))))))
    obtain⟨k,y,hF⟩:=bindb hF
    refine AWP.mid (fun e st H=>e=.normal∧st=[(0,(i64 c)),(5,(.own 0 (List.length k))),(11,(i64 (List.length b:Int))),(12,(i64 a))]∧H=[bf 10 57 Za k false]) ?_ ?_
    ·clear hF
     refine AWP.kp [0,5,6,7,11,12] 1 ?_
     refine AWP.bround (fun n st H=>∃ f,∃ d,Zbv c a n f d=some k∧st=[(0,(i64 c)),(5,(.own 0 (List.length f))),(6,(i64 a)),(7,(i64 d)),(11,(i64 (List.length b:Int))),(12,(i64 a))]∧H=[bf 10 57 Za f false]) fuel ⟨g,(0:Int),y,by kernel_rfl,by kernel_rfl⟩ ?_
     rintro p st H ⟨f,d,hF,rfl,rfl⟩
     cases p with
     | zero=>exact noneb hF
     | succ p=>
      rw [Zbv] at hF
      refine AWP.seq (AWP.seq (AWP.rg0 [] [(0,(i64 c)),(5,(.own 0 (List.length f))),(6,(i64 a)),(7,(i64 d)),(11,(i64 (List.length b:Int))),(12,(i64 a)),(17,(vb (decide (d≤c))))] ?_))
      refine AWP.cif hF (fun z hF=>?_) (fun z hF=>?_)
      ·refine AWP.skip (AWP.seq (AWP.block ?_))
       obtain⟨m,q,hF⟩:=bindb hF
       obtain⟨u,hF⟩:=chkb hF
       refine AWP.rg [(4,.idx Za q),(5,.ixE Za f a u),(6,.stEd Za q (fun a0=>(Arr5.set m a0 (Zb.mk (0:Int) (0:Int)))) 0 2 0 u)] [(0,(i64 c)),(5,(.own 0 (List.length f))),(6,(i64 a)),(7,(i64 d)),(11,(i64 (List.length b:Int))),(12,(i64 a))] [bf 10 57 Za (List.set f (Int.toNat a) (Arr5.set m d (Zb.mk (0:Int) (0:Int)))) false] ?_
       rw [show ([(0,(i64 c)),(5,(.own 0 (List.length f))),(6,(i64 a)),(7,(i64 d)),(11,(i64 (List.length b:Int))),(12,(i64 a))]:St)=[(0,(i64 c)),(5,(.own 0 (List.length (List.set f (Int.toNat a) (Arr5.set m d (Zb.mk (0:Int) (0:Int))))))),(6,(i64 a)),(7,(i64 d)),(11,(i64 (List.length b:Int))),(12,(i64 a))] by simp only [List.length_set]]
       refine AWP.rg0 [] [(0,(i64 c)),(5,(.own 0 (List.length (List.set f (Int.toNat a) (Arr5.set m d (Zb.mk (0:Int) (0:Int))))))),(6,(i64 a)),(7,(i64 (ZI (d + (1:Int))))),(11,(i64 (List.length b:Int))),(12,(i64 a))] (LeQ.start (LeQ.pk [0,5,6,7,11,12] 1 ?_))
       exact⟨p,Nat.lt_succ_self _,(List.set f (Int.toNat a) (Arr5.set m d (Zb.mk (0:Int) (0:Int)))),(ZI (d + (1:Int))),hF,by kernel_rfl,by kernel_rfl⟩
      ·refine AWP.exit (LeQ.start (LeQ.pk [0,5,11,12] 1 ?_))
       have hr:=someb hF
       subst hr
       exact⟨rfl,by kernel_rfl,by kernel_rfl⟩
    ·rintro _ _ _ ⟨rfl,rfl,rfl⟩
     refine AWP.rg0 [] [(0,(i64 c)),(5,(.own 0 (List.length k))),(11,(i64 (List.length b:Int))),(12,(i64 (ZI (a + (1:Int)))))] (LeQ.start (LeQ.pk [0,5,11,12] 1 ?_))
     exact⟨o,Nat.lt_succ_self _,k,(ZI (a + (1:Int))),hF,by kernel_rfl,by kernel_rfl⟩
   ·refine AWP.exit (LeQ.start (LeQ.pk [5] 1 ?_))
    have hr:=someb hF
    subst hr
    exact⟨rfl,by kernel_rfl,by kernel_rfl⟩
 ·rintro _ _ _ ⟨rfl,rfl,rfl⟩
  refine AWP.seq (AWP.rg0 [] [(4,(.own 0 (List.length j)))] (AWP.ret ?_))
  have hr:=someb hF
  subst hr
  exact(FnQ.f1 0 (.inr rfl) (.inl (Wk.ownT (i:=0) (s:=10) (t:=57) (l:=j) (sh:=false) (row:=Za) (by kernel_rfl) (.inl rfl))))
def Zgz (r:Bool):PV→List Blk→Prop:=fun p K=>p=(vb r)∧K=[]
abbrev Zje (r:Bool):Exit→St→List Blk→Prop:=FnQ Tryz.prog Tryz.f146.results 0 (Zgz r)
theorem Zdr (a:ZL) (b:ZL) (r:Bool) (hF:Zan a b=some r):ACall Tryz.prog glob 146 [(slc 10 Za a),(slc 10 Za b)] [] (Zgz r):=by
 refine ACall.body Tryz.func146 rfl (by kernel_rfl) ?_
 unfold Zan at hF
 refine AWP.seq (AWP.rg0 [] [(0,(slc 10 Za a)),(1,(slc 10 Za b))] (AWP.seq (AWP.seq (AWP.rg0 [(1,.len Za a),(3,.len Za b)] [(0,(slc 10 Za a)),(1,(slc 10 Za b)),(10,(vb ((List.length a:Int) != (List.length b:Int))))] ?_))))
 refine AWP.cif hF (fun g hF=>?_) (fun g hF=>?_)
 ·refine AWP.seq (AWP.rg0 [] [(4,(vb false))] (AWP.ret ?_))
  have hr:=someb hF
  subst hr
  exact(FnQ.f0 0 (.inr rfl))
 ·refine AWP.skip (AWP.seq (AWP.seq (AWP.rg0 [(1,.len Za a)] [(0,(slc 10 Za a)),(1,(slc 10 Za b)),(12,(i64 (List.length a:Int))),(13,(i64 (0:Int)))] ?_)))
  obtain⟨d,i,hF⟩:=bindb hF
  refine AWP.mid (fun e st H=>(e=.normal∧d=(.inl ())∧st=[]∧H=[])∨(e=.ret∧∃ r,d=(.inr r)∧Zje r e st H)) ?_ ?_
  ·clear hF
   refine AWP.kp [0,1,12,13] 0 ?_
   refine AWP.bround (fun n st H=>∃ c,Za0 a b n c=some d∧st=[(0,(slc 10 Za a)),(1,(slc 10 Za b)),(12,(i64 (List.length a:Int))),(13,(i64 c))]∧H=[]) fuel ⟨(0:Int),i,by kernel_rfl,by kernel_rfl⟩ ?_
   rintro f st H ⟨c,hF,rfl,rfl⟩
   cases f with
   | zero=>exact noneb hF
   | succ f=>
    rw [Za0] at hF
    refine AWP.seq (AWP.rg0 [] [(0,(slc 10 Za a)),(1,(slc 10 Za b)),(12,(i64 (List.length a:Int))),(13,(i64 c)),(14,(vb (decide (c<(List.length a:Int)))))] (AWP.seq ?_))
    refine AWP.cif hF (fun j hF=>?_) (fun j hF=>?_)
    ·refine AWP.skip (AWP.seq (AWP.block (AWP.seq (AWP.rg0 [] [(0,(slc 10 Za a)),(1,(slc 10 Za b)),(5,(i64 c)),(12,(i64 (List.length a:Int))),(13,(i64 c))] (AWP.seq ?_)))))
     obtain⟨k,l,hF⟩:=bindb hF
     obtain⟨m,o,hF⟩:=bindb hF
     refine AWP.dr [(2,.idx Za l),(6,.idx Za o)] 9 [] [] [] [(0,(slc 10 Za a)),(1,(slc 10 Za b)),(12,(i64 (List.length a:Int))),(13,(i64 c)),(24,(vb (!(Zfv k m))))] [] ?_
     refine AWP.cif hF (fun p hF=>?_) (fun p hF=>?_)
     ·refine AWP.seq (AWP.rg0 [] [(4,(vb false))] (AWP.ret ?_))
      exact LeQ.of (.inr ⟨rfl,false,(someb hF).symm,(FnQ.f0 0 (.inr rfl))⟩)
     ·refine AWP.skip (AWP.rg0 [] [(0,(slc 10 Za a)),(1,(slc 10 Za b)),(12,(i64 (List.length a:Int))),(13,(i64 (ZI (c + (1:Int)))))] (LeQ.start (LeQ.pk [0,1,12,13] 0 ?_)))
      exact⟨f,Nat.lt_succ_self _,(ZI (c + (1:Int))),hF,by kernel_rfl,by kernel_rfl⟩
    ·refine AWP.exit (LeQ.start (LeQ.pk [] 0 ?_))
     exact(.inl ⟨rfl,(someb hF).symm,by kernel_rfl,by kernel_rfl⟩)
  ·rintro _ _ _ (⟨rfl,rfl,rfl,rfl⟩ | ⟨rfl,q,rfl,hq⟩)
   ·refine AWP.seq (AWP.rg0 [] [(4,(vb true))] (AWP.ret ?_))
    have hr:=someb hF
    subst hr
    exact(FnQ.f0 0 (.inr rfl))
   ·have hr:=someb hF
    subst hr
    exact hq
def Zhm (r:Bool):PV→List Blk→Prop:=fun p K=>p=(vb r)∧K=[]
abbrev Zjt (r:Bool):Exit→St→List Blk→Prop:=FnQ Tryz.prog Tryz.f130.results 0 (Zhm r)
theorem Zmg:∀(nr:Nat) (a:Int) (g:ZL) (r:Bool) (hF:Zbp nr a g=some r),ACall Tryz.prog glob 130 [(i64 a),(slc 10 Za g)] [] (Zhm r):=by
 intro nr
 induction nr with
 | zero=>intro a g r hF; exact noneb (by rw [Zbp] at hF; exact hF)
 | succ nr ih=>
  intro a g r hF
  refine ACall.body Tryz.func130 rfl (by kernel_rfl) ?_
  rw [Zbp] at hF
  refine AWP.seq (AWP.rg0 [] [(0,(i64 a)),(1,(slc 10 Za g))] (AWP.seq (AWP.seq (AWP.rg0 [] [(0,(i64 a)),(1,(slc 10 Za g)),(9,(vb (a == (5:Int))))] ?_))))
  refine AWP.cif hF (fun a4 hF=>?_) (fun a4 hF=>?_)
  ·refine AWP.seq (AWP.rg0 [(1,.len Za g)] [(4,(vb (decide ((List.length g:Int)≤(1:Int)))))] (AWP.ret ?_))
   have hr:=someb hF
   subst hr
   exact(FnQ.f0 0 (.inr rfl))
  ·refine AWP.skip (AWP.seq (AWP.rg [] [(0,(i64 a)),(1,(slc 10 Za g)),(5,(.ptr 0 0))] [.cells (Zd Zf3)] (AWP.seq ?_)))
   obtain⟨s,a5,hF⟩:=bindb hF
   refine AWP.mid (fun e st H=>(e=.normal∧∃ t,s=(.inl t)∧st=[]∧H=[.cells (Zd t)])∨(e=.ret∧∃ r,s=(.inr r)∧Zjt r e st H)) ?_ ?_
   ·clear hF
    refine AWP.kp [0,1,5] 1 ?_
    refine AWP.bround (fun n st H=>∃ c,∃ b,Zb9 a (Zbp nr) n c b=some s∧st=[(0,(i64 a)),(1,(slc 10 Za b)),(5,(.ptr 0 0))]∧H=[.cells (Zd c)]) fuel ⟨Zf3,g,a5,by kernel_rfl,by kernel_rfl⟩ ?_
    rintro u st H ⟨c,b,hF,rfl,rfl⟩
    cases u with
    | zero=>exact noneb hF
    | succ u=>
     rw [Zb9] at hF
     refine AWP.seq (AWP.seq (AWP.rg0 [(1,.len Za b)] [(0,(i64 a)),(1,(slc 10 Za b)),(5,(.ptr 0 0)),(15,(vb (decide ((List.length b:Int) > (0:Int)))))] ?_))
     refine AWP.cif hF (fun a6 hF=>?_) (fun a6 hF=>?_)
     ·refine AWP.skip (AWP.block (AWP.seq (AWP.rg0 [] [(0,(i64 a)),(1,(slc 10 Za b)),(5,(.ptr 0 0)),(6,(i64 (1:Int)))] (AWP.seq ?_))))
      obtain⟨d,a7,hF⟩:=bindb hF
      refine AWP.mid (fun e st H=>e=.normal∧st=[(0,(i64 a)),(1,(slc 10 Za b)),(5,(.ptr 0 0)),(6,(i64 d))]∧H=[.cells (Zd c)]) ?_ ?_
      ·clear hF
       refine AWP.kp [0,1,5,6] 1 ?_
       refine AWP.bround (fun n st H=>∃ l,Zcv a b n l=some d∧st=[(0,(i64 a)),(1,(slc 10 Za b)),(5,(.ptr 0 0)),(6,(i64 l))]∧H=[.cells (Zd c)]) fuel ⟨(1:Int),a7,by kernel_rfl,by kernel_rfl⟩ ?_
       rintro v st H ⟨l,hF,rfl,rfl⟩
       cases v with
       | zero=>exact noneb hF
       | succ v=>
        rw [Zcv] at hF
        refine AWP.seq (AWP.seq ?_)
        obtain⟨a8,p,hF⟩:=bindb hF
        replace p:=someb p
        obtain⟨a9,w,hF⟩:=bindb hF
        refine AWP.to [(0,(i64 a)),(1,(slc 10 Za b)),(5,(.ptr 0 0)),(6,(i64 l)),(33,(vb a9))] [.cells (Zd c)] ?_ ?_
        ·cases a8 with
         | false=>
          have b0:=someb (ifF w rfl)
          subst b0
          exact AWP.drT [(2,.len Za b),(4,.bool p)] 18 [] [] []
         | true=>
          have f:=ifT w rfl
          obtain⟨b1,b2,f⟩:=bindb f
          obtain⟨x,f⟩:=chkb f
          obtain⟨b3,b4,f⟩:=bindb f
          obtain⟨y,f⟩:=chkb f
          replace f:=someb f
          subst f
          exact AWP.drT [(2,.len Za b),(4,.bool p),(8,.idx Za b2),(9,.ixd x),(10,.ldA Zl (Arr5.get b1) 0 2 0 x),(13,.idx Za b4),(14,.ixd y),(15,.ldA Zl (Arr5.get b3) 0 2 0 y)] 18 [] [] []
        refine AWP.cif hF (fun b5 hF=>?_) (fun b5 hF=>?_)
        ·refine AWP.skip (AWP.block (AWP.rg0 [] [(0,(i64 a)),(1,(slc 10 Za b)),(5,(.ptr 0 0)),(6,(i64 (ZI (l + (1:Int)))))] (LeQ.start (LeQ.pk [0,1,5,6] 1 ?_))))
         exact⟨v,Nat.lt_succ_self _,(ZI (l + (1:Int))),hF,by kernel_rfl,by kernel_rfl⟩
        ·refine AWP.exit (LeQ.start (LeQ.pk [0,1,5,6] 1 ?_))
         have hr:=someb hF
         subst hr
         exact⟨rfl,by kernel_rfl,by kernel_rfl⟩
      ·rintro _ _ _ ⟨rfl,rfl,rfl⟩
       refine AWP.seq ?_
       obtain⟨j,b6,hF⟩:=bindb hF
       obtain⟨z,hF⟩:=chkb hF
       obtain⟨b7,hF⟩:=chkb hF
       obtain⟨i,b8,hF⟩:=bindb hF
       refine AWP.dr [(2,.idx Za b6),(3,.ixd z),(4,.ldA Zl (Arr5.get j) 0 2 0 z),(8,.slice Za b b7),(9,.call Tryz.func145 [] (Zpj a (List.drop (Int.toNat (0:Int)) (List.take (Int.toNat d) b)) i b8))] 12 [] [11] [] [(0,(i64 a)),(1,(slc 10 Za b)),(5,(.ptr 0 0)),(6,(i64 d)),(7,(.ptr 1 0))] [.cells (Zd c),.cells (Zd (Zh.mk (Arr5.get j a) i))] (AWP.seq (AWP.seq ?_))
       obtain⟨b9,hF⟩:=chkb hF
       obtain⟨a0,c0,hF⟩:=bindb hF
       refine AWP.rg0 [(4,.slice Za b b9),(5,.call Tryz.func130 [] (ih (ZI (a + (1:Int))) (List.drop (Int.toNat (0:Int)) (List.take (Int.toNat d) b)) a0 c0))] [(0,(i64 a)),(1,(slc 10 Za b)),(5,(.ptr 0 0)),(6,(i64 d)),(7,(.ptr 1 0)),(53,(vb (!a0)))] ?_
       refine AWP.cif hF (fun c1 hF=>?_) (fun c1 hF=>?_)
       ·refine AWP.seq (AWP.rg0 [] [(4,(vb false))] (AWP.ret ?_))
        exact LeQ.of (.inr ⟨rfl,false,(someb hF).symm,(FnQ.f0 0 (.inr rfl))⟩)
       ·refine AWP.skip ?_
        obtain⟨a1,c2,hF⟩:=bindb hF
        refine AWP.seq ?_
        refine AWP.mid (fun e st H=>(e=.normal∧a1=(.inl ())∧st=[(0,(i64 a)),(1,(slc 10 Za b)),(5,(.ptr 0 0)),(6,(i64 d)),(7,(.ptr 1 0))]∧H=[.cells (Zd c),.cells (Zd (Zh.mk (Arr5.get j a) i))])∨(e=.ret∧∃ r,a1=(.inr r)∧Zjt r e st H)) ?_ ?_
        ·clear hF
         have hF:=c2
         refine AWP.seq (AWP.rg0 [(2,.len Za c.f_rest)] [(0,(i64 a)),(1,(slc 10 Za b)),(5,(.ptr 0 0)),(6,(i64 d)),(7,(.ptr 1 0)),(57,(vb (decide ((List.length c.f_rest:Int) > (0:Int)))))] ?_)
         refine AWP.cif hF (fun c3 hF=>?_) (fun c3 hF=>?_)
         ·refine AWP.seq ?_
          obtain⟨c4,m,hF⟩:=bindb hF
          replace m:=someb m
          obtain⟨c5,a2,hF⟩:=bindb hF
          refine AWP.to [(0,(i64 a)),(1,(slc 10 Za b)),(5,(.ptr 0 0)),(6,(i64 d)),(7,(.ptr 1 0)),(81,(vb c5))] [.cells (Zd c),.cells (Zd (Zh.mk (Arr5.get j a) i))] ?_ ?_
          ·cases c4 with
           | false=>
            have k:=ifF a2 rfl
            obtain⟨c6,q,k⟩:=bindb k
            replace q:=someb q
            obtain⟨d4,a3,k⟩:=bindb k
            replace k:=someb k
            subst k
            cases c6 with
            | false=>
             have c7:=someb (ifF a3 rfl)
             subst c7
             exact AWP.rgT [(7,.bool m),(16,.bool q)]
            | true=>
             have o:=ifT a3 rfl
             obtain⟨c8,c9,o⟩:=bindb o
             replace o:=someb o
             subst o
             exact AWP.rgT [(7,.bool m),(16,.bool q),(21,.call Tryz.func146 [] (Zdr i c.f_rest c8 c9))]
           | true=>
            have d0:=someb (ifT a2 rfl)
            subst d0
            exact AWP.rgT [(7,.bool m)]
          refine AWP.cif hF (fun d1 hF=>?_) (fun d1 hF=>?_)
          ·refine AWP.seq (AWP.rg0 [] [(4,(vb false))] (AWP.ret ?_))
           exact LeQ.of (.inr ⟨rfl,false,(someb hF).symm,(FnQ.f0 0 (.inr rfl))⟩)
          ·refine AWP.skip (LeQ.start (LeQ.pk [0,1,5,6,7] 2 ?_))
           exact(.inl ⟨rfl,(someb hF).symm,by kernel_rfl,by kernel_rfl⟩)
         ·refine AWP.skip (LeQ.start (LeQ.pk [0,1,5,6,7] 2 ?_))
          exact(.inl ⟨rfl,(someb hF).symm,by kernel_rfl,by kernel_rfl⟩)
        ·rintro _ _ _ (⟨rfl,rfl,rfl,rfl⟩ | ⟨rfl,d2,rfl,hq⟩)
         ·obtain⟨d3,hF⟩:=chkb hF
          refine AWP.dr [(3,.slice Za b d3)] 5 [] [4] [] [(0,(i64 a)),(1,(slc 10 Za (List.drop (Int.toNat d) (List.take (Int.toNat (List.length b:Int)) b)))),(5,(.ptr 0 0))] [.cells (Zd (Zh.mk (Arr5.get j a) i)),.cells (Zd (Zh.mk (Arr5.get j a) i))] (LeQ.start (LeQ.pk [0,1,5] 1 ?_))
          exact⟨u,Nat.lt_succ_self _,(Zh.mk (Arr5.get j a) i),(List.drop (Int.toNat d) (List.take (Int.toNat (List.length b:Int)) b)),hF,by kernel_rfl,by kernel_rfl⟩
         ·exact LeQ.of (.inr ⟨rfl,d2,(someb hF).symm,hq⟩)
     ·refine AWP.exit (LeQ.start (LeQ.pk [] 1 ?_))
      exact(.inl ⟨rfl,c,(someb hF).symm,by kernel_rfl,by kernel_rfl⟩)
   ·rintro _ _ _ (⟨rfl,t,rfl,rfl,rfl⟩ | ⟨rfl,d5,rfl,hq⟩)
    ·refine AWP.seq (AWP.rg0 [] [(4,(vb true))] (AWP.ret ?_))
     have hr:=someb hF
     subst hr
     exact(FnQ.f0 0 (.inr rfl))
    ·have hr:=someb hF
     subst hr
     exact hq
theorem Znv (a:Int) (b:ZL) (r:Bool) (hF:Zbp fuel a b=some r):ACall Tryz.prog glob 130 [(i64 a),(slc 10 Za b)] [] (Zhm r):=Zmg fuel a b r hF
def Zpk (r:Bool):PV→List Blk→Prop:=fun p K=>p=(vb r)∧K=[]
theorem Zki (a:ZL) (r:Bool) (hF:Zd5 a=some r):ACall Tryz.prog glob 99 [(slc 10 Za a)] [] (Zpk r):=by
 refine ACall.body Tryz.func99 rfl (by kernel_rfl) ?_
 unfold Zd5 at hF
 refine AWP.seq (AWP.rg0 [] [(0,(slc 10 Za a))] (AWP.seq ?_))
 obtain⟨l,b,hF⟩:=bindb hF
 replace b:=someb b
 obtain⟨u,j,hF⟩:=bindb hF
 obtain⟨m,c,hF⟩:=bindb hF
 replace c:=someb c
 obtain⟨n,i,hF⟩:=bindb hF
 refine AWP.to [(2,(vb n))] [] ?_ ?_
 ·cases l with
  | false=>
   have o:=someb (ifF j rfl)
   subst o
   subst c
   have p:=someb (ifF i rfl)
   subst p
   exact AWP.rgT [(1,.len Za a),(3,.bool b)]
  | true=>
   have d:=ifT j rfl
   obtain⟨g,k,d⟩:=bindb d
   replace d:=someb d
   subst d
   cases m with
   | false=>
    have q:=someb (ifF i rfl)
    subst q
    exact AWP.rgT [(1,.len Za a),(3,.bool b),(5,.call Tryz.func129 [] (Zig a g k)),(6,.len Za g),(8,.len Za a),(11,.bool c)]
   | true=>
    have f:=ifT i rfl
    obtain⟨s,t,f⟩:=bindb f
    replace f:=someb f
    subst f
    exact AWP.rgT [(1,.len Za a),(3,.bool b),(5,.call Tryz.func129 [] (Zig a g k)),(6,.len Za g),(8,.len Za a),(11,.bool c),(13,.call Tryz.func130 [] (Znv (0:Int) a s t))]
 refine AWP.ret ?_
 have hr:=someb hF
 subst hr
 exact(FnQ.f0 0 (.inr rfl))
def Zoi (r:Bool):PV→List Blk→Prop:=fun p K=>p=(vb r)∧K=[]
theorem Zj6 (c:Bool) (a:Bool) (r:Bool) (hF:Zem c a=some r):ACall Tryz.prog glob 132 [(vb c),(vb a)] [] (Zoi r):=by
 refine ACall.body Tryz.func132 rfl (by kernel_rfl) ?_
 unfold Zem at hF
 refine AWP.seq (AWP.rg0 [] [(0,(vb c)),(1,(vb a))] (AWP.seq ?_))
 obtain⟨d,b,hF⟩:=bindb hF
 replace b:=someb b
 refine AWP.to [(4,(vb (d || a)))] [] ?_ ?_
 ·cases d with
  | false=>
   exact AWP.rgT [(1,.bool b)]
  | true=>
   exact AWP.rgT [(1,.bool b)]
 refine AWP.ret ?_
 have hr:=someb hF
 subst hr
 exact(FnQ.f0 0 (.inr rfl))
def Zpl (r:Int):PV→List Blk→Prop:=fun p K=>p=(i64 r)∧K=[]
theorem Zpm (a:Int) (r:Int) (hF:Zg8 a=some r):ACall Tryz.prog glob 170 [(u64 a)] [] (Zpl r):=by
 refine ACall.body Tryz.func170 rfl (by kernel_rfl) ?_
 unfold Zg8 at hF
 refine AWP.seq (AWP.rg0 [] [(0,(u64 a)),(2,(i64 (0:Int)))] ?_)
 obtain⟨j,k,hF⟩:=bindb hF
 refine AWP.seq ?_
 refine AWP.mid (fun e st H=>(e=.normal∧∃ b,∃ d,j=(b,d)∧st=[(0,(u64 b)),(2,(i64 d))]∧H=[])) ?_ ?_
 ·clear hF
  have hF:=k
  refine AWP.seq (AWP.rg0 [] [(0,(u64 a)),(2,(i64 (0:Int))),(4,(vb (decide (a ≥ (4294967296:Int)))))] ?_)
  refine AWP.cif hF (fun l hF=>?_) (fun l hF=>?_)
  ·refine AWP.seq (AWP.rg0 [] [(0,(u64 (bShr .u64 a (32:Int))))] (AWP.rg0 [] [(0,(u64 (bShr .u64 a (32:Int)))),(2,(i64 (32:Int)))] (LeQ.start (LeQ.pk [0,2] 0 ?_))))
   exact⟨rfl,(bShr .u64 a (32:Int)),(32:Int),(someb hF).symm,by kernel_rfl,by kernel_rfl⟩
  ·refine AWP.skip (LeQ.start (LeQ.pk [0,2] 0 ?_))
   exact⟨rfl,a,(0:Int),(someb hF).symm,by kernel_rfl,by kernel_rfl⟩
 ·rintro _ _ _ ⟨rfl,b,d,rfl,rfl,rfl⟩
  obtain⟨m,n,hF⟩:=bindb hF
  refine AWP.seq ?_
  refine AWP.mid (fun e st H=>(e=.normal∧∃ c,∃ f,m=(c,f)∧st=[(0,(u64 c)),(2,(i64 f))]∧H=[])) ?_ ?_
  ·clear hF
   have hF:=n
   refine AWP.seq (AWP.rg0 [] [(0,(u64 b)),(2,(i64 d)),(8,(vb (decide (b ≥ (65536:Int)))))] ?_)
   refine AWP.cif hF (fun o hF=>?_) (fun o hF=>?_)
   ·refine AWP.seq (AWP.rg0 [] [(0,(u64 (bShr .u64 b (16:Int)))),(2,(i64 d))] (AWP.rg0 [] [(0,(u64 (bShr .u64 b (16:Int)))),(2,(i64 (ZI (d + (16:Int)))))] (LeQ.start (LeQ.pk [0,2] 0 ?_))))
    exact⟨rfl,(bShr .u64 b (16:Int)),(ZI (d + (16:Int))),(someb hF).symm,by kernel_rfl,by kernel_rfl⟩
   ·refine AWP.skip (LeQ.start (LeQ.pk [0,2] 0 ?_))
    exact⟨rfl,b,d,(someb hF).symm,by kernel_rfl,by kernel_rfl⟩
  ·rintro _ _ _ ⟨rfl,c,f,rfl,rfl,rfl⟩
   obtain⟨p,q,hF⟩:=bindb hF
   refine AWP.seq ?_
   refine AWP.mid (fun e st H=>(e=.normal∧∃ i,∃ g,p=(i,g)∧st=[(0,(u64 i)),(2,(i64 g))]∧H=[])) ?_ ?_
   ·clear hF
    have hF:=q
    refine AWP.seq (AWP.rg0 [] [(0,(u64 c)),(2,(i64 f)),(14,(vb (decide (c ≥ (256:Int)))))] ?_)
    refine AWP.cif hF (fun s hF=>?_) (fun s hF=>?_)
    ·refine AWP.seq (AWP.rg0 [] [(0,(u64 (bShr .u64 c (8:Int)))),(2,(i64 f))] (AWP.rg0 [] [(0,(u64 (bShr .u64 c (8:Int)))),(2,(i64 (ZI (f + (8:Int)))))] (LeQ.start (LeQ.pk [0,2] 0 ?_))))
     exact⟨rfl,(bShr .u64 c (8:Int)),(ZI (f + (8:Int))),(someb hF).symm,by kernel_rfl,by kernel_rfl⟩
    ·refine AWP.skip (LeQ.start (LeQ.pk [0,2] 0 ?_))
     exact⟨rfl,c,f,(someb hF).symm,by kernel_rfl,by kernel_rfl⟩
   ·rintro _ _ _ ⟨rfl,i,g,rfl,rfl,rfl⟩
    refine AWP.seq ?_
    obtain⟨t,u,hF⟩:=bindb hF
    refine AWP.rg0 [(3,.str u)] [(2,(i64 (ZI (g + (ZI t)))))] (AWP.ret ?_)
    have hr:=someb hF
    subst hr
    exact(FnQ.f0 0 (.inr rfl))
def Zrv (r:Int):PV→List Blk→Prop:=fun p K=>p=(i64 r)∧K=[]
theorem Zln (a:Int) (r:Int) (hF:Zfy a=some r):ACall Tryz.prog glob 158 [(u64 a)] [] (Zrv r):=by
 refine ACall.body Tryz.func158 rfl (by kernel_rfl) ?_
 unfold Zfy at hF
 refine AWP.seq (AWP.rg0 [] [(0,(u64 a))] (AWP.seq ?_))
 refine AWP.cF ?_
 refine AWP.skip (AWP.seq ?_)
 obtain⟨b,c,hF⟩:=bindb hF
 refine AWP.rg0 [(1,.call Tryz.func170 [] (Zpm a b c))] [(2,(i64 b))] (AWP.ret ?_)
 have hr:=someb hF
 subst hr
 exact(FnQ.f0 0 (.inr rfl))
def Zoj (r:Bool):PV→List Blk→Prop:=fun p K=>p=(vb r)∧K=[]
theorem Zfr (a:Int) (r:Bool) (hF:Zfo a=some r):ACall Tryz.prog glob 176 [(u64 a)] [] (Zoj r):=by
 refine ACall.body Tryz.func176 rfl (by kernel_rfl) ?_
 unfold Zfo at hF
 refine AWP.seq (AWP.rg0 [] [(0,(u64 a))] (AWP.seq (AWP.rg0 [] [(2,(vb (a != a)))] (AWP.ret ?_))))
 have hr:=someb hF
 subst hr
 exact(FnQ.f0 0 (.inr rfl))
def Zpn (r:Bool):PV→List Blk→Prop:=fun p K=>p=(vb r)∧K=[]
theorem Za8 (a:Int) (b:Int) (r:Bool) (hF:Zab a b=some r):ACall Tryz.prog glob 166 [(u64 a),(u64 b)] [] (Zpn r):=by
 refine ACall.body Tryz.func166 rfl (by kernel_rfl) ?_
 unfold Zab at hF
 refine AWP.seq (AWP.rg0 [] [(0,(u64 a)),(1,(u64 b))] (AWP.seq ?_))
 obtain⟨g,i,hF⟩:=bindb hF
 obtain⟨n,c,hF⟩:=bindb hF
 replace c:=someb c
 obtain⟨p,j,hF⟩:=bindb hF
 obtain⟨k,d,hF⟩:=bindb hF
 replace d:=someb d
 refine AWP.to [(4,(vb (k || (decide (a<b)))))] [] ?_ ?_
 ·cases n with
  | false=>
   have o:=someb (ifF j rfl)
   subst o
   subst d
   exact AWP.rgT [(1,.call Tryz.func176 [] (Zfr a g i)),(2,.bool c)]
  | true=>
   have f:=ifT j rfl
   obtain⟨l,m,f⟩:=bindb f
   replace f:=someb f
   subst f
   cases k with
   | false=>
    exact AWP.rgT [(1,.call Tryz.func176 [] (Zfr a g i)),(2,.bool c),(4,.call Tryz.func176 [] (Zfr b l m)),(7,.bool d)]
   | true=>
    exact AWP.rgT [(1,.call Tryz.func176 [] (Zfr a g i)),(2,.bool c),(4,.call Tryz.func176 [] (Zfr b l m)),(7,.bool d)]
 refine AWP.ret ?_
 have hr:=someb hF
 subst hr
 exact(FnQ.f0 0 (.inr rfl))
def Zhx (a:List Value) (r:(List Int)):PV→List Blk→Prop:=fun p K=>p=(.tup [])∧K=[.cells (cel Zc r a)]
theorem Zhy (d:Nat) (m:(List Int)) (f:List Value) (b:Int) (g:Int) (r:(List Int)) (hF:Zbz d m b g=some r):ACall Tryz.prog glob 160 [(.vw 0 0 d),(i64 b),(i64 g)] [.cells (cel Zc m f)] (Zhx f r):=by
 refine ACall.body Tryz.func160 rfl (by kernel_rfl) ?_
 unfold Zbz at hF
 refine AWP.seq (AWP.rg0 [] [(0,(.vw 0 0 d)),(1,(i64 b)),(2,(i64 g)),(6,(i64 (ZI (b + (1:Int)))))] ?_)
 obtain⟨v,a3,hF⟩:=bindb hF
 refine AWP.mid (fun e st H=>e=.normal∧st=[]∧H=[.cells (cel Zc v f)]) ?_ ?_
 ·clear hF
  refine AWP.kp [0,1,2,6] 1 ?_
  refine AWP.bround (fun n st H=>∃ k,∃ c,Zak d b g n k c=some v∧st=[(0,(.vw 0 0 d)),(1,(i64 b)),(2,(i64 g)),(6,(i64 c))]∧H=[.cells (cel Zc k f)]) fuel ⟨m,(ZI (b + (1:Int))),a3,by kernel_rfl,by kernel_rfl⟩ ?_
  rintro o st H ⟨k,c,hF,rfl,rfl⟩
  cases o with
  | zero=>exact noneb hF
  | succ o=>
   rw [Zak] at hF
   refine AWP.seq (AWP.seq (AWP.rg0 [] [(0,(.vw 0 0 d)),(1,(i64 b)),(2,(i64 g)),(6,(i64 c)),(12,(vb (decide (c<g))))] ?_))
   refine AWP.cif hF (fun a4 hF=>?_) (fun a4 hF=>?_)
   ·refine AWP.skip (AWP.seq (AWP.block (AWP.seq (AWP.rg0 [] [(0,(.vw 0 0 d)),(1,(i64 b)),(2,(i64 g)),(6,(i64 c)),(7,(i64 c))] ?_))))
    obtain⟨p,a5,hF⟩:=bindb hF
    refine AWP.mid (fun e st H=>e=.normal∧st=[(0,(.vw 0 0 d)),(1,(i64 b)),(2,(i64 g)),(6,(i64 c))]∧H=[.cells (cel Zc p f)]) ?_ ?_
    ·clear hF
     refine AWP.kp [0,1,2,6,7] 1 ?_
     refine AWP.bround (fun n st H=>∃ j,∃ a,Zaj d b n j a=some p∧st=[(0,(.vw 0 0 d)),(1,(i64 b)),(2,(i64 g)),(6,(i64 c)),(7,(i64 a))]∧H=[.cells (cel Zc j f)]) fuel ⟨k,c,a5,by kernel_rfl,by kernel_rfl⟩ ?_
     rintro q st H ⟨j,a,hF,rfl,rfl⟩
     cases q with
     | zero=>exact noneb hF
     | succ q=>
      rw [Zaj] at hF
      refine AWP.seq (AWP.seq ?_)
      obtain⟨a6,l,hF⟩:=bindb hF
      replace l:=someb l
      obtain⟨a7,w,hF⟩:=bindb hF
      refine AWP.to [(0,(.vw 0 0 d)),(1,(i64 b)),(2,(i64 g)),(6,(i64 c)),(7,(i64 a)),(30,(vb a7))] [.cells (cel Zc j f)] ?_ ?_
      ·cases a6 with
       | false=>
        have a8:=someb (ifF w rfl)
        subst a8
        exact AWP.drT [(3,.bool l)] 15 [] [] []
       | true=>
        have i:=ifT w rfl
        obtain⟨a9,x,i⟩:=bindb i
        obtain⟨b0,y,i⟩:=bindb i
        obtain⟨b1,b2,i⟩:=bindb i
        replace i:=someb i
        subst i
        exact AWP.drT [(3,.bool l),(6,.idxV (Zs x)),(7,.ldV Zc (s:=1) (fun _=>rfl) f (Zr x) (0 + Int.toNat a * 1) (Nat.zero_add _) []),(11,.idxV (Zs y)),(12,.ldV Zc (s:=1) (fun _=>rfl) f (Zr y) (0 + Int.toNat (ZI (a - (1:Int))) * 1) (Nat.zero_add _) []),(13,.call Tryz.func166 [] (Za8 a9 b0 b1 b2))] 15 [] [] []
      refine AWP.cif hF (fun b3 hF=>?_) (fun b3 hF=>?_)
      ·refine AWP.skip (AWP.seq (AWP.block ?_))
       obtain⟨t,z,hF⟩:=bindb hF
       obtain⟨u,a0,hF⟩:=bindb hF
       obtain⟨b4,a1,hF⟩:=bindb hF
       obtain⟨b5,a2,hF⟩:=bindb hF
       refine AWP.dr [(8,.idxV (Zs z)),(9,.ldV Zc (s:=1) (fun _=>rfl) f (Zr z) (0 + Int.toNat (ZI (a - (1:Int))) * 1) (Nat.zero_add _) []),(12,.idxV (Zs a0)),(13,.ldV Zc (s:=1) (fun _=>rfl) f (Zr a0) (0 + Int.toNat a * 1) (Nat.zero_add _) []),(14,.idxV (Zs a1)),(15,.stV Zc (s:=1) (fun _=>rfl) f (Zr a1) t (0 + Int.toNat a * 1) (Nat.zero_add _) []),(16,.idxV (Zs a2)),(17,.stV Zc (s:=1) (fun _=>rfl) f (Zr a2) u (0 + Int.toNat (ZI (a - (1:Int))) * 1) (Nat.zero_add _) [])] 16 [] [15] [] [(0,(.vw 0 0 d)),(1,(i64 b)),(2,(i64 g)),(6,(i64 c)),(7,(i64 a))] [.cells (cel Zc (List.set (List.set j (Int.toNat a) t) (Int.toNat (ZI (a - (1:Int)))) u) f)] (AWP.rg0 [] [(0,(.vw 0 0 d)),(1,(i64 b)),(2,(i64 g)),(6,(i64 c)),(7,(i64 (ZI (a - (1:Int)))))] (LeQ.start (LeQ.pk [0,1,2,6,7] 1 ?_)))
       exact⟨q,Nat.lt_succ_self _,(List.set (List.set j (Int.toNat a) t) (Int.toNat (ZI (a - (1:Int)))) u),(ZI (a - (1:Int))),hF,by kernel_rfl,by kernel_rfl⟩
      ·refine AWP.exit (LeQ.start (LeQ.pk [0,1,2,6] 1 ?_))
       have hr:=someb hF
       subst hr
       exact⟨rfl,by kernel_rfl,by kernel_rfl⟩
    ·rintro _ _ _ ⟨rfl,rfl,rfl⟩
     refine AWP.rg0 [] [(0,(.vw 0 0 d)),(1,(i64 b)),(2,(i64 g)),(6,(i64 (ZI (c + (1:Int)))))] (LeQ.start (LeQ.pk [0,1,2,6] 1 ?_))
     exact⟨o,Nat.lt_succ_self _,p,(ZI (c + (1:Int))),hF,by kernel_rfl,by kernel_rfl⟩
   ·refine AWP.exit (LeQ.start (LeQ.pk [] 1 ?_))
    have hr:=someb hF
    subst hr
    exact⟨rfl,by kernel_rfl,by kernel_rfl⟩
 ·rintro _ _ _ ⟨rfl,rfl,rfl⟩
  have hr:=someb hF
  subst hr
  exact(FnQ.f0 1 (.inl rfl))
def Zgo (a:List Value) (r:(List Int)):PV→List Blk→Prop:=fun p K=>p=(.tup [])∧K=[.cells (cel Zc r a)]
abbrev Zi2 (a:List Value) (r:(List Int)):Exit→St→List Blk→Prop:=FnQ Tryz.prog Tryz.f171.results 1 (Zgo a r)
theorem Zgp (f:Nat) (m:(List Int)) (c:List Value) (k:Int) (d:Int) (a:Int) (r:(List Int)) (hF:Zby f m k d a=some r):ACall Tryz.prog glob 171 [(.vw 0 0 f),(i64 k),(i64 d),(i64 a)] [.cells (cel Zc m c)] (Zgo c r):=by
 refine ACall.body Tryz.func171 rfl (by kernel_rfl) ?_
 unfold Zby at hF
 refine AWP.seq (AWP.rg0 [] [(0,(.vw 0 0 f)),(2,(i64 d)),(3,(i64 a)),(8,(i64 k))] ?_)
 obtain⟨o,a5,hF⟩:=bindb hF
 refine AWP.mid (fun e st H=>(e=.normal∧∃ p,o=(.inl p)∧st=[]∧H=[.cells (cel Zc p c)])∨(e=.ret∧∃ r,o=(.inr r)∧Zi2 c r e st H)) ?_ ?_
 ·clear hF
  refine AWP.kp [0,2,3,8] 1 ?_
  refine AWP.bround (fun n st H=>∃ g,∃ b,Zae f d a n g b=some o∧st=[(0,(.vw 0 0 f)),(2,(i64 d)),(3,(i64 a)),(8,(i64 b))]∧H=[.cells (cel Zc g c)]) fuel ⟨m,k,a5,by kernel_rfl,by kernel_rfl⟩ ?_
  rintro q st H ⟨g,b,hF,rfl,rfl⟩
  cases q with
  | zero=>exact noneb hF
  | succ q=>
   rw [Zae] at hF
   refine AWP.block (AWP.seq (AWP.rg0 [] [(0,(.vw 0 0 f)),(2,(i64 d)),(3,(i64 a)),(8,(i64 b)),(9,(i64 (ZI ((ZI ((2:Int) * b)) + (1:Int)))))] (AWP.seq (AWP.seq (AWP.rg0 [] [(0,(.vw 0 0 f)),(2,(i64 d)),(3,(i64 a)),(8,(i64 b)),(9,(i64 (ZI ((ZI ((2:Int) * b)) + (1:Int))))),(16,(vb (decide ((ZI ((ZI ((2:Int) * b)) + (1:Int))) ≥ d))))] ?_)))))
   refine AWP.cif hF (fun a6 hF=>?_) (fun a6 hF=>?_)
   ·refine AWP.exit (LeQ.start (LeQ.pk [] 1 ?_))
    exact(.inl ⟨rfl,g,(someb hF).symm,by kernel_rfl,by kernel_rfl⟩)
   ·refine AWP.skip ?_
    obtain⟨i,a7,hF⟩:=bindb hF
    refine AWP.seq ?_
    refine AWP.mid (fun e st H=>e=.normal∧st=[(0,(.vw 0 0 f)),(2,(i64 d)),(3,(i64 a)),(8,(i64 b)),(9,(i64 i))]∧H=[.cells (cel Zc g c)]) ?_ ?_
    ·clear hF
     have hF:=a7
     refine AWP.seq ?_
     obtain⟨a8,l,hF⟩:=bindb hF
     replace l:=someb l
     obtain⟨a9,v,hF⟩:=bindb hF
     refine AWP.to [(0,(.vw 0 0 f)),(2,(i64 d)),(3,(i64 a)),(8,(i64 b)),(9,(i64 (ZI ((ZI ((2:Int) * b)) + (1:Int))))),(36,(vb a9))] [.cells (cel Zc g c)] ?_ ?_
     ·cases a8 with
      | false=>
       have b0:=someb (ifF v rfl)
       subst b0
       exact AWP.drT [(4,.bool l)] 20 [] [] []
      | true=>
       have j:=ifT v rfl
       obtain⟨b1,w,j⟩:=bindb j
       obtain⟨b2,x,j⟩:=bindb j
       obtain⟨b3,b4,j⟩:=bindb j
       replace j:=someb j
       subst j
       exact AWP.drT [(4,.bool l),(9,.idxV (Zs w)),(10,.ldV Zc (s:=1) (fun _=>rfl) c (Zr w) (0 + Int.toNat (ZI (a + (ZI ((ZI ((2:Int) * b)) + (1:Int))))) * 1) (Nat.zero_add _) []),(16,.idxV (Zs x)),(17,.ldV Zc (s:=1) (fun _=>rfl) c (Zr x) (0 + Int.toNat (ZI ((ZI (a + (ZI ((ZI ((2:Int) * b)) + (1:Int))))) + (1:Int))) * 1) (Nat.zero_add _) []),(18,.call Tryz.func166 [] (Za8 b1 b2 b3 b4))] 20 [] [] []
     refine AWP.cif hF (fun b5 hF=>?_) (fun b5 hF=>?_)
     ·refine AWP.rg0 [] [(0,(.vw 0 0 f)),(2,(i64 d)),(3,(i64 a)),(8,(i64 b)),(9,(i64 (ZI ((ZI ((ZI ((2:Int) * b)) + (1:Int))) + (1:Int)))))] (LeQ.start (LeQ.pk [0,2,3,8,9] 1 ?_))
      have hr:=someb hF
      subst hr
      exact⟨rfl,by kernel_rfl,by kernel_rfl⟩
     ·refine AWP.skip (LeQ.start (LeQ.pk [0,2,3,8,9] 1 ?_))
      have hr:=someb hF
      subst hr
      exact⟨rfl,by kernel_rfl,by kernel_rfl⟩
    ·rintro _ _ _ ⟨rfl,rfl,rfl⟩
     refine AWP.seq (AWP.seq ?_)
     obtain⟨b6,y,hF⟩:=bindb hF
     obtain⟨b7,z,hF⟩:=bindb hF
     obtain⟨a0,b8,hF⟩:=bindb hF
     refine AWP.dr [(4,.idxV (Zs y)),(5,.ldV Zc (s:=1) (fun _=>rfl) c (Zr y) (0 + Int.toNat (ZI (a + b)) * 1) (Nat.zero_add _) []),(10,.idxV (Zs z)),(11,.ldV Zc (s:=1) (fun _=>rfl) c (Zr z) (0 + Int.toNat (ZI (a + i)) * 1) (Nat.zero_add _) []),(12,.call Tryz.func166 [] (Za8 b6 b7 a0 b8))] 14 [] [] [] [(0,(.vw 0 0 f)),(2,(i64 d)),(3,(i64 a)),(8,(i64 b)),(9,(i64 i)),(52,(vb (!a0)))] [.cells (cel Zc g c)] ?_
     refine AWP.cif hF (fun b9 hF=>?_) (fun b9 hF=>?_)
     ·refine AWP.ret ?_
      exact LeQ.of (.inr ⟨rfl,g,(someb hF).symm,(FnQ.f0 1 (.inr rfl))⟩)
     ·refine AWP.skip (AWP.seq ?_)
      obtain⟨t,a1,hF⟩:=bindb hF
      obtain⟨u,a2,hF⟩:=bindb hF
      obtain⟨c0,a3,hF⟩:=bindb hF
      obtain⟨c1,a4,hF⟩:=bindb hF
      refine AWP.dr [(12,.idxV (Zs a1)),(13,.ldV Zc (s:=1) (fun _=>rfl) c (Zr a1) (0 + Int.toNat (ZI (a + i)) * 1) (Nat.zero_add _) []),(18,.idxV (Zs a2)),(19,.ldV Zc (s:=1) (fun _=>rfl) c (Zr a2) (0 + Int.toNat (ZI (a + b)) * 1) (Nat.zero_add _) []),(20,.idxV (Zs a3)),(21,.stV Zc (s:=1) (fun _=>rfl) c (Zr a3) t (0 + Int.toNat (ZI (a + b)) * 1) (Nat.zero_add _) []),(22,.idxV (Zs a4)),(23,.stV Zc (s:=1) (fun _=>rfl) c (Zr a4) u (0 + Int.toNat (ZI (a + i)) * 1) (Nat.zero_add _) [])] 22 [] [21] [] [(0,(.vw 0 0 f)),(2,(i64 d)),(3,(i64 a)),(9,(i64 i))] [.cells (cel Zc (List.set (List.set g (Int.toNat (ZI (a + b))) t) (Int.toNat (ZI (a + i))) u) c)] (AWP.rg0 [] [(0,(.vw 0 0 f)),(2,(i64 d)),(3,(i64 a)),(8,(i64 i))] (LeQ.start (LeQ.pk [0,2,3,8] 1 ?_)))
      exact⟨q,Nat.lt_succ_self _,(List.set (List.set g (Int.toNat (ZI (a + b))) t) (Int.toNat (ZI (a + i))) u),i,hF,by kernel_rfl,by kernel_rfl⟩
 ·rintro _ _ _ (⟨rfl,p,rfl,rfl,rfl⟩ | ⟨rfl,c2,rfl,hq⟩)
  ·have hr:=someb hF
   subst hr
   exact(FnQ.f0 1 (.inl rfl))
  ·have hr:=someb hF
   subst hr
   exact hq
def Zi3 (a:List Value) (r:(List Int)):PV→List Blk→Prop:=fun p K=>p=(.tup [])∧K=[.cells (cel Zc r a)]
theorem Zi4 (b:Nat) (q:(List Int)) (d:List Value) (a:Int) (f:Int) (r:(List Int)) (hF:Zck b q a f=some r):ACall Tryz.prog glob 161 [(.vw 0 0 b),(i64 a),(i64 f)] [.cells (cel Zc q d)] (Zi3 d r):=by
 refine ACall.body Tryz.func161 rfl (by kernel_rfl) ?_
 unfold Zck at hF
 refine AWP.seq (AWP.rg0 [] [(0,(.vw 0 0 b)),(1,(i64 a)),(2,(i64 f)),(6,(i64 a))] (AWP.seq (AWP.rg0 [] [(0,(.vw 0 0 b)),(1,(i64 a)),(2,(i64 f)),(6,(i64 a)),(7,(i64 (0:Int)))] (AWP.seq (AWP.rg0 [] [(0,(.vw 0 0 b)),(6,(i64 a)),(7,(i64 (0:Int))),(8,(i64 (ZI (f - a))))] (AWP.seq ?_))))))
 refine AWP.seq (AWP.rg0 [] [(0,(.vw 0 0 b)),(6,(i64 a)),(7,(i64 (0:Int))),(8,(i64 (ZI (f - a)))),(9,(i64 (ZI (Int.tdiv (ZI ((ZI (f - a)) - (1:Int))) (2:Int)))))] ?_)
 obtain⟨t,a1,hF⟩:=bindb hF
 refine AWP.mid (fun e st H=>e=.normal∧st=[(0,(.vw 0 0 b)),(6,(i64 a)),(7,(i64 (0:Int))),(8,(i64 (ZI (f - a))))]∧H=[.cells (cel Zc t d)]) ?_ ?_
 ·clear hF
  refine AWP.kp [0,6,7,8,9] 1 ?_
  refine AWP.bround (fun n st H=>∃ k,∃ i,Zax b a f n k i=some t∧st=[(0,(.vw 0 0 b)),(6,(i64 a)),(7,(i64 (0:Int))),(8,(i64 (ZI (f - a)))),(9,(i64 i))]∧H=[.cells (cel Zc k d)]) fuel ⟨q,(ZI (Int.tdiv (ZI ((ZI (f - a)) - (1:Int))) (2:Int))),a1,by kernel_rfl,by kernel_rfl⟩ ?_
  rintro u st H ⟨k,i,hF,rfl,rfl⟩
  cases u with
  | zero=>exact noneb hF
  | succ u=>
   rw [Zax] at hF
   refine AWP.seq (AWP.seq (AWP.rg0 [] [(0,(.vw 0 0 b)),(6,(i64 a)),(7,(i64 (0:Int))),(8,(i64 (ZI (f - a)))),(9,(i64 i)),(19,(vb (decide (i ≥ (0:Int)))))] ?_))
   refine AWP.cif hF (fun a2 hF=>?_) (fun a2 hF=>?_)
   ·refine AWP.skip (AWP.seq (AWP.block ?_))
    obtain⟨l,a3,hF⟩:=bindb hF
    refine AWP.rg [(4,.callC Tryz.func171 [] (closedH.c (Zx (row:=Zc) (fun _=>rfl) k d) closedH.n) (closedH.c (Zx (row:=Zc) (fun _=>rfl) l d) closedH.n) (Zgp b k d i (ZI (f - a)) a l a3))] [(0,(.vw 0 0 b)),(6,(i64 a)),(7,(i64 (0:Int))),(8,(i64 (ZI (f - a)))),(9,(i64 i))] [.cells (cel Zc l d)] (AWP.rg0 [] [(0,(.vw 0 0 b)),(6,(i64 a)),(7,(i64 (0:Int))),(8,(i64 (ZI (f - a)))),(9,(i64 (ZI (i - (1:Int)))))] (LeQ.start (LeQ.pk [0,6,7,8,9] 1 ?_)))
    exact⟨u,Nat.lt_succ_self _,l,(ZI (i - (1:Int))),hF,by kernel_rfl,by kernel_rfl⟩
   ·refine AWP.exit (LeQ.start (LeQ.pk [0,6,7,8] 1 ?_))
    have hr:=someb hF
    subst hr
    exact⟨rfl,by kernel_rfl,by kernel_rfl⟩
 ·rintro _ _ _ ⟨rfl,rfl,rfl⟩
  refine AWP.seq (AWP.rg0 [] [(0,(.vw 0 0 b)),(6,(i64 a)),(7,(i64 (0:Int))),(10,(i64 (ZI ((ZI (f - a)) - (1:Int)))))] ?_)
  obtain⟨w,a4,hF⟩:=bindb hF
  refine AWP.mid (fun e st H=>e=.normal∧st=[]∧H=[.cells (cel Zc w d)]) ?_ ?_
  ·clear hF
   refine AWP.kp [0,6,7,10] 1 ?_
   refine AWP.bround (fun n st H=>∃ j,∃ g,Zay b a n j g=some w∧st=[(0,(.vw 0 0 b)),(6,(i64 a)),(7,(i64 (0:Int))),(10,(i64 g))]∧H=[.cells (cel Zc j d)]) fuel ⟨t,(ZI ((ZI (f - a)) - (1:Int))),a4,by kernel_rfl,by kernel_rfl⟩ ?_
   rintro v st H ⟨j,g,hF,rfl,rfl⟩
   cases v with
   | zero=>exact noneb hF
   | succ v=>
    rw [Zay] at hF
    refine AWP.seq (AWP.seq (AWP.rg0 [] [(0,(.vw 0 0 b)),(6,(i64 a)),(7,(i64 (0:Int))),(10,(i64 g)),(30,(vb (decide (g ≥ (0:Int)))))] ?_))
    refine AWP.cif hF (fun a5 hF=>?_) (fun a5 hF=>?_)
    ·refine AWP.skip (AWP.seq (AWP.block (AWP.seq ?_)))
     obtain⟨m,x,hF⟩:=bindb hF
     obtain⟨o,y,hF⟩:=bindb hF
     obtain⟨a7,z,hF⟩:=bindb hF
     obtain⟨a8,a0,hF⟩:=bindb hF
     refine AWP.dr [(10,.idxV (Zs x)),(11,.ldV Zc (s:=1) (fun _=>rfl) d (Zr x) (0 + Int.toNat (ZI (a + g)) * 1) (Nat.zero_add _) []),(14,.idxV (Zs y)),(15,.ldV Zc (s:=1) (fun _=>rfl) d (Zr y) (0 + Int.toNat a * 1) (Nat.zero_add _) []),(16,.idxV (Zs z)),(17,.stV Zc (s:=1) (fun _=>rfl) d (Zr z) m (0 + Int.toNat a * 1) (Nat.zero_add _) []),(18,.idxV (Zs a0)),(19,.stV Zc (s:=1) (fun _=>rfl) d (Zr a0) o (0 + Int.toNat (ZI (a + g)) * 1) (Nat.zero_add _) [])] 18 [] [17] [] [(0,(.vw 0 0 b)),(6,(i64 a)),(7,(i64 (0:Int))),(10,(i64 g))] [.cells (cel Zc (List.set (List.set j (Int.toNat a) m) (Int.toNat (ZI (a + g))) o) d)] ?_
     obtain⟨p,a6,hF⟩:=bindb hF
     refine AWP.rg [(4,.callC Tryz.func171 [] (closedH.c (Zx (row:=Zc) (fun _=>rfl) (List.set (List.set j (Int.toNat a) m) (Int.toNat (ZI (a + g))) o) d) closedH.n) (closedH.c (Zx (row:=Zc) (fun _=>rfl) p d) closedH.n) (Zgp b (List.set (List.set j (Int.toNat a) m) (Int.toNat (ZI (a + g))) o) d (0:Int) g a p a6))] [(0,(.vw 0 0 b)),(6,(i64 a)),(7,(i64 (0:Int))),(10,(i64 g))] [.cells (cel Zc p d)] (AWP.rg0 [] [(0,(.vw 0 0 b)),(6,(i64 a)),(7,(i64 (0:Int))),(10,(i64 (ZI (g - (1:Int)))))] (LeQ.start (LeQ.pk [0,6,7,10] 1 ?_)))
     exact⟨v,Nat.lt_succ_self _,p,(ZI (g - (1:Int))),hF,by kernel_rfl,by kernel_rfl⟩
    ·refine AWP.exit (LeQ.start (LeQ.pk [] 1 ?_))
     have hr:=someb hF
     subst hr
     exact⟨rfl,by kernel_rfl,by kernel_rfl⟩
  ·rintro _ _ _ ⟨rfl,rfl,rfl⟩
   have hr:=someb hF
   subst hr
   exact(FnQ.f0 1 (.inl rfl))
def Zld (r:Int):PV→List Blk→Prop:=fun p K=>p=(u64 r)∧K=[]
theorem Zle (a:Int) (r:Int) (hF:Zfa a=some r):ACall Tryz.prog glob 172 [(i64 a)] [] (Zld r):=by
 refine ACall.body Tryz.func172 rfl (by kernel_rfl) ?_
 unfold Zfa at hF
 refine AWP.seq (AWP.rg0 [] [(0,(i64 a))] (AWP.seq ?_))
 obtain⟨b,c,hF⟩:=bindb hF
 obtain⟨d,hF⟩:=chkb hF
 refine AWP.rg0 [(2,.call Tryz.func158 [] (Zln (IntKind.wrap .u64 a) b c)),(3,.sh d)] [(2,(u64 (bShl .u64 (1:Int) b)))] (AWP.ret ?_)
 have hr:=someb hF
 subst hr
 exact(FnQ.f0 0 (.inr rfl))
def Zl0 (r:(Int × Int)):PV→List Blk→Prop:=fun p K=>p=(u64 r.1)∧K=[.cells (Zc r.2)]
theorem Zl1 (a:Int) (r:(Int × Int)) (hF:Zed a=some r):ACall Tryz.prog glob 173 [(.ptr 0 0)] [.cells (Zc a)] (Zl0 r):=by
 refine ACall.body Tryz.func173 rfl (by kernel_rfl) ?_
 unfold Zed at hF
 refine AWP.seq (AWP.rg0 [] [(0,(.ptr 0 0))] (AWP.seq (AWP.dr [] 8 [] [] [] [(0,(.ptr 0 0))] [.cells (Zc (bXor .u64 a (bShl .u64 a (13:Int))))] (AWP.seq (AWP.dr [] 8 [] [] [] [(0,(.ptr 0 0))] [.cells (Zc (bXor .u64 (bXor .u64 a (bShl .u64 a (13:Int))) (bShr .u64 (bXor .u64 a (bShl .u64 a (13:Int))) (7:Int))))] (AWP.seq ?_))))))
 refine AWP.dr [] 8 [] [] [] [(0,(.ptr 0 0))] [.cells (Zc (bXor .u64 (bXor .u64 (bXor .u64 a (bShl .u64 a (13:Int))) (bShr .u64 (bXor .u64 a (bShl .u64 a (13:Int))) (7:Int))) (bShl .u64 (bXor .u64 (bXor .u64 a (bShl .u64 a (13:Int))) (bShr .u64 (bXor .u64 a (bShl .u64 a (13:Int))) (7:Int))) (17:Int))))] (AWP.seq (AWP.rg0 [] [(2,(u64 (bXor .u64 (bXor .u64 (bXor .u64 a (bShl .u64 a (13:Int))) (bShr .u64 (bXor .u64 a (bShl .u64 a (13:Int))) (7:Int))) (bShl .u64 (bXor .u64 (bXor .u64 a (bShl .u64 a (13:Int))) (bShr .u64 (bXor .u64 a (bShl .u64 a (13:Int))) (7:Int))) (17:Int)))))] (AWP.ret ?_)))
 have hr:=someb hF
 subst hr
 exact(FnQ.f0 1 (.inr rfl))
def Zhz (a:List Value) (r:(List Int)):PV→List Blk→Prop:=fun p K=>p=(.tup [])∧K=[.cells (cel Zc r a)]
theorem Zh0 (c:Nat) (m:(List Int)) (g:List Value) (a:Int) (b:Int) (r:(List Int)) (hF:Za9 c m a b=some r):ACall Tryz.prog glob 162 [(.vw 0 0 c),(i64 a),(i64 b)] [.cells (cel Zc m g)] (Zhz g r):=by
 refine ACall.body Tryz.func162 rfl (by kernel_rfl) ?_
 unfold Za9 at hF
 refine AWP.seq (AWP.rg0 [] [(0,(.vw 0 0 c)),(1,(i64 a)),(6,(i64 (ZI (b - a))))] (AWP.seq (AWP.rg0 [] [(0,(.vw 0 0 c)),(1,(i64 a)),(6,(i64 (ZI (b - a)))),(15,(vb (decide ((ZI (b - a)) ≥ (8:Int)))))] ?_)))
 refine AWP.cif hF (fun a2 hF=>?_) (fun a2 hF=>?_)
 ·refine AWP.seq (AWP.rg [] [(0,(.vw 0 0 c)),(1,(i64 a)),(6,(i64 (ZI (b - a)))),(7,(.ptr 1 0))] [.cells (cel Zc m g),.cells (Zc (IntKind.wrap .u64 (ZI (b - a))))] (AWP.seq ?_))
  obtain⟨d,a3,hF⟩:=bindb hF
  refine AWP.rg0 [(1,.call Tryz.func172 [] (Zle (ZI (b - a)) d a3))] [(0,(.vw 0 0 c)),(1,(i64 a)),(6,(i64 (ZI (b - a)))),(7,(.ptr 1 0)),(8,(u64 d))] (AWP.seq (AWP.rg0 [] [(0,(.vw 0 0 c)),(1,(i64 a)),(6,(i64 (ZI (b - a)))),(7,(.ptr 1 0)),(8,(u64 d)),(9,(i64 (ZI ((ZI (a + (ZI ((ZI (Int.tdiv (ZI (b - a)) (4:Int))) * (2:Int))))) - (1:Int)))))] ?_))
  obtain⟨x,a4,hF⟩:=bindb hF
  refine AWP.mid (fun e st H=>(e=.normal∧∃ q,∃ t,x=(q,t)∧st=[]∧H=[.cells (cel Zc q g),.cells (Zc t)])) ?_ ?_
  ·clear hF
   refine AWP.kp [0,1,6,7,8,9] 2 ?_
   refine AWP.bround (fun n st H=>∃ j,∃ k,∃ f,Zw c a b d n j k f=some x∧st=[(0,(.vw 0 0 c)),(1,(i64 a)),(6,(i64 (ZI (b - a)))),(7,(.ptr 1 0)),(8,(u64 d)),(9,(i64 f))]∧H=[.cells (cel Zc j g),.cells (Zc k)]) fuel ⟨m,(IntKind.wrap .u64 (ZI (b - a))),(ZI ((ZI (a + (ZI ((ZI (Int.tdiv (ZI (b - a)) (4:Int))) * (2:Int))))) - (1:Int))),a4,by kernel_rfl,by kernel_rfl⟩ ?_
   rintro u st H ⟨j,k,f,hF,rfl,rfl⟩
   cases u with
   | zero=>exact noneb hF
   | succ u=>
    rw [Zw] at hF
    refine AWP.seq (AWP.seq (AWP.rg0 [] [(0,(.vw 0 0 c)),(1,(i64 a)),(6,(i64 (ZI (b - a)))),(7,(.ptr 1 0)),(8,(u64 d)),(9,(i64 f)),(33,(vb (decide (f≤(ZI ((ZI (a + (ZI ((ZI (Int.tdiv (ZI (b - a)) (4:Int))) * (2:Int))))) + (1:Int)))))))] ?_))
    refine AWP.cif hF (fun a5 hF=>?_) (fun a5 hF=>?_)
    ·refine AWP.skip ?_
     obtain⟨a6,a7,hF⟩:=bindb hF
     refine AWP.seq ?_
     refine AWP.mid (fun e st H=>(e=.normal∧∃ o,∃ p,a6=(o,p)∧st=[(0,(.vw 0 0 c)),(1,(i64 a)),(6,(i64 (ZI (b - a)))),(7,(.ptr 1 0)),(8,(u64 d)),(9,(i64 f))]∧H=[.cells (cel Zc o g),.cells (Zc p)])) ?_ ?_
     ·clear hF
      have hF:=a7
      refine AWP.block (AWP.seq ?_)
      obtain⟨i,a8,hF⟩:=bindb hF
      refine AWP.rg [(0,.call Tryz.func173 [] (Zl1 k i a8))] [(0,(.vw 0 0 c)),(1,(i64 a)),(6,(i64 (ZI (b - a)))),(7,(.ptr 1 0)),(8,(u64 d)),(9,(i64 f)),(10,(i64 (ZI (bAnd .u64 i.1 (IntKind.wrap .u64 (d - (1:Int)))))))] [.cells (cel Zc j g),.cells (Zc i.2)] ?_
      obtain⟨l,a9,hF⟩:=bindb hF
      refine AWP.seq ?_
      refine AWP.mid (fun e st H=>e=.normal∧st=[(0,(.vw 0 0 c)),(1,(i64 a)),(6,(i64 (ZI (b - a)))),(7,(.ptr 1 0)),(8,(u64 d)),(9,(i64 f)),(10,(i64 l))]∧H=[.cells (cel Zc j g),.cells (Zc i.2)]) ?_ ?_
      ·clear hF
       have hF:=a9
       refine AWP.seq (AWP.rg0 [] [(0,(.vw 0 0 c)),(1,(i64 a)),(6,(i64 (ZI (b - a)))),(7,(.ptr 1 0)),(8,(u64 d)),(9,(i64 f)),(10,(i64 (ZI (bAnd .u64 i.1 (IntKind.wrap .u64 (d - (1:Int))))))),(43,(vb (decide ((ZI (bAnd .u64 i.1 (IntKind.wrap .u64 (d - (1:Int))))) ≥ (ZI (b - a))))))] ?_)
       refine AWP.cif hF (fun b0 hF=>?_) (fun b0 hF=>?_)
       ·refine AWP.rg0 [] [(0,(.vw 0 0 c)),(1,(i64 a)),(6,(i64 (ZI (b - a)))),(7,(.ptr 1 0)),(8,(u64 d)),(9,(i64 f)),(10,(i64 (ZI ((ZI (bAnd .u64 i.1 (IntKind.wrap .u64 (d - (1:Int))))) - (ZI (b - a))))))] (LeQ.start (LeQ.pk [0,1,6,7,8,9,10] 2 ?_))
        have hr:=someb hF
        subst hr
        exact⟨rfl,by kernel_rfl,by kernel_rfl⟩
       ·refine AWP.skip (LeQ.start (LeQ.pk [0,1,6,7,8,9,10] 2 ?_))
        have hr:=someb hF
        subst hr
        exact⟨rfl,by kernel_rfl,by kernel_rfl⟩
      ·rintro _ _ _ ⟨rfl,rfl,rfl⟩
       obtain⟨v,y,hF⟩:=bindb hF
       obtain⟨w,z,hF⟩:=bindb hF
       obtain⟨b1,a0,hF⟩:=bindb hF
       obtain⟨b2,a1,hF⟩:=bindb hF
       refine AWP.dr [(10,.idxV (Zs y)),(11,.ldV Zc (s:=1) (fun _=>rfl) g (Zr y) (0 + Int.toNat (ZI (a + l)) * 1) (Nat.zero_add _) []),(14,.idxV (Zs z)),(15,.ldV Zc (s:=1) (fun _=>rfl) g (Zr z) (0 + Int.toNat f * 1) (Nat.zero_add _) []),(16,.idxV (Zs a0)),(17,.stV Zc (s:=1) (fun _=>rfl) g (Zr a0) v (0 + Int.toNat f * 1) (Nat.zero_add _) []),(18,.idxV (Zs a1)),(19,.stV Zc (s:=1) (fun _=>rfl) g (Zr a1) w (0 + Int.toNat (ZI (a + l)) * 1) (Nat.zero_add _) [])] 18 [] [17] [] [(0,(.vw 0 0 c)),(1,(i64 a)),(6,(i64 (ZI (b - a)))),(7,(.ptr 1 0)),(8,(u64 d)),(9,(i64 f))] [.cells (cel Zc (List.set (List.set j (Int.toNat f) v) (Int.toNat (ZI (a + l))) w) g),.cells (Zc i.2)] (LeQ.start (LeQ.pk [0,1,6,7,8,9] 2 ?_))
       exact⟨rfl,(List.set (List.set j (Int.toNat f) v) (Int.toNat (ZI (a + l))) w),i.2,(someb hF).symm,by kernel_rfl,by kernel_rfl⟩
     ·rintro _ _ _ ⟨rfl,o,p,rfl,rfl,rfl⟩
      refine AWP.rg0 [] [(0,(.vw 0 0 c)),(1,(i64 a)),(6,(i64 (ZI (b - a)))),(7,(.ptr 1 0)),(8,(u64 d)),(9,(i64 (ZI (f + (1:Int)))))] (LeQ.start (LeQ.pk [0,1,6,7,8,9] 2 ?_))
      exact⟨u,Nat.lt_succ_self _,o,p,(ZI (f + (1:Int))),hF,by kernel_rfl,by kernel_rfl⟩
    ·refine AWP.exit (LeQ.start (LeQ.pk [] 2 ?_))
     exact⟨rfl,j,k,(someb hF).symm,by kernel_rfl,by kernel_rfl⟩
  ·rintro _ _ _ ⟨rfl,q,t,rfl,rfl,rfl⟩
   have hr:=someb hF
   subst hr
   exact(FnQ.f0 1 (.inl rfl))
 ·refine AWP.skip ?_
  have hr:=someb hF
  subst hr
  exact(FnQ.f0 1 (.inl rfl))
def Zjp (a:(List Int)) (b:List Value) (r:(Int × Int × Int)):PV→List Blk→Prop:=fun p K=>p=(.tup [(i64 r.1),(i64 r.2.1)])∧K=[.cells (cel Zc a b),.cells (Zag r.2.2)]
theorem Ze7 (g:Nat) (d:(List Int)) (c:List Value) (a:Int) (b:Int) (f:Int) (r:(Int × Int × Int)) (hF:Zbm g d a b f=some r):ACall Tryz.prog glob 177 [(.vw 0 0 g),(i64 a),(i64 b),(.ptr 1 0)] [.cells (cel Zc d c),.cells (Zag f)] (Zjp d c r):=by
 refine ACall.body Tryz.func177 rfl (by kernel_rfl) ?_
 unfold Zbm at hF
 refine AWP.seq (AWP.rg0 [] [(0,(.vw 0 0 g)),(1,(i64 a)),(2,(i64 b)),(3,(.ptr 1 0))] (AWP.seq (AWP.seq ?_)))
 obtain⟨l,i,hF⟩:=bindb hF
 obtain⟨m,j,hF⟩:=bindb hF
 obtain⟨k,n,hF⟩:=bindb hF
 refine AWP.dr [(2,.idxV (Zs i)),(3,.ldV Zc (s:=1) (fun _=>rfl) c (Zr i) (0 + Int.toNat b * 1) (Nat.zero_add _) []),(6,.idxV (Zs j)),(7,.ldV Zc (s:=1) (fun _=>rfl) c (Zr j) (0 + Int.toNat a * 1) (Nat.zero_add _) []),(8,.call Tryz.func166 [] (Za8 l m k n))] 9 [] [] [] [(1,(i64 a)),(2,(i64 b)),(3,(.ptr 1 0)),(18,(vb k))] [.cells (cel Zc d c),.cells (Zag f)] ?_
 refine AWP.cif hF (fun o hF=>?_) (fun o hF=>?_)
 ·refine AWP.seq (AWP.rg [] [(1,(i64 a)),(2,(i64 b))] [.cells (cel Zc d c),.cells (Zag (ZI (f + (1:Int))))] (AWP.seq (AWP.rg0 [] [(8,(i64 b)),(9,(i64 a))] (AWP.ret ?_))))
  have hr:=someb hF
  subst hr
  exact(FnQ.f0 2 (.inr rfl))
 ·refine AWP.skip (AWP.seq (AWP.rg0 [] [(8,(i64 a)),(9,(i64 b))] (AWP.ret ?_)))
  have hr:=someb hF
  subst hr
  exact(FnQ.f0 2 (.inr rfl))
def Zjq (a:(List Int)) (b:List Value) (r:(Int × Int)):PV→List Blk→Prop:=fun p K=>p=(i64 r.1)∧K=[.cells (cel Zc a b),.cells (Zag r.2)]
theorem Zg4 (f:Nat) (a:(List Int)) (b:List Value) (k:Int) (l:Int) (i:Int) (m:Int) (r:(Int × Int)) (hF:Zb5 f a k l i m=some r):ACall Tryz.prog glob 175 [(.vw 0 0 f),(i64 k),(i64 l),(i64 i),(.ptr 1 0)] [.cells (cel Zc a b),.cells (Zag m)] (Zjq a b r):=by
 refine ACall.body Tryz.func175 rfl (by kernel_rfl) ?_
 unfold Zb5 at hF
 refine AWP.seq (AWP.rg0 [] [(0,(.vw 0 0 f)),(1,(i64 k)),(2,(i64 l)),(3,(i64 i)),(4,(.ptr 1 0))] (AWP.seq ?_))
 obtain⟨d,o,hF⟩:=bindb hF
 refine AWP.rg [(4,.callC Tryz.func177 [] (closedH.c (Zx (row:=Zc) (fun _=>rfl) a b) (closedH.c (cs:=Zag m) rfl closedH.n)) (closedH.c (Zx (row:=Zc) (fun _=>rfl) a b) (closedH.c (cs:=Zag d.2.2) rfl closedH.n)) (Ze7 f a b k l m d o))] [(0,(.vw 0 0 f)),(1,(i64 d.1)),(2,(i64 d.2.1)),(3,(i64 i)),(4,(.ptr 1 0))] [.cells (cel Zc a b),.cells (Zag d.2.2)] (AWP.seq ?_)
 obtain⟨g,p,hF⟩:=bindb hF
 refine AWP.rg [(4,.callC Tryz.func177 [] (closedH.c (Zx (row:=Zc) (fun _=>rfl) a b) (closedH.c (cs:=Zag d.2.2) rfl closedH.n)) (closedH.c (Zx (row:=Zc) (fun _=>rfl) a b) (closedH.c (cs:=Zag g.2.2) rfl closedH.n)) (Ze7 f a b d.2.1 i d.2.2 g p))] [(0,(.vw 0 0 f)),(1,(i64 d.1)),(2,(i64 g.1)),(4,(.ptr 1 0))] [.cells (cel Zc a b),.cells (Zag g.2.2)] (AWP.seq ?_)
 obtain⟨j,q,hF⟩:=bindb hF
 refine AWP.rg [(4,.callC Tryz.func177 [] (closedH.c (Zx (row:=Zc) (fun _=>rfl) a b) (closedH.c (cs:=Zag g.2.2) rfl closedH.n)) (closedH.c (Zx (row:=Zc) (fun _=>rfl) a b) (closedH.c (cs:=Zag j.2.2) rfl closedH.n)) (Ze7 f a b d.1 g.1 g.2.2 j q))] [(2,(i64 j.2.1))] [.cells (cel Zc a b),.cells (Zag j.2.2)] (AWP.seq (AWP.rg0 [] [(10,(i64 j.2.1))] (AWP.ret ?_)))
 have hr:=someb hF
 subst hr
 exact(FnQ.f0 2 (.inr rfl))
def Zho (a:(List Int)) (b:List Value) (r:(Int × Int)):PV→List Blk→Prop:=fun p K=>p=(i64 r.1)∧K=[.cells (cel Zc a b),.cells (Zag r.2)]
theorem Zds (f:Nat) (a:(List Int)) (b:List Value) (d:Int) (g:Int) (r:(Int × Int)) (hF:Zap f a d g=some r):ACall Tryz.prog glob 174 [(.vw 0 0 f),(i64 d),(.ptr 1 0)] [.cells (cel Zc a b),.cells (Zag g)] (Zho a b r):=by
 refine ACall.body Tryz.func174 rfl (by kernel_rfl) ?_
 unfold Zap at hF
 refine AWP.seq (AWP.rg0 [] [(0,(.vw 0 0 f)),(1,(i64 d)),(2,(.ptr 1 0))] (AWP.seq ?_))
 obtain⟨i,j,hF⟩:=bindb hF
 refine AWP.rg [(7,.callC Tryz.func175 [] (closedH.c (Zx (row:=Zc) (fun _=>rfl) a b) (closedH.c (cs:=Zag g) rfl closedH.n)) (closedH.c (Zx (row:=Zc) (fun _=>rfl) a b) (closedH.c (cs:=Zag i.2) rfl closedH.n)) (Zg4 f a b (ZI (d - (1:Int))) d (ZI (d + (1:Int))) g i j))] [(6,(i64 i.1))] [.cells (cel Zc a b),.cells (Zag i.2)] (AWP.ret ?_)
 have hr:=someb hF
 subst hr
 exact(FnQ.f0 2 (.inr rfl))
def Zih (a:(List Int)) (b:List Value) (r:(Int × Int)):PV→List Blk→Prop:=fun p K=>p=(.tup [(i64 r.1),(i64 r.2)])∧K=[.cells (cel Zc a b)]
theorem Zii (g:Nat) (d:(List Int)) (f:List Value) (a:Int) (b:Int) (r:(Int × Int)) (hF:Zb4 g d a b=some r):ACall Tryz.prog glob 163 [(.vw 0 0 g),(i64 a),(i64 b)] [.cells (cel Zc d f)] (Zih d f r):=by
 refine ACall.body Tryz.func163 rfl (by kernel_rfl) ?_
 unfold Zb4 at hF
 refine AWP.seq (AWP.rg0 [] [(0,(.vw 0 0 g)),(1,(i64 a)),(2,(i64 b))] (AWP.seq (AWP.rg0 [] [(0,(.vw 0 0 g)),(1,(i64 a)),(8,(i64 (ZI (b - a))))] (AWP.seq (AWP.rg [] [(0,(.vw 0 0 g)),(1,(i64 a)),(8,(i64 (ZI (b - a)))),(9,(.ptr 1 0))] [.cells (cel Zc d f),.cells (Zag (0:Int))] (AWP.seq ?_))))))
 refine AWP.rg0 [] [(0,(.vw 0 0 g)),(1,(i64 a)),(8,(i64 (ZI (b - a)))),(9,(.ptr 1 0)),(10,(i64 (ZI (a + (ZI ((ZI (Int.tdiv (ZI (b - a)) (4:Int))) * (1:Int)))))))] (AWP.seq (AWP.rg0 [] [(0,(.vw 0 0 g)),(1,(i64 a)),(8,(i64 (ZI (b - a)))),(9,(.ptr 1 0)),(10,(i64 (ZI (a + (ZI ((ZI (Int.tdiv (ZI (b - a)) (4:Int))) * (1:Int))))))),(11,(i64 (ZI (a + (ZI ((ZI (Int.tdiv (ZI (b - a)) (4:Int))) * (2:Int)))))))] (AWP.seq (AWP.rg0 [] [(0,(.vw 0 0 g)),(8,(i64 (ZI (b - a)))),(9,(.ptr 1 0)),(10,(i64 (ZI (a + (ZI ((ZI (Int.tdiv (ZI (b - a)) (4:Int))) * (1:Int))))))),(11,(i64 (ZI (a + (ZI ((ZI (Int.tdiv (ZI (b - a)) (4:Int))) * (2:Int))))))),(12,(i64 (ZI (a + (ZI ((ZI (Int.tdiv (ZI (b - a)) (4:Int))) * (3:Int)))))))] ?_))))
 obtain⟨u,v,hF⟩:=bindb hF
 refine AWP.seq ?_
 refine AWP.mid (fun e st H=>(e=.normal∧∃ l,∃ i,u=(l,i)∧st=[(9,(.ptr 1 0)),(11,(i64 i))]∧H=[.cells (cel Zc d f),.cells (Zag l)])) ?_ ?_
 ·clear hF
  have hF:=v
  refine AWP.seq (AWP.rg0 [] [(0,(.vw 0 0 g)),(8,(i64 (ZI (b - a)))),(9,(.ptr 1 0)),(10,(i64 (ZI (a + (ZI ((ZI (Int.tdiv (ZI (b - a)) (4:Int))) * (1:Int))))))),(11,(i64 (ZI (a + (ZI ((ZI (Int.tdiv (ZI (b - a)) (4:Int))) * (2:Int))))))),(12,(i64 (ZI (a + (ZI ((ZI (Int.tdiv (ZI (b - a)) (4:Int))) * (3:Int))))))),(32,(vb (decide ((ZI (b - a)) ≥ (8:Int)))))] ?_)
  refine AWP.cif hF (fun w hF=>?_) (fun w hF=>?_)
  ·obtain⟨x,y,hF⟩:=bindb hF
   refine AWP.seq ?_
   refine AWP.mid (fun e st H=>(e=.normal∧∃ p,∃ q,∃ s,∃ t,x=(p,q,s,t)∧st=[(0,(.vw 0 0 g)),(9,(.ptr 1 0)),(10,(i64 q)),(11,(i64 s)),(12,(i64 t))]∧H=[.cells (cel Zc d f),.cells (Zag p)])) ?_ ?_
   ·clear hF
    have hF:=y
    refine AWP.seq (AWP.rg0 [] [(0,(.vw 0 0 g)),(9,(.ptr 1 0)),(10,(i64 (ZI (a + (ZI ((ZI (Int.tdiv (ZI (b - a)) (4:Int))) * (1:Int))))))),(11,(i64 (ZI (a + (ZI ((ZI (Int.tdiv (ZI (b - a)) (4:Int))) * (2:Int))))))),(12,(i64 (ZI (a + (ZI ((ZI (Int.tdiv (ZI (b - a)) (4:Int))) * (3:Int))))))),(34,(vb (decide ((ZI (b - a)) ≥ (50:Int)))))] ?_)
    refine AWP.cif hF (fun z hF=>?_) (fun z hF=>?_)
    ·refine AWP.seq ?_
     obtain⟨j,a0,hF⟩:=bindb hF
     refine AWP.rg [(2,.callC Tryz.func174 [] (closedH.c (Zx (row:=Zc) (fun _=>rfl) d f) (closedH.c (cs:=Zag (0:Int)) rfl closedH.n)) (closedH.c (Zx (row:=Zc) (fun _=>rfl) d f) (closedH.c (cs:=Zag j.2) rfl closedH.n)) (Zds g d f (ZI (a + (ZI ((ZI (Int.tdiv (ZI (b - a)) (4:Int))) * (1:Int))))) (0:Int) j a0))] [(0,(.vw 0 0 g)),(9,(.ptr 1 0)),(10,(i64 j.1)),(11,(i64 (ZI (a + (ZI ((ZI (Int.tdiv (ZI (b - a)) (4:Int))) * (2:Int))))))),(12,(i64 (ZI (a + (ZI ((ZI (Int.tdiv (ZI (b - a)) (4:Int))) * (3:Int)))))))] [.cells (cel Zc d f),.cells (Zag j.2)] (AWP.seq ?_)
     obtain⟨k,a1,hF⟩:=bindb hF
     refine AWP.rg [(2,.callC Tryz.func174 [] (closedH.c (Zx (row:=Zc) (fun _=>rfl) d f) (closedH.c (cs:=Zag j.2) rfl closedH.n)) (closedH.c (Zx (row:=Zc) (fun _=>rfl) d f) (closedH.c (cs:=Zag k.2) rfl closedH.n)) (Zds g d f (ZI (a + (ZI ((ZI (Int.tdiv (ZI (b - a)) (4:Int))) * (2:Int))))) j.2 k a1))] [(0,(.vw 0 0 g)),(9,(.ptr 1 0)),(10,(i64 j.1)),(11,(i64 k.1)),(12,(i64 (ZI (a + (ZI ((ZI (Int.tdiv (ZI (b - a)) (4:Int))) * (3:Int)))))))] [.cells (cel Zc d f),.cells (Zag k.2)] ?_
     obtain⟨m,a2,hF⟩:=bindb hF
     refine AWP.rg [(2,.callC Tryz.func174 [] (closedH.c (Zx (row:=Zc) (fun _=>rfl) d f) (closedH.c (cs:=Zag k.2) rfl closedH.n)) (closedH.c (Zx (row:=Zc) (fun _=>rfl) d f) (closedH.c (cs:=Zag m.2) rfl closedH.n)) (Zds g d f (ZI (a + (ZI ((ZI (Int.tdiv (ZI (b - a)) (4:Int))) * (3:Int))))) k.2 m a2))] [(0,(.vw 0 0 g)),(9,(.ptr 1 0)),(10,(i64 j.1)),(11,(i64 k.1)),(12,(i64 m.1))] [.cells (cel Zc d f),.cells (Zag m.2)] (LeQ.start (LeQ.pk [0,9,10,11,12] 2 ?_))
     exact⟨rfl,m.2,j.1,k.1,m.1,(someb hF).symm,by kernel_rfl,by kernel_rfl⟩
    ·refine AWP.skip (LeQ.start (LeQ.pk [0,9,10,11,12] 2 ?_))
     exact⟨rfl,(0:Int),(ZI (a + (ZI ((ZI (Int.tdiv (ZI (b - a)) (4:Int))) * (1:Int))))),(ZI (a + (ZI ((ZI (Int.tdiv (ZI (b - a)) (4:Int))) * (2:Int))))),(ZI (a + (ZI ((ZI (Int.tdiv (ZI (b - a)) (4:Int))) * (3:Int))))),(someb hF).symm,by kernel_rfl,by kernel_rfl⟩
   ·rintro _ _ _ ⟨rfl,p,q,s,t,rfl,rfl,rfl⟩
    obtain⟨o,a3,hF⟩:=bindb hF
    refine AWP.rg [(4,.callC Tryz.func175 [] (closedH.c (Zx (row:=Zc) (fun _=>rfl) d f) (closedH.c (cs:=Zag p) rfl closedH.n)) (closedH.c (Zx (row:=Zc) (fun _=>rfl) d f) (closedH.c (cs:=Zag o.2) rfl closedH.n)) (Zg4 g d f q s t p o a3))] [(9,(.ptr 1 0)),(11,(i64 o.1))] [.cells (cel Zc d f),.cells (Zag o.2)] (LeQ.start (LeQ.pk [9,11] 2 ?_))
    exact⟨rfl,o.2,o.1,(someb hF).symm,by kernel_rfl,by kernel_rfl⟩
  ·refine AWP.skip (LeQ.start (LeQ.pk [9,11] 2 ?_))
   exact⟨rfl,(0:Int),(ZI (a + (ZI ((ZI (Int.tdiv (ZI (b - a)) (4:Int))) * (2:Int))))),(someb hF).symm,by kernel_rfl,by kernel_rfl⟩
 ·rintro _ _ _ ⟨rfl,l,i,rfl,rfl,rfl⟩
  refine AWP.seq (AWP.rg0 [] [(11,(i64 i)),(49,(i64 l))] (AWP.block (AWP.seq (AWP.rg0 [] [(11,(i64 i)),(49,(i64 l)),(51,(vb (l == (0:Int))))] ?_))))
  refine AWP.cif hF (fun a4 hF=>?_) (fun a4 hF=>?_)
  ·refine AWP.seq (AWP.rg0 [] [(6,(i64 i)),(7,(i64 (1:Int)))] (AWP.ret ?_))
   have hr:=someb hF
   subst hr
   exact(FnQ.f0 1 (.inr rfl))
  ·refine AWP.seq (AWP.rg0 [] [(11,(i64 i)),(54,(vb (l == (12:Int))))] ?_)
   refine AWP.cif hF (fun a5 hF=>?_) (fun a5 hF=>?_)
   ·refine AWP.seq (AWP.rg0 [] [(6,(i64 i)),(7,(i64 (2:Int)))] (AWP.ret ?_))
    have hr:=someb hF
    subst hr
    exact(FnQ.f0 1 (.inr rfl))
   ·refine AWP.seq (AWP.rg0 [] [(6,(i64 i)),(7,(i64 (0:Int)))] (AWP.ret ?_))
    have hr:=someb hF
    subst hr
    exact(FnQ.f0 1 (.inr rfl))
def Zib (a:List Value) (r:(List Int)):PV→List Blk→Prop:=fun p K=>p=(.tup [])∧K=[.cells (cel Zc r a)]
theorem Zic (c:Nat) (j:(List Int)) (d:List Value) (f:Int) (g:Int) (r:(List Int)) (hF:Zbd c j f g=some r):ACall Tryz.prog glob 164 [(.vw 0 0 c),(i64 f),(i64 g)] [.cells (cel Zc j d)] (Zib d r):=by
 refine ACall.body Tryz.func164 rfl (by kernel_rfl) ?_
 unfold Zbd at hF
 refine AWP.seq (AWP.rg0 [] [(0,(.vw 0 0 c)),(2,(i64 g)),(6,(i64 f))] (AWP.seq (AWP.rg0 [] [(0,(.vw 0 0 c)),(6,(i64 f)),(7,(i64 (ZI (g - (1:Int)))))] ?_)))
 obtain⟨o,v,hF⟩:=bindb hF
 refine AWP.mid (fun e st H=>e=.normal∧st=[]∧H=[.cells (cel Zc o d)]) ?_ ?_
 ·clear hF
  refine AWP.kp [0,6,7] 1 ?_
  refine AWP.bround (fun n st H=>∃ i,∃ a,∃ b,Zal c n i a b=some o∧st=[(0,(.vw 0 0 c)),(6,(i64 a)),(7,(i64 b))]∧H=[.cells (cel Zc i d)]) fuel ⟨j,f,(ZI (g - (1:Int))),v,by kernel_rfl,by kernel_rfl⟩ ?_
  rintro k st H ⟨i,a,b,hF,rfl,rfl⟩
  cases k with
  | zero=>exact noneb hF
  | succ k=>
   rw [Zal] at hF
   refine AWP.seq (AWP.seq (AWP.rg0 [] [(0,(.vw 0 0 c)),(6,(i64 a)),(7,(i64 b)),(13,(vb (decide (a<b))))] ?_))
   refine AWP.cif hF (fun w hF=>?_) (fun w hF=>?_)
   ·refine AWP.skip (AWP.block (AWP.seq ?_))
    obtain⟨l,p,hF⟩:=bindb hF
    obtain⟨m,q,hF⟩:=bindb hF
    obtain⟨x,t,hF⟩:=bindb hF
    obtain⟨y,u,hF⟩:=bindb hF
    refine AWP.dr [(6,.idxV (Zs p)),(7,.ldV Zc (s:=1) (fun _=>rfl) d (Zr p) (0 + Int.toNat b * 1) (Nat.zero_add _) []),(10,.idxV (Zs q)),(11,.ldV Zc (s:=1) (fun _=>rfl) d (Zr q) (0 + Int.toNat a * 1) (Nat.zero_add _) []),(12,.idxV (Zs t)),(13,.stV Zc (s:=1) (fun _=>rfl) d (Zr t) l (0 + Int.toNat a * 1) (Nat.zero_add _) []),(14,.idxV (Zs u)),(15,.stV Zc (s:=1) (fun _=>rfl) d (Zr u) m (0 + Int.toNat b * 1) (Nat.zero_add _) [])] 14 [] [13] [] [(0,(.vw 0 0 c)),(6,(i64 a)),(7,(i64 b))] [.cells (cel Zc (List.set (List.set i (Int.toNat a) l) (Int.toNat b) m) d)] (AWP.seq (AWP.rg0 [] [(0,(.vw 0 0 c)),(6,(i64 (ZI (a + (1:Int))))),(7,(i64 b))] (AWP.rg0 [] [(0,(.vw 0 0 c)),(6,(i64 (ZI (a + (1:Int))))),(7,(i64 (ZI (b - (1:Int)))))] (LeQ.start (LeQ.pk [0,6,7] 1 ?_)))))
    exact⟨k,Nat.lt_succ_self _,(List.set (List.set i (Int.toNat a) l) (Int.toNat b) m),(ZI (a + (1:Int))),(ZI (b - (1:Int))),hF,by kernel_rfl,by kernel_rfl⟩
   ·refine AWP.exit (LeQ.start (LeQ.pk [] 1 ?_))
    have hr:=someb hF
    subst hr
    exact⟨rfl,by kernel_rfl,by kernel_rfl⟩
 ·rintro _ _ _ ⟨rfl,rfl,rfl⟩
  have hr:=someb hF
  subst hr
  exact(FnQ.f0 1 (.inl rfl))
def Zeg (a:List Value) (r:(Bool × (List Int))):PV→List Blk→Prop:=fun p K=>p=(vb r.1)∧K=[.cells (cel Zc r.2 a)]
abbrev Zeh (a:List Value) (r:(Bool × (List Int))):Exit→St→List Blk→Prop:=FnQ Tryz.prog Tryz.f165.results 1 (Zeg a r)
theorem Zg6 (f:Nat) (w:(List Int)) (d:List Value) (b:Int) (a:Int) (r:(Bool × (List Int))) (hF:Zam f w b a=some r):ACall Tryz.prog glob 165 [(.vw 0 0 f),(i64 b),(i64 a)] [.cells (cel Zc w d)] (Zeg d r):=by
 refine ACall.body Tryz.func165 rfl (by kernel_rfl) ?_
 unfold Zam at hF
 refine AWP.seq (AWP.rg0 [] [(0,(.vw 0 0 f)),(1,(i64 b)),(2,(i64 a))] (AWP.seq (AWP.rg0 [] [(0,(.vw 0 0 f)),(1,(i64 b)),(2,(i64 a)),(7,(i64 (ZI (b + (1:Int)))))] (AWP.seq (AWP.seq (AWP.rg0 [] [(0,(.vw 0 0 f)),(1,(i64 b)),(2,(i64 a)),(7,(i64 (ZI (b + (1:Int))))),(8,(i64 (0:Int)))] ?_))))))
 obtain⟨x,d4,hF⟩:=bindb hF
 refine AWP.mid (fun e st H=>(e=.normal∧∃ y,x=(.inl y)∧st=[]∧H=[.cells (cel Zc y d)])∨(e=.ret∧∃ r,x=(.inr r)∧Zeh d r e st H)) ?_ ?_
 ·clear hF
  refine AWP.kp [0,1,2,7,8] 1 ?_
  refine AWP.bround (fun n st H=>∃ k,∃ q,∃ g,Z8 f b a n k q g=some x∧st=[(0,(.vw 0 0 f)),(1,(i64 b)),(2,(i64 a)),(7,(i64 q)),(8,(i64 g))]∧H=[.cells (cel Zc k d)]) fuel ⟨w,(ZI (b + (1:Int))),(0:Int),d4,by kernel_rfl,by kernel_rfl⟩ ?_
  rintro z st H ⟨k,q,g,hF,rfl,rfl⟩
  cases z with
  | zero=>exact noneb hF
  | succ z=>
   rw [Z8] at hF
   refine AWP.seq (AWP.seq (AWP.rg0 [] [(0,(.vw 0 0 f)),(1,(i64 b)),(2,(i64 a)),(7,(i64 q)),(8,(i64 g)),(14,(vb (decide (g<(5:Int)))))] ?_))
   refine AWP.cif hF (fun d5 hF=>?_) (fun d5 hF=>?_)
   ·refine AWP.skip ?_
    obtain⟨b1,d6,hF⟩:=bindb hF
    refine AWP.seq ?_
    refine AWP.mid (fun e st H=>(e=.normal∧∃ u,∃ t,b1=(.inl (u,t))∧st=[(0,(.vw 0 0 f)),(1,(i64 b)),(2,(i64 a)),(7,(i64 t)),(8,(i64 g))]∧H=[.cells (cel Zc u d)])∨(e=.ret∧∃ r,b1=(.inr r)∧Zeh d r e st H)) ?_ ?_
    ·clear hF
     have hF:=d6
     refine AWP.block (AWP.seq ?_)
     obtain⟨c,d7,hF⟩:=bindb hF
     refine AWP.mid (fun e st H=>e=.normal∧st=[(0,(.vw 0 0 f)),(1,(i64 b)),(2,(i64 a)),(7,(i64 c)),(8,(i64 g))]∧H=[.cells (cel Zc k d)]) ?_ ?_
     ·clear hF
      refine AWP.kp [0,1,2,7,8] 1 ?_
      refine AWP.bround (fun n st H=>∃ m,Z6 f a k n m=some c∧st=[(0,(.vw 0 0 f)),(1,(i64 b)),(2,(i64 a)),(7,(i64 m)),(8,(i64 g))]∧H=[.cells (cel Zc k d)]) fuel ⟨q,d7,by kernel_rfl,by kernel_rfl⟩ ?_
      rintro a0 st H ⟨m,hF,rfl,rfl⟩
      cases a0 with
      | zero=>exact noneb hF
      | succ a0=>
       rw [Z6] at hF
       refine AWP.seq (AWP.seq ?_)
       obtain⟨d8,v,hF⟩:=bindb hF
       replace v:=someb v
       obtain⟨d9,b2,hF⟩:=bindb hF
       refine AWP.to [(0,(.vw 0 0 f)),(1,(i64 b)),(2,(i64 a)),(7,(i64 m)),(8,(i64 g)),(32,(vb d9))] [.cells (cel Zc k d)] ?_ ?_
       ·cases d8 with
        | false=>
         have e0:=someb (ifF b2 rfl)
         subst e0
         exact AWP.drT [(3,.bool v)] 16 [] [] []
        | true=>
         have l:=ifT b2 rfl
         obtain⟨e1,b3,l⟩:=bindb l
         obtain⟨e2,b4,l⟩:=bindb l
         obtain⟨e3,e4,l⟩:=bindb l
         replace l:=someb l
         subst l
         exact AWP.drT [(3,.bool v),(6,.idxV (Zs b3)),(7,.ldV Zc (s:=1) (fun _=>rfl) d (Zr b3) (0 + Int.toNat m * 1) (Nat.zero_add _) []),(11,.idxV (Zs b4)),(12,.ldV Zc (s:=1) (fun _=>rfl) d (Zr b4) (0 + Int.toNat (ZI (m - (1:Int))) * 1) (Nat.zero_add _) []),(13,.call Tryz.func166 [] (Za8 e1 e2 e3 e4))] 16 [] [] []
       refine AWP.cif hF (fun e5 hF=>?_) (fun e5 hF=>?_)
       ·refine AWP.skip (AWP.block (AWP.rg0 [] [(0,(.vw 0 0 f)),(1,(i64 b)),(2,(i64 a)),(7,(i64 (ZI (m + (1:Int))))),(8,(i64 g))] (LeQ.start (LeQ.pk [0,1,2,7,8] 1 ?_))))
        exact⟨a0,Nat.lt_succ_self _,(ZI (m + (1:Int))),hF,by kernel_rfl,by kernel_rfl⟩
       ·refine AWP.exit (LeQ.start (LeQ.pk [0,1,2,7,8] 1 ?_))
        have hr:=someb hF
        subst hr
        exact⟨rfl,by kernel_rfl,by kernel_rfl⟩
     ·rintro _ _ _ ⟨rfl,rfl,rfl⟩
      refine AWP.seq (AWP.seq (AWP.rg0 [] [(0,(.vw 0 0 f)),(1,(i64 b)),(2,(i64 a)),(7,(i64 c)),(8,(i64 g)),(37,(vb (c == a)))] ?_))
      refine AWP.cif hF (fun e6 hF=>?_) (fun e6 hF=>?_)
      ·refine AWP.seq (AWP.rg0 [] [(6,(vb true))] (AWP.ret ?_))
       exact LeQ.of (.inr ⟨rfl,(true,k),(someb hF).symm,(FnQ.f0 1 (.inr rfl))⟩)
      ·refine AWP.skip (AWP.seq (AWP.seq (AWP.rg0 [] [(0,(.vw 0 0 f)),(1,(i64 b)),(2,(i64 a)),(7,(i64 c)),(8,(i64 g)),(41,(vb (decide ((ZI (a - b))<(50:Int)))))] ?_)))
       refine AWP.cif hF (fun e7 hF=>?_) (fun e7 hF=>?_)
       ·refine AWP.seq (AWP.rg0 [] [(6,(vb false))] (AWP.ret ?_))
        exact LeQ.of (.inr ⟨rfl,(false,k),(someb hF).symm,(FnQ.f0 1 (.inr rfl))⟩)
       ·refine AWP.skip (AWP.seq ?_)
        obtain⟨a1,b5,hF⟩:=bindb hF
        obtain⟨a2,b6,hF⟩:=bindb hF
        obtain⟨g5,b7,hF⟩:=bindb hF
        obtain⟨g6,b8,hF⟩:=bindb hF
        refine AWP.dr [(8,.idxV (Zs b5)),(9,.ldV Zc (s:=1) (fun _=>rfl) d (Zr b5) (0 + Int.toNat (ZI (c - (1:Int))) * 1) (Nat.zero_add _) []),(12,.idxV (Zs b6)),(13,.ldV Zc (s:=1) (fun _=>rfl) d (Zr b6) (0 + Int.toNat c * 1) (Nat.zero_add _) []),(14,.idxV (Zs b7)),(15,.stV Zc (s:=1) (fun _=>rfl) d (Zr b7) a1 (0 + Int.toNat c * 1) (Nat.zero_add _) []),(16,.idxV (Zs b8)),(17,.stV Zc (s:=1) (fun _=>rfl) d (Zr b8) a2 (0 + Int.toNat (ZI (c - (1:Int))) * 1) (Nat.zero_add _) [])] 16 [] [15] [] [(0,(.vw 0 0 f)),(1,(i64 b)),(2,(i64 a)),(7,(i64 c)),(8,(i64 g))] [.cells (cel Zc (List.set (List.set k (Int.toNat c) a1) (Int.toNat (ZI (c - (1:Int)))) a2) d)] ?_
        obtain⟨a3,e8,hF⟩:=bindb hF
        refine AWP.seq ?_
        refine AWP.mid (fun e st H=>e=.normal∧st=[(0,(.vw 0 0 f)),(1,(i64 b)),(2,(i64 a)),(7,(i64 c)),(8,(i64 g))]∧H=[.cells (cel Zc a3 d)]) ?_ ?_
        ·clear hF
         have hF:=e8
         refine AWP.seq (AWP.rg0 [] [(0,(.vw 0 0 f)),(1,(i64 b)),(2,(i64 a)),(7,(i64 c)),(8,(i64 g)),(61,(vb (decide ((ZI (c - b)) ≥ (2:Int)))))] ?_)
         refine AWP.cif hF (fun e9 hF=>?_) (fun e9 hF=>?_)
         ·refine AWP.seq (AWP.rg0 [] [(0,(.vw 0 0 f)),(1,(i64 b)),(2,(i64 a)),(7,(i64 c)),(8,(i64 g)),(9,(i64 (ZI (c - (1:Int)))))] ?_)
          obtain⟨b9,f1,hF⟩:=bindb hF
          refine AWP.mid (fun e st H=>e=.normal∧st=[(0,(.vw 0 0 f)),(1,(i64 b)),(2,(i64 a)),(7,(i64 c)),(8,(i64 g))]∧H=[.cells (cel Zc b9 d)]) ?_ ?_
          ·clear hF
           refine AWP.kp [0,1,2,7,8,9] 1 ?_
           refine AWP.bround (fun n st H=>∃ o,∃ i,Z3 f n o i=some b9∧st=[(0,(.vw 0 0 f)),(1,(i64 b)),(2,(i64 a)),(7,(i64 c)),(8,(i64 g)),(9,(i64 i))]∧H=[.cells (cel Zc o d)]) fuel ⟨(List.set (List.set k (Int.toNat c) a1) (Int.toNat (ZI (c - (1:Int)))) a2),(ZI (c - (1:Int))),f1,by kernel_rfl,by kernel_rfl⟩ ?_
           rintro a4 st H ⟨o,i,hF,rfl,rfl⟩
           cases a4 with
           | zero=>exact noneb hF
           | succ a4=>
            rw [Z3] at hF
            refine AWP.seq (AWP.seq (AWP.rg0 [] [(0,(.vw 0 0 f)),(1,(i64 b)),(2,(i64 a)),(7,(i64 c)),(8,(i64 g)),(9,(i64 i)),(65,(vb (decide (i ≥ (1:Int)))))] ?_))
            refine AWP.cif hF (fun f2 hF=>?_) (fun f2 hF=>?_)
            ·refine AWP.skip (AWP.seq (AWP.block (AWP.seq (AWP.seq ?_))))
             obtain⟨f3,c0,hF⟩:=bindb hF
             obtain⟨f4,c1,hF⟩:=bindb hF
             obtain⟨c2,f5,hF⟩:=bindb hF
             refine AWP.dr [(2,.idxV (Zs c0)),(3,.ldV Zc (s:=1) (fun _=>rfl) d (Zr c0) (0 + Int.toNat i * 1) (Nat.zero_add _) []),(7,.idxV (Zs c1)),(8,.ldV Zc (s:=1) (fun _=>rfl) d (Zr c1) (0 + Int.toNat (ZI (i - (1:Int))) * 1) (Nat.zero_add _) []),(9,.call Tryz.func166 [] (Za8 f3 f4 c2 f5))] 11 [] [] [] [(0,(.vw 0 0 f)),(1,(i64 b)),(2,(i64 a)),(7,(i64 c)),(8,(i64 g)),(9,(i64 i)),(78,(vb (!c2)))] [.cells (cel Zc o d)] ?_
             refine AWP.cif hF (fun f6 hF=>?_) (fun f6 hF=>?_)
             ·refine AWP.exit (LeQ.start (LeQ.pk [0,1,2,7,8] 1 ?_))
              have hr:=someb hF
              subst hr
              exact⟨rfl,by kernel_rfl,by kernel_rfl⟩
             ·refine AWP.skip ?_
              obtain⟨a5,c3,hF⟩:=bindb hF
              obtain⟨a6,c4,hF⟩:=bindb hF
              obtain⟨g7,c5,hF⟩:=bindb hF
              obtain⟨g8,c6,hF⟩:=bindb hF
              refine AWP.dr [(8,.idxV (Zs c3)),(9,.ldV Zc (s:=1) (fun _=>rfl) d (Zr c3) (0 + Int.toNat (ZI (i - (1:Int))) * 1) (Nat.zero_add _) []),(12,.idxV (Zs c4)),(13,.ldV Zc (s:=1) (fun _=>rfl) d (Zr c4) (0 + Int.toNat i * 1) (Nat.zero_add _) []),(14,.idxV (Zs c5)),(15,.stV Zc (s:=1) (fun _=>rfl) d (Zr c5) a5 (0 + Int.toNat i * 1) (Nat.zero_add _) []),(16,.idxV (Zs c6)),(17,.stV Zc (s:=1) (fun _=>rfl) d (Zr c6) a6 (0 + Int.toNat (ZI (i - (1:Int))) * 1) (Nat.zero_add _) [])] 16 [] [15] [] [(0,(.vw 0 0 f)),(1,(i64 b)),(2,(i64 a)),(7,(i64 c)),(8,(i64 g)),(9,(i64 i))] [.cells (cel Zc (List.set (List.set o (Int.toNat i) a5) (Int.toNat (ZI (i - (1:Int)))) a6) d)] (AWP.rg0 [] [(0,(.vw 0 0 f)),(1,(i64 b)),(2,(i64 a)),(7,(i64 c)),(8,(i64 g)),(9,(i64 (ZI (i - (1:Int)))))] (LeQ.start (LeQ.pk [0,1,2,7,8,9] 1 ?_)))
              exact⟨a4,Nat.lt_succ_self _,(List.set (List.set o (Int.toNat i) a5) (Int.toNat (ZI (i - (1:Int)))) a6),(ZI (i - (1:Int))),hF,by kernel_rfl,by kernel_rfl⟩
            ·refine AWP.exit (LeQ.start (LeQ.pk [0,1,2,7,8] 1 ?_))
             have hr:=someb hF
             subst hr
             exact⟨rfl,by kernel_rfl,by kernel_rfl⟩
          ·rintro _ _ _ ⟨rfl,rfl,rfl⟩
           refine LeQ.start (LeQ.pk [0,1,2,7,8] 1 ?_)
           have hr:=someb hF
           subst hr
           exact⟨rfl,by kernel_rfl,by kernel_rfl⟩
         ·refine AWP.skip (LeQ.start (LeQ.pk [0,1,2,7,8] 1 ?_))
          have hr:=someb hF
          subst hr
          exact⟨rfl,by kernel_rfl,by kernel_rfl⟩
        ·rintro _ _ _ ⟨rfl,rfl,rfl⟩
         refine AWP.seq (AWP.rg0 [] [(0,(.vw 0 0 f)),(1,(i64 b)),(2,(i64 a)),(7,(i64 c)),(8,(i64 g)),(98,(vb (decide ((ZI (a - c)) ≥ (2:Int)))))] ?_)
         refine AWP.cif hF (fun f7 hF=>?_) (fun f7 hF=>?_)
         ·refine AWP.seq (AWP.rg0 [] [(0,(.vw 0 0 f)),(1,(i64 b)),(2,(i64 a)),(7,(i64 c)),(8,(i64 g)),(10,(i64 (ZI (c + (1:Int)))))] ?_)
          obtain⟨a7,f8,hF⟩:=bindb hF
          refine AWP.mid (fun e st H=>e=.normal∧st=[(0,(.vw 0 0 f)),(1,(i64 b)),(2,(i64 a)),(7,(i64 c)),(8,(i64 g))]∧H=[.cells (cel Zc a7 d)]) ?_ ?_
          ·clear hF
           refine AWP.kp [0,1,2,7,8,10] 1 ?_
           refine AWP.bround (fun n st H=>∃ p,∃ j,Z7 f a n p j=some a7∧st=[(0,(.vw 0 0 f)),(1,(i64 b)),(2,(i64 a)),(7,(i64 c)),(8,(i64 g)),(10,(i64 j))]∧H=[.cells (cel Zc p d)]) fuel ⟨a3,(ZI (c + (1:Int))),f8,by kernel_rfl,by kernel_rfl⟩ ?_
           rintro a8 st H ⟨p,j,hF,rfl,rfl⟩
           cases a8 with
           | zero=>exact noneb hF
           | succ a8=>
            rw [Z7] at hF
            refine AWP.seq (AWP.seq (AWP.rg0 [] [(0,(.vw 0 0 f)),(1,(i64 b)),(2,(i64 a)),(7,(i64 c)),(8,(i64 g)),(10,(i64 j)),(103,(vb (decide (j<a))))] ?_))
            refine AWP.cif hF (fun f9 hF=>?_) (fun f9 hF=>?_)
            ·refine AWP.skip (AWP.seq (AWP.block (AWP.seq (AWP.seq ?_))))
             obtain⟨g0,c7,hF⟩:=bindb hF
             obtain⟨g1,c8,hF⟩:=bindb hF
             obtain⟨c9,g2,hF⟩:=bindb hF
             refine AWP.dr [(2,.idxV (Zs c7)),(3,.ldV Zc (s:=1) (fun _=>rfl) d (Zr c7) (0 + Int.toNat j * 1) (Nat.zero_add _) []),(7,.idxV (Zs c8)),(8,.ldV Zc (s:=1) (fun _=>rfl) d (Zr c8) (0 + Int.toNat (ZI (j - (1:Int))) * 1) (Nat.zero_add _) []),(9,.call Tryz.func166 [] (Za8 g0 g1 c9 g2))] 11 [] [] [] [(0,(.vw 0 0 f)),(1,(i64 b)),(2,(i64 a)),(7,(i64 c)),(8,(i64 g)),(10,(i64 j)),(116,(vb (!c9)))] [.cells (cel Zc p d)] ?_
             refine AWP.cif hF (fun g3 hF=>?_) (fun g3 hF=>?_)
             ·refine AWP.exit (LeQ.start (LeQ.pk [0,1,2,7,8] 1 ?_))
              have hr:=someb hF
              subst hr
              exact⟨rfl,by kernel_rfl,by kernel_rfl⟩
             ·refine AWP.skip ?_
              obtain⟨a9,d0,hF⟩:=bindb hF
              obtain⟨b0,d1,hF⟩:=bindb hF
              obtain⟨g9,d2,hF⟩:=bindb hF
              obtain⟨h0,d3,hF⟩:=bindb hF
              refine AWP.dr [(8,.idxV (Zs d0)),(9,.ldV Zc (s:=1) (fun _=>rfl) d (Zr d0) (0 + Int.toNat (ZI (j - (1:Int))) * 1) (Nat.zero_add _) []),(12,.idxV (Zs d1)),(13,.ldV Zc (s:=1) (fun _=>rfl) d (Zr d1) (0 + Int.toNat j * 1) (Nat.zero_add _) []),(14,.idxV (Zs d2)),(15,.stV Zc (s:=1) (fun _=>rfl) d (Zr d2) a9 (0 + Int.toNat j * 1) (Nat.zero_add _) []),(16,.idxV (Zs d3)),(17,.stV Zc (s:=1) (fun _=>rfl) d (Zr d3) b0 (0 + Int.toNat (ZI (j - (1:Int))) * 1) (Nat.zero_add _) [])] 16 [] [15] [] [(0,(.vw 0 0 f)),(1,(i64 b)),(2,(i64 a)),(7,(i64 c)),(8,(i64 g)),(10,(i64 j))] [.cells (cel Zc (List.set (List.set p (Int.toNat j) a9) (Int.toNat (ZI (j - (1:Int)))) b0) d)] (AWP.rg0 [] [(0,(.vw 0 0 f)),(1,(i64 b)),(2,(i64 a)),(7,(i64 c)),(8,(i64 g)),(10,(i64 (ZI (j + (1:Int)))))] (LeQ.start (LeQ.pk [0,1,2,7,8,10] 1 ?_)))
              exact⟨a8,Nat.lt_succ_self _,(List.set (List.set p (Int.toNat j) a9) (Int.toNat (ZI (j - (1:Int)))) b0),(ZI (j + (1:Int))),hF,by kernel_rfl,by kernel_rfl⟩
            ·refine AWP.exit (LeQ.start (LeQ.pk [0,1,2,7,8] 1 ?_))
             have hr:=someb hF
             subst hr
             exact⟨rfl,by kernel_rfl,by kernel_rfl⟩
          ·rintro _ _ _ ⟨rfl,rfl,rfl⟩
           refine LeQ.start (LeQ.pk [0,1,2,7,8] 1 ?_)
           exact(.inl ⟨rfl,a7,c,(someb hF).symm,by kernel_rfl,by kernel_rfl⟩)
         ·refine AWP.skip (LeQ.start (LeQ.pk [0,1,2,7,8] 1 ?_))
          exact(.inl ⟨rfl,a3,c,(someb hF).symm,by kernel_rfl,by kernel_rfl⟩)
    ·rintro _ _ _ (⟨rfl,u,t,rfl,rfl,rfl⟩ | ⟨rfl,g4,rfl,hq⟩)
     ·refine AWP.rg0 [] [(0,(.vw 0 0 f)),(1,(i64 b)),(2,(i64 a)),(7,(i64 t)),(8,(i64 (ZI (g + (1:Int)))))] (LeQ.start (LeQ.pk [0,1,2,7,8] 1 ?_))
      exact⟨z,Nat.lt_succ_self _,u,t,(ZI (g + (1:Int))),hF,by kernel_rfl,by kernel_rfl⟩
     ·exact LeQ.of (.inr ⟨rfl,g4,(someb hF).symm,hq⟩)
   ·refine AWP.exit (LeQ.start (LeQ.pk [] 1 ?_))
    exact(.inl ⟨rfl,k,(someb hF).symm,by kernel_rfl,by kernel_rfl⟩)
 ·rintro _ _ _ (⟨rfl,y,rfl,rfl,rfl⟩ | ⟨rfl,h1,rfl,hq⟩)
  ·refine AWP.seq (AWP.rg0 [] [(6,(vb false))] (AWP.ret ?_))
   have hr:=someb hF
   subst hr
   exact(FnQ.f0 1 (.inr rfl))
  ·have hr:=someb hF
   subst hr
   exact hq
def Zhp (a:List Value) (r:(Int × (List Int))):PV→List Blk→Prop:=fun p K=>p=(i64 r.1)∧K=[.cells (cel Zc r.2 a)]
theorem Zhq (c:Nat) (q:(List Int)) (b:List Value) (a:Int) (p:Int) (l:Int) (r:(Int × (List Int))) (hF:Zbu c q a p l=some r):ACall Tryz.prog glob 167 [(.vw 0 0 c),(i64 a),(i64 p),(i64 l)] [.cells (cel Zc q b)] (Zhp b r):=by
 refine ACall.body Tryz.func167 rfl (by kernel_rfl) ?_
 unfold Zbu at hF
 refine AWP.seq (AWP.rg0 [] [(0,(.vw 0 0 c)),(1,(i64 a)),(2,(i64 p)),(3,(i64 l))] (AWP.seq ?_))
 obtain⟨x,a5,hF⟩:=bindb hF
 obtain⟨y,a6,hF⟩:=bindb hF
 obtain⟨e0,a7,hF⟩:=bindb hF
 obtain⟨e1,a8,hF⟩:=bindb hF
 refine AWP.dr [(6,.idxV (Zs a5)),(7,.ldV Zc (s:=1) (fun _=>rfl) b (Zr a5) (0 + Int.toNat l * 1) (Nat.zero_add _) []),(10,.idxV (Zs a6)),(11,.ldV Zc (s:=1) (fun _=>rfl) b (Zr a6) (0 + Int.toNat a * 1) (Nat.zero_add _) []),(12,.idxV (Zs a7)),(13,.stV Zc (s:=1) (fun _=>rfl) b (Zr a7) x (0 + Int.toNat a * 1) (Nat.zero_add _) []),(14,.idxV (Zs a8)),(15,.stV Zc (s:=1) (fun _=>rfl) b (Zr a8) y (0 + Int.toNat l * 1) (Nat.zero_add _) [])] 14 [] [13] [] [(0,(.vw 0 0 c)),(1,(i64 a)),(2,(i64 p))] [.cells (cel Zc (List.set (List.set q (Int.toNat a) x) (Int.toNat l) y) b)] (AWP.seq (AWP.rg0 [] [(0,(.vw 0 0 c)),(1,(i64 a)),(9,(i64 (ZI (a + (1:Int))))),(10,(i64 (ZI (p - (1:Int)))))] (AWP.seq ?_)))
 obtain⟨a9,c0,hF⟩:=bindb hF
 refine AWP.mid (fun e st H=>(e=.normal∧∃ z,∃ t,a9=(z,t)∧st=[(9,(i64 t))]∧H=[.cells (cel Zc z b)])) ?_ ?_
 ·clear hF
  refine AWP.kp [0,1,9,10] 1 ?_
  refine AWP.bround (fun n st H=>∃ f,∃ u,∃ i,Zah c a n f u i=some a9∧st=[(0,(.vw 0 0 c)),(1,(i64 a)),(9,(i64 u)),(10,(i64 i))]∧H=[.cells (cel Zc f b)]) fuel ⟨(List.set (List.set q (Int.toNat a) x) (Int.toNat l) y),(ZI (a + (1:Int))),(ZI (p - (1:Int))),c0,by kernel_rfl,by kernel_rfl⟩ ?_
  rintro a0 st H ⟨f,u,i,hF,rfl,rfl⟩
  cases a0 with
  | zero=>exact noneb hF
  | succ a0=>
   rw [Zah] at hF
   refine AWP.block (AWP.seq ?_)
   obtain⟨d,c1,hF⟩:=bindb hF
   refine AWP.mid (fun e st H=>e=.normal∧st=[(0,(.vw 0 0 c)),(1,(i64 a)),(9,(i64 d)),(10,(i64 i))]∧H=[.cells (cel Zc f b)]) ?_ ?_
   ·clear hF
    refine AWP.kp [0,1,9,10] 1 ?_
    refine AWP.bround (fun n st H=>∃ m,Zas c a f i n m=some d∧st=[(0,(.vw 0 0 c)),(1,(i64 a)),(9,(i64 m)),(10,(i64 i))]∧H=[.cells (cel Zc f b)]) fuel ⟨u,c1,by kernel_rfl,by kernel_rfl⟩ ?_
    rintro a1 st H ⟨m,hF,rfl,rfl⟩
    cases a1 with
    | zero=>exact noneb hF
    | succ a1=>
     rw [Zas] at hF
     refine AWP.seq (AWP.seq ?_)
     obtain⟨c2,v,hF⟩:=bindb hF
     replace v:=someb v
     obtain⟨c3,b0,hF⟩:=bindb hF
     refine AWP.to [(0,(.vw 0 0 c)),(1,(i64 a)),(9,(i64 m)),(10,(i64 i)),(43,(vb c3))] [.cells (cel Zc f b)] ?_ ?_
     ·cases c2 with
      | false=>
       have c4:=someb (ifF b0 rfl)
       subst c4
       exact AWP.drT [(3,.bool v)] 15 [] [] []
      | true=>
       have j:=ifT b0 rfl
       obtain⟨c5,b1,j⟩:=bindb j
       obtain⟨c6,b2,j⟩:=bindb j
       obtain⟨c7,c8,j⟩:=bindb j
       replace j:=someb j
       subst j
       exact AWP.drT [(3,.bool v),(6,.idxV (Zs b1)),(7,.ldV Zc (s:=1) (fun _=>rfl) b (Zr b1) (0 + Int.toNat a * 1) (Nat.zero_add _) []),(10,.idxV (Zs b2)),(11,.ldV Zc (s:=1) (fun _=>rfl) b (Zr b2) (0 + Int.toNat m * 1) (Nat.zero_add _) []),(12,.call Tryz.func166 [] (Za8 c5 c6 c7 c8))] 15 [] [] []
     refine AWP.cif hF (fun c9 hF=>?_) (fun c9 hF=>?_)
     ·refine AWP.skip (AWP.block (AWP.rg0 [] [(0,(.vw 0 0 c)),(1,(i64 a)),(9,(i64 (ZI (m + (1:Int))))),(10,(i64 i))] (LeQ.start (LeQ.pk [0,1,9,10] 1 ?_))))
      exact⟨a1,Nat.lt_succ_self _,(ZI (m + (1:Int))),hF,by kernel_rfl,by kernel_rfl⟩
     ·refine AWP.exit (LeQ.start (LeQ.pk [0,1,9,10] 1 ?_))
      have hr:=someb hF
      subst hr
      exact⟨rfl,by kernel_rfl,by kernel_rfl⟩
   ·rintro _ _ _ ⟨rfl,rfl,rfl⟩
    refine AWP.seq ?_
    obtain⟨g,d0,hF⟩:=bindb hF
    refine AWP.mid (fun e st H=>e=.normal∧st=[(0,(.vw 0 0 c)),(1,(i64 a)),(9,(i64 d)),(10,(i64 g))]∧H=[.cells (cel Zc f b)]) ?_ ?_
    ·clear hF
     refine AWP.kp [0,1,9,10] 1 ?_
     refine AWP.bround (fun n st H=>∃ o,Zat c a f d n o=some g∧st=[(0,(.vw 0 0 c)),(1,(i64 a)),(9,(i64 d)),(10,(i64 o))]∧H=[.cells (cel Zc f b)]) fuel ⟨i,d0,by kernel_rfl,by kernel_rfl⟩ ?_
     rintro a2 st H ⟨o,hF,rfl,rfl⟩
     cases a2 with
     | zero=>exact noneb hF
     | succ a2=>
      rw [Zat] at hF
      refine AWP.seq (AWP.seq ?_)
      obtain⟨d1,w,hF⟩:=bindb hF
      replace w:=someb w
      obtain⟨d2,b3,hF⟩:=bindb hF
      refine AWP.to [(0,(.vw 0 0 c)),(1,(i64 a)),(9,(i64 d)),(10,(i64 o)),(59,(vb d2))] [.cells (cel Zc f b)] ?_ ?_
      ·cases d1 with
       | false=>
        have d3:=someb (ifF b3 rfl)
        subst d3
        exact AWP.drT [(3,.bool w)] 14 [] [] []
       | true=>
        have k:=ifT b3 rfl
        obtain⟨d4,b4,k⟩:=bindb k
        obtain⟨d5,b5,k⟩:=bindb k
        obtain⟨d6,d7,k⟩:=bindb k
        replace k:=someb k
        subst k
        exact AWP.drT [(3,.bool w),(6,.idxV (Zs b4)),(7,.ldV Zc (s:=1) (fun _=>rfl) b (Zr b4) (0 + Int.toNat a * 1) (Nat.zero_add _) []),(10,.idxV (Zs b5)),(11,.ldV Zc (s:=1) (fun _=>rfl) b (Zr b5) (0 + Int.toNat o * 1) (Nat.zero_add _) []),(12,.call Tryz.func166 [] (Za8 d4 d5 d6 d7))] 14 [] [] []
      refine AWP.cif hF (fun d8 hF=>?_) (fun d8 hF=>?_)
      ·refine AWP.skip (AWP.block (AWP.rg0 [] [(0,(.vw 0 0 c)),(1,(i64 a)),(9,(i64 d)),(10,(i64 (ZI (o - (1:Int)))))] (LeQ.start (LeQ.pk [0,1,9,10] 1 ?_))))
       exact⟨a2,Nat.lt_succ_self _,(ZI (o - (1:Int))),hF,by kernel_rfl,by kernel_rfl⟩
      ·refine AWP.exit (LeQ.start (LeQ.pk [0,1,9,10] 1 ?_))
       have hr:=someb hF
       subst hr
       exact⟨rfl,by kernel_rfl,by kernel_rfl⟩
    ·rintro _ _ _ ⟨rfl,rfl,rfl⟩
     refine AWP.seq (AWP.seq (AWP.rg0 [] [(0,(.vw 0 0 c)),(1,(i64 a)),(9,(i64 d)),(10,(i64 g)),(64,(vb (decide (d > g))))] ?_))
     refine AWP.cif hF (fun d9 hF=>?_) (fun d9 hF=>?_)
     ·refine AWP.exit (LeQ.start (LeQ.pk [9] 1 ?_))
      exact⟨rfl,f,d,(someb hF).symm,by kernel_rfl,by kernel_rfl⟩
     ·refine AWP.skip (AWP.seq ?_)
      obtain⟨a3,b6,hF⟩:=bindb hF
      obtain⟨a4,b7,hF⟩:=bindb hF
      obtain⟨e2,b8,hF⟩:=bindb hF
      obtain⟨e3,b9,hF⟩:=bindb hF
      refine AWP.dr [(6,.idxV (Zs b6)),(7,.ldV Zc (s:=1) (fun _=>rfl) b (Zr b6) (0 + Int.toNat g * 1) (Nat.zero_add _) []),(10,.idxV (Zs b7)),(11,.ldV Zc (s:=1) (fun _=>rfl) b (Zr b7) (0 + Int.toNat d * 1) (Nat.zero_add _) []),(12,.idxV (Zs b8)),(13,.stV Zc (s:=1) (fun _=>rfl) b (Zr b8) a3 (0 + Int.toNat d * 1) (Nat.zero_add _) []),(14,.idxV (Zs b9)),(15,.stV Zc (s:=1) (fun _=>rfl) b (Zr b9) a4 (0 + Int.toNat g * 1) (Nat.zero_add _) [])] 14 [] [13] [] [(0,(.vw 0 0 c)),(1,(i64 a)),(9,(i64 d)),(10,(i64 g))] [.cells (cel Zc (List.set (List.set f (Int.toNat d) a3) (Int.toNat g) a4) b)] (AWP.seq (AWP.rg0 [] [(0,(.vw 0 0 c)),(1,(i64 a)),(9,(i64 (ZI (d + (1:Int))))),(10,(i64 g))] (AWP.rg0 [] [(0,(.vw 0 0 c)),(1,(i64 a)),(9,(i64 (ZI (d + (1:Int))))),(10,(i64 (ZI (g - (1:Int)))))] (LeQ.start (LeQ.pk [0,1,9,10] 1 ?_)))))
      exact⟨a0,Nat.lt_succ_self _,(List.set (List.set f (Int.toNat d) a3) (Int.toNat g) a4),(ZI (d + (1:Int))),(ZI (g - (1:Int))),hF,by kernel_rfl,by kernel_rfl⟩
 ·rintro _ _ _ ⟨rfl,z,t,rfl,rfl,rfl⟩
  refine AWP.seq (AWP.rg0 [] [(8,(i64 t))] (AWP.ret ?_))
  have hr:=someb hF
  subst hr
  exact(FnQ.f0 1 (.inr rfl))
def Zis (a:List Value) (r:(Int × Bool × (List Int))):PV→List Blk→Prop:=fun p K=>p=(.tup [(i64 r.1),(vb r.2.1)])∧K=[.cells (cel Zc r.2.2 a)]
theorem Zit (c:Nat) (j:(List Int)) (b:List Value) (a:Int) (p:Int) (d:Int) (r:(Int × Bool × (List Int))) (hF:Zcg c j a p d=some r):ACall Tryz.prog glob 168 [(.vw 0 0 c),(i64 a),(i64 p),(i64 d)] [.cells (cel Zc j b)] (Zis b r):=by
 refine ACall.body Tryz.func168 rfl (by kernel_rfl) ?_
 unfold Zcg at hF
 refine AWP.seq (AWP.rg0 [] [(0,(.vw 0 0 c)),(1,(i64 a)),(2,(i64 p)),(3,(i64 d))] (AWP.seq ?_))
 obtain⟨l,b7,hF⟩:=bindb hF
 obtain⟨m,b8,hF⟩:=bindb hF
 obtain⟨j4,b9,hF⟩:=bindb hF
 obtain⟨j5,c0,hF⟩:=bindb hF
 refine AWP.dr [(6,.idxV (Zs b7)),(7,.ldV Zc (s:=1) (fun _=>rfl) b (Zr b7) (0 + Int.toNat d * 1) (Nat.zero_add _) []),(10,.idxV (Zs b8)),(11,.ldV Zc (s:=1) (fun _=>rfl) b (Zr b8) (0 + Int.toNat a * 1) (Nat.zero_add _) []),(12,.idxV (Zs b9)),(13,.stV Zc (s:=1) (fun _=>rfl) b (Zr b9) l (0 + Int.toNat a * 1) (Nat.zero_add _) []),(14,.idxV (Zs c0)),(15,.stV Zc (s:=1) (fun _=>rfl) b (Zr c0) m (0 + Int.toNat d * 1) (Nat.zero_add _) [])] 14 [] [13] [] [(0,(.vw 0 0 c)),(1,(i64 a)),(2,(i64 p))] [.cells (cel Zc (List.set (List.set j (Int.toNat a) l) (Int.toNat d) m) b)] (AWP.seq (AWP.rg0 [] [(0,(.vw 0 0 c)),(1,(i64 a)),(10,(i64 (ZI (a + (1:Int))))),(11,(i64 (ZI (p - (1:Int)))))] (AWP.seq ?_)))
 obtain⟨f,f5,hF⟩:=bindb hF
 refine AWP.mid (fun e st H=>e=.normal∧st=[(0,(.vw 0 0 c)),(1,(i64 a)),(10,(i64 f)),(11,(i64 (ZI (p - (1:Int)))))]∧H=[.cells (cel Zc (List.set (List.set j (Int.toNat a) l) (Int.toNat d) m) b)]) ?_ ?_
 ·clear hF
  refine AWP.kp [0,1,10,11] 1 ?_
  refine AWP.bround (fun n st H=>∃ y,Zbe c j a p d l m n y=some f∧st=[(0,(.vw 0 0 c)),(1,(i64 a)),(10,(i64 y)),(11,(i64 (ZI (p - (1:Int)))))]∧H=[.cells (cel Zc (List.set (List.set j (Int.toNat a) l) (Int.toNat d) m) b)]) fuel ⟨(ZI (a + (1:Int))),f5,by kernel_rfl,by kernel_rfl⟩ ?_
  rintro a8 st H ⟨y,hF,rfl,rfl⟩
  cases a8 with
  | zero=>exact noneb hF
  | succ a8=>
   rw [Zbe] at hF
   refine AWP.seq (AWP.seq ?_)
   obtain⟨f6,a2,hF⟩:=bindb hF
   replace a2:=someb a2
   obtain⟨f7,c1,hF⟩:=bindb hF
   refine AWP.to [(0,(.vw 0 0 c)),(1,(i64 a)),(10,(i64 y)),(11,(i64 (ZI (p - (1:Int))))),(43,(vb f7))] [.cells (cel Zc (List.set (List.set j (Int.toNat a) l) (Int.toNat d) m) b)] ?_ ?_
   ·cases f6 with
    | false=>
     have f8:=someb (ifF c1 rfl)
     subst f8
     exact AWP.drT [(3,.bool a2)] 14 [] [] []
    | true=>
     have q:=ifT c1 rfl
     obtain⟨f9,c2,q⟩:=bindb q
     obtain⟨g0,c3,q⟩:=bindb q
     obtain⟨g1,g2,q⟩:=bindb q
     replace q:=someb q
     subst q
     exact AWP.drT [(3,.bool a2),(6,.idxV (Zs c2)),(7,.ldV Zc (s:=1) (fun _=>rfl) b (Zr c2) (0 + Int.toNat y * 1) (Nat.zero_add _) []),(10,.idxV (Zs c3)),(11,.ldV Zc (s:=1) (fun _=>rfl) b (Zr c3) (0 + Int.toNat a * 1) (Nat.zero_add _) []),(12,.call Tryz.func166 [] (Za8 f9 g0 g1 g2))] 14 [] [] []
   refine AWP.cif hF (fun g3 hF=>?_) (fun g3 hF=>?_)
   ·refine AWP.skip (AWP.block (AWP.rg0 [] [(0,(.vw 0 0 c)),(1,(i64 a)),(10,(i64 (ZI (y + (1:Int))))),(11,(i64 (ZI (p - (1:Int)))))] (LeQ.start (LeQ.pk [0,1,10,11] 1 ?_))))
    exact⟨a8,Nat.lt_succ_self _,(ZI (y + (1:Int))),hF,by kernel_rfl,by kernel_rfl⟩
   ·refine AWP.exit (LeQ.start (LeQ.pk [0,1,10,11] 1 ?_))
    have hr:=someb hF
    subst hr
    exact⟨rfl,by kernel_rfl,by kernel_rfl⟩
 ·rintro _ _ _ ⟨rfl,rfl,rfl⟩
  refine AWP.seq ?_
  obtain⟨g,g4,hF⟩:=bindb hF
  refine AWP.mid (fun e st H=>e=.normal∧st=[(0,(.vw 0 0 c)),(1,(i64 a)),(10,(i64 f)),(11,(i64 g))]∧H=[.cells (cel Zc (List.set (List.set j (Int.toNat a) l) (Int.toNat d) m) b)]) ?_ ?_
  ·clear hF
   refine AWP.kp [0,1,10,11] 1 ?_
   refine AWP.bround (fun n st H=>∃ z,Zbf c j a d l m f n z=some g∧st=[(0,(.vw 0 0 c)),(1,(i64 a)),(10,(i64 f)),(11,(i64 z))]∧H=[.cells (cel Zc (List.set (List.set j (Int.toNat a) l) (Int.toNat d) m) b)]) fuel ⟨(ZI (p - (1:Int))),g4,by kernel_rfl,by kernel_rfl⟩ ?_
   rintro a9 st H ⟨z,hF,rfl,rfl⟩
   cases a9 with
   | zero=>exact noneb hF
   | succ a9=>
    rw [Zbf] at hF
    refine AWP.seq (AWP.seq ?_)
    obtain⟨g5,a3,hF⟩:=bindb hF
    replace a3:=someb a3
    obtain⟨g6,c4,hF⟩:=bindb hF
    refine AWP.to [(0,(.vw 0 0 c)),(1,(i64 a)),(10,(i64 f)),(11,(i64 z)),(60,(vb g6))] [.cells (cel Zc (List.set (List.set j (Int.toNat a) l) (Int.toNat d) m) b)] ?_ ?_
    ·cases g5 with
     | false=>
      have g7:=someb (ifF c4 rfl)
      subst g7
      exact AWP.drT [(3,.bool a3)] 15 [] [] []
     | true=>
      have t:=ifT c4 rfl
      obtain⟨g8,c5,t⟩:=bindb t
      obtain⟨g9,c6,t⟩:=bindb t
      obtain⟨h0,h1,t⟩:=bindb t
      replace t:=someb t
      subst t
      exact AWP.drT [(3,.bool a3),(6,.idxV (Zs c5)),(7,.ldV Zc (s:=1) (fun _=>rfl) b (Zr c5) (0 + Int.toNat z * 1) (Nat.zero_add _) []),(10,.idxV (Zs c6)),(11,.ldV Zc (s:=1) (fun _=>rfl) b (Zr c6) (0 + Int.toNat a * 1) (Nat.zero_add _) []),(12,.call Tryz.func166 [] (Za8 g8 g9 h0 h1))] 15 [] [] []
    refine AWP.cif hF (fun h2 hF=>?_) (fun h2 hF=>?_)
    ·refine AWP.skip (AWP.block (AWP.rg0 [] [(0,(.vw 0 0 c)),(1,(i64 a)),(10,(i64 f)),(11,(i64 (ZI (z - (1:Int)))))] (LeQ.start (LeQ.pk [0,1,10,11] 1 ?_))))
     exact⟨a9,Nat.lt_succ_self _,(ZI (z - (1:Int))),hF,by kernel_rfl,by kernel_rfl⟩
    ·refine AWP.exit (LeQ.start (LeQ.pk [0,1,10,11] 1 ?_))
     have hr:=someb hF
     subst hr
     exact⟨rfl,by kernel_rfl,by kernel_rfl⟩
  ·rintro _ _ _ ⟨rfl,rfl,rfl⟩
   refine AWP.seq (AWP.seq (AWP.rg0 [] [(0,(.vw 0 0 c)),(1,(i64 a)),(10,(i64 f)),(11,(i64 g)),(65,(vb (decide (f > g))))] ?_))
   refine AWP.cif hF (fun h3 hF=>?_) (fun h3 hF=>?_)
   ·refine AWP.seq ?_
    obtain⟨c7,c8,hF⟩:=bindb hF
    obtain⟨c9,d0,hF⟩:=bindb hF
    obtain⟨j6,d1,hF⟩:=bindb hF
    obtain⟨j7,d2,hF⟩:=bindb hF
    refine AWP.dr [(6,.idxV (Zs c8)),(7,.ldV Zc (s:=1) (fun _=>rfl) b (Zr c8) (0 + Int.toNat a * 1) (Nat.zero_add _) []),(10,.idxV (Zs d0)),(11,.ldV Zc (s:=1) (fun _=>rfl) b (Zr d0) (0 + Int.toNat g * 1) (Nat.zero_add _) []),(12,.idxV (Zs d1)),(13,.stV Zc (s:=1) (fun _=>rfl) b (Zr d1) c7 (0 + Int.toNat g * 1) (Nat.zero_add _) []),(14,.idxV (Zs d2)),(15,.stV Zc (s:=1) (fun _=>rfl) b (Zr d2) c9 (0 + Int.toNat a * 1) (Nat.zero_add _) [])] 14 [] [13] [] [(11,(i64 g))] [.cells (cel Zc (List.set (List.set (List.set (List.set j (Int.toNat a) l) (Int.toNat d) m) (Int.toNat g) c7) (Int.toNat a) c9) b)] (AWP.seq (AWP.rg0 [] [(8,(i64 g)),(9,(vb true))] (AWP.ret ?_)))
    have hr:=someb hF
    subst hr
    exact(FnQ.f0 1 (.inr rfl))
   ·refine AWP.skip (AWP.seq ?_)
    obtain⟨b0,d3,hF⟩:=bindb hF
    obtain⟨b1,d4,hF⟩:=bindb hF
    obtain⟨j8,d5,hF⟩:=bindb hF
    obtain⟨j9,d6,hF⟩:=bindb hF
    refine AWP.dr [(6,.idxV (Zs d3)),(7,.ldV Zc (s:=1) (fun _=>rfl) b (Zr d3) (0 + Int.toNat g * 1) (Nat.zero_add _) []),(10,.idxV (Zs d4)),(11,.ldV Zc (s:=1) (fun _=>rfl) b (Zr d4) (0 + Int.toNat f * 1) (Nat.zero_add _) []),(12,.idxV (Zs d5)),(13,.stV Zc (s:=1) (fun _=>rfl) b (Zr d5) b0 (0 + Int.toNat f * 1) (Nat.zero_add _) []),(14,.idxV (Zs d6)),(15,.stV Zc (s:=1) (fun _=>rfl) b (Zr d6) b1 (0 + Int.toNat g * 1) (Nat.zero_add _) [])] 14 [] [13] [] [(0,(.vw 0 0 c)),(1,(i64 a)),(10,(i64 f)),(11,(i64 g))] [.cells (cel Zc (List.set (List.set (List.set (List.set j (Int.toNat a) l) (Int.toNat d) m) (Int.toNat f) b0) (Int.toNat g) b1) b)] (AWP.seq (AWP.rg0 [] [(0,(.vw 0 0 c)),(1,(i64 a)),(10,(i64 (ZI (f + (1:Int))))),(11,(i64 g))] (AWP.seq (AWP.rg0 [] [(0,(.vw 0 0 c)),(1,(i64 a)),(10,(i64 (ZI (f + (1:Int))))),(11,(i64 (ZI (g - (1:Int)))))] (AWP.seq ?_)))))
    obtain⟨d7,h4,hF⟩:=bindb hF
    refine AWP.mid (fun e st H=>(e=.normal∧∃ a4,∃ x,d7=(a4,x)∧st=[(0,(.vw 0 0 c)),(1,(i64 a)),(11,(i64 x))]∧H=[.cells (cel Zc a4 b)])) ?_ ?_
    ·clear hF
     refine AWP.kp [0,1,10,11] 1 ?_
     refine AWP.bround (fun n st H=>∃ k,∃ a5,∃ u,Zau c a n k a5 u=some d7∧st=[(0,(.vw 0 0 c)),(1,(i64 a)),(10,(i64 a5)),(11,(i64 u))]∧H=[.cells (cel Zc k b)]) fuel ⟨(List.set (List.set (List.set (List.set j (Int.toNat a) l) (Int.toNat d) m) (Int.toNat f) b0) (Int.toNat g) b1),(ZI (f + (1:Int))),(ZI (g - (1:Int))),h4,by kernel_rfl,by kernel_rfl⟩ ?_
     rintro b2 st H ⟨k,a5,u,hF,rfl,rfl⟩
     cases b2 with
     | zero=>exact noneb hF
     | succ b2=>
      rw [Zau] at hF
      refine AWP.block (AWP.seq ?_)
      obtain⟨i,h5,hF⟩:=bindb hF
      refine AWP.mid (fun e st H=>e=.normal∧st=[(0,(.vw 0 0 c)),(1,(i64 a)),(10,(i64 i)),(11,(i64 u))]∧H=[.cells (cel Zc k b)]) ?_ ?_
      ·clear hF
       refine AWP.kp [0,1,10,11] 1 ?_
       refine AWP.bround (fun n st H=>∃ a0,Zbg c a k u n a0=some i∧st=[(0,(.vw 0 0 c)),(1,(i64 a)),(10,(i64 a0)),(11,(i64 u))]∧H=[.cells (cel Zc k b)]) fuel ⟨a5,h5,by kernel_rfl,by kernel_rfl⟩ ?_
       rintro b3 st H ⟨a0,hF,rfl,rfl⟩
       cases b3 with
       | zero=>exact noneb hF
       | succ b3=>
        rw [Zbg] at hF
        refine AWP.seq (AWP.seq ?_)
        obtain⟨h6,a6,hF⟩:=bindb hF
        replace a6:=someb a6
        obtain⟨h7,d8,hF⟩:=bindb hF
        refine AWP.to [(0,(.vw 0 0 c)),(1,(i64 a)),(10,(i64 a0)),(11,(i64 u)),(112,(vb h7))] [.cells (cel Zc k b)] ?_ ?_
        ·cases h6 with
         | false=>
          have h8:=someb (ifF d8 rfl)
          subst h8
          exact AWP.drT [(3,.bool a6)] 14 [] [] []
         | true=>
          have v:=ifT d8 rfl
          obtain⟨h9,d9,v⟩:=bindb v
          obtain⟨i0,e0,v⟩:=bindb v
          obtain⟨i1,i2,v⟩:=bindb v
          replace v:=someb v
          subst v
          exact AWP.drT [(3,.bool a6),(6,.idxV (Zs d9)),(7,.ldV Zc (s:=1) (fun _=>rfl) b (Zr d9) (0 + Int.toNat a0 * 1) (Nat.zero_add _) []),(10,.idxV (Zs e0)),(11,.ldV Zc (s:=1) (fun _=>rfl) b (Zr e0) (0 + Int.toNat a * 1) (Nat.zero_add _) []),(12,.call Tryz.func166 [] (Za8 h9 i0 i1 i2))] 14 [] [] []
        refine AWP.cif hF (fun i3 hF=>?_) (fun i3 hF=>?_)
        ·refine AWP.skip (AWP.block (AWP.rg0 [] [(0,(.vw 0 0 c)),(1,(i64 a)),(10,(i64 (ZI (a0 + (1:Int))))),(11,(i64 u))] (LeQ.start (LeQ.pk [0,1,10,11] 1 ?_))))
         exact⟨b3,Nat.lt_succ_self _,(ZI (a0 + (1:Int))),hF,by kernel_rfl,by kernel_rfl⟩
        ·refine AWP.exit (LeQ.start (LeQ.pk [0,1,10,11] 1 ?_))
         have hr:=someb hF
         subst hr
         exact⟨rfl,by kernel_rfl,by kernel_rfl⟩
      ·rintro _ _ _ ⟨rfl,rfl,rfl⟩
       refine AWP.seq ?_
       obtain⟨o,i4,hF⟩:=bindb hF
       refine AWP.mid (fun e st H=>e=.normal∧st=[(0,(.vw 0 0 c)),(1,(i64 a)),(10,(i64 i)),(11,(i64 o))]∧H=[.cells (cel Zc k b)]) ?_ ?_
       ·clear hF
        refine AWP.kp [0,1,10,11] 1 ?_
        refine AWP.bround (fun n st H=>∃ a1,Zbh c a k i n a1=some o∧st=[(0,(.vw 0 0 c)),(1,(i64 a)),(10,(i64 i)),(11,(i64 a1))]∧H=[.cells (cel Zc k b)]) fuel ⟨u,i4,by kernel_rfl,by kernel_rfl⟩ ?_
        rintro b4 st H ⟨a1,hF,rfl,rfl⟩
        cases b4 with
        | zero=>exact noneb hF
        | succ b4=>
         rw [Zbh] at hF
         refine AWP.seq (AWP.seq ?_)
         obtain⟨i5,a7,hF⟩:=bindb hF
         replace a7:=someb a7
         obtain⟨i6,e1,hF⟩:=bindb hF
         refine AWP.to [(0,(.vw 0 0 c)),(1,(i64 a)),(10,(i64 i)),(11,(i64 a1)),(129,(vb i6))] [.cells (cel Zc k b)] ?_ ?_
         ·cases i5 with
          | false=>
           have i7:=someb (ifF e1 rfl)
           subst i7
           exact AWP.drT [(3,.bool a7)] 15 [] [] []
          | true=>
           have w:=ifT e1 rfl
           obtain⟨i8,e2,w⟩:=bindb w
           obtain⟨i9,e3,w⟩:=bindb w
           obtain⟨j0,j1,w⟩:=bindb w
           replace w:=someb w
           subst w
           exact AWP.drT [(3,.bool a7),(6,.idxV (Zs e2)),(7,.ldV Zc (s:=1) (fun _=>rfl) b (Zr e2) (0 + Int.toNat a1 * 1) (Nat.zero_add _) []),(10,.idxV (Zs e3)),(11,.ldV Zc (s:=1) (fun _=>rfl) b (Zr e3) (0 + Int.toNat a * 1) (Nat.zero_add _) []),(12,.call Tryz.func166 [] (Za8 i8 i9 j0 j1))] 15 [] [] []
         refine AWP.cif hF (fun j2 hF=>?_) (fun j2 hF=>?_)
         ·refine AWP.skip (AWP.block (AWP.rg0 [] [(0,(.vw 0 0 c)),(1,(i64 a)),(10,(i64 i)),(11,(i64 (ZI (a1 - (1:Int)))))] (LeQ.start (LeQ.pk [0,1,10,11] 1 ?_))))
          exact⟨b4,Nat.lt_succ_self _,(ZI (a1 - (1:Int))),hF,by kernel_rfl,by kernel_rfl⟩
         ·refine AWP.exit (LeQ.start (LeQ.pk [0,1,10,11] 1 ?_))
          have hr:=someb hF
          subst hr
          exact⟨rfl,by kernel_rfl,by kernel_rfl⟩
       ·rintro _ _ _ ⟨rfl,rfl,rfl⟩
        refine AWP.seq (AWP.seq (AWP.rg0 [] [(0,(.vw 0 0 c)),(1,(i64 a)),(10,(i64 i)),(11,(i64 o)),(134,(vb (decide (i > o))))] ?_))
        refine AWP.cif hF (fun j3 hF=>?_) (fun j3 hF=>?_)
        ·refine AWP.exit (LeQ.start (LeQ.pk [0,1,11] 1 ?_))
         exact⟨rfl,k,o,(someb hF).symm,by kernel_rfl,by kernel_rfl⟩
        ·refine AWP.skip (AWP.seq ?_)
         obtain⟨b5,e4,hF⟩:=bindb hF
         obtain⟨b6,e5,hF⟩:=bindb hF
         obtain⟨k0,e6,hF⟩:=bindb hF
         obtain⟨k1,e7,hF⟩:=bindb hF
         refine AWP.dr [(6,.idxV (Zs e4)),(7,.ldV Zc (s:=1) (fun _=>rfl) b (Zr e4) (0 + Int.toNat o * 1) (Nat.zero_add _) []),(10,.idxV (Zs e5)),(11,.ldV Zc (s:=1) (fun _=>rfl) b (Zr e5) (0 + Int.toNat i * 1) (Nat.zero_add _) []),(12,.idxV (Zs e6)),(13,.stV Zc (s:=1) (fun _=>rfl) b (Zr e6) b5 (0 + Int.toNat i * 1) (Nat.zero_add _) []),(14,.idxV (Zs e7)),(15,.stV Zc (s:=1) (fun _=>rfl) b (Zr e7) b6 (0 + Int.toNat o * 1) (Nat.zero_add _) [])] 14 [] [13] [] [(0,(.vw 0 0 c)),(1,(i64 a)),(10,(i64 i)),(11,(i64 o))] [.cells (cel Zc (List.set (List.set k (Int.toNat i) b5) (Int.toNat o) b6) b)] (AWP.seq (AWP.rg0 [] [(0,(.vw 0 0 c)),(1,(i64 a)),(10,(i64 (ZI (i + (1:Int))))),(11,(i64 o))] (AWP.rg0 [] [(0,(.vw 0 0 c)),(1,(i64 a)),(10,(i64 (ZI (i + (1:Int))))),(11,(i64 (ZI (o - (1:Int)))))] (LeQ.start (LeQ.pk [0,1,10,11] 1 ?_)))))
         exact⟨b2,Nat.lt_succ_self _,(List.set (List.set k (Int.toNat i) b5) (Int.toNat o) b6),(ZI (i + (1:Int))),(ZI (o - (1:Int))),hF,by kernel_rfl,by kernel_rfl⟩
    ·rintro _ _ _ ⟨rfl,a4,x,rfl,rfl,rfl⟩
     refine AWP.seq ?_
     obtain⟨e8,e9,hF⟩:=bindb hF
     obtain⟨f1,f2,hF⟩:=bindb hF
     obtain⟨k2,f3,hF⟩:=bindb hF
     obtain⟨k3,f4,hF⟩:=bindb hF
     refine AWP.dr [(6,.idxV (Zs e9)),(7,.ldV Zc (s:=1) (fun _=>rfl) b (Zr e9) (0 + Int.toNat a * 1) (Nat.zero_add _) []),(10,.idxV (Zs f2)),(11,.ldV Zc (s:=1) (fun _=>rfl) b (Zr f2) (0 + Int.toNat x * 1) (Nat.zero_add _) []),(12,.idxV (Zs f3)),(13,.stV Zc (s:=1) (fun _=>rfl) b (Zr f3) e8 (0 + Int.toNat x * 1) (Nat.zero_add _) []),(14,.idxV (Zs f4)),(15,.stV Zc (s:=1) (fun _=>rfl) b (Zr f4) f1 (0 + Int.toNat a * 1) (Nat.zero_add _) [])] 14 [] [13] [] [(11,(i64 x))] [.cells (cel Zc (List.set (List.set a4 (Int.toNat x) e8) (Int.toNat a) f1) b)] (AWP.seq (AWP.rg0 [] [(8,(i64 x)),(9,(vb false))] (AWP.ret ?_)))
     have hr:=someb hF
     subst hr
     exact(FnQ.f0 1 (.inr rfl))
end Go.AM

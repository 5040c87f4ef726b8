/- Parts of a proof, printed short. No condition. -/
import Derived.Test.YtdpogkakaeeccaaGreatDoorProg
import Derived.Test.YtdpogkakaeeccaaGreatDoorCaQ2
set_option maxRecDepth 100000
namespace Go.AM
open Go
structure Arr4 (α:Type) where
 x0:α
 x1:α
 x2:α
 x3:α
def Arr4.get {α:Type} (a:Arr4 α) (i:Int):α:=if i=0 then a.x0 else if i=1 then a.x1 else if i=2 then a.x2 else a.x3
def Arr4.set {α:Type} (a:Arr4 α) (i:Int) (v:α):Arr4 α:=if i=0 then { a with x0:=v } else if i=1 then { a with x1:=v } else if i=2 then { a with x2:=v } else { a with x3:=v }
structure Arr5 (α:Type) where
 x0:α
 x1:α
 x2:α
 x3:α
 x4:α
def Arr5.get {α:Type} (a:Arr5 α) (i:Int):α:=if i=0 then a.x0 else if i=1 then a.x1 else if i=2 then a.x2 else if i=3 then a.x3 else a.x4
def Arr5.set {α:Type} (a:Arr5 α) (i:Int) (v:α):Arr5 α:=if i=0 then { a with x0:=v } else if i=1 then { a with x1:=v } else if i=2 then { a with x2:=v } else if i=3 then { a with x3:=v } else { a with x4:=v }
def Znb (x:(Arr5 Int)):List PV:=[.sc (.int .u32 x.x0),.sc (.int .u32 x.x1),.sc (.int .u32 x.x2),.sc (.int .u32 x.x3),.sc (.int .u32 x.x4)]
def Zso (x:(List Int)):List PV:=[.sl 1 (List.map Z5 x)]
def Zl9 (x:(List Int)):Prop:=x.length≤9223372036854775807∧∀ y∈x,Zmz y
structure Zd where
 f_l:(List Int)
 f_i:Int
def Ze (x:Zd):List PV:=[.sl 1 (List.map Z5 x.f_l),.sc (.int .i64 x.f_i)]
structure Zb where
 Lo:Int
 Hi:Int
abbrev ZB:=Arr5 Zb
abbrev ZL:=List (Arr5 Zb)
def Zf (x:Zb):List PV:=[.sc (.int .u32 x.Lo),.sc (.int .u32 x.Hi)]
def Zp8 (x:Zb):List Value:=[.int .u32 x.Lo,.int .u32 x.Hi]
def Zgr (x:Zb):PV:=.sc (.agg ⟨Zp8 x⟩)
def Zb7 (x y:Zb):Bool:=((x.Lo == y.Lo) && ((x.Hi == y.Hi) && true))
def Zt:Zb:=Zb.mk (0:Int) (0:Int)
def Za (x:(Arr5 Zb)):List PV:=[.sc (.int .u32 x.x0.Lo),.sc (.int .u32 x.x0.Hi),.sc (.int .u32 x.x1.Lo),.sc (.int .u32 x.x1.Hi),.sc (.int .u32 x.x2.Lo),.sc (.int .u32 x.x2.Hi),.sc (.int .u32 x.x3.Lo),.sc (.int .u32 x.x3.Hi),.sc (.int .u32 x.x4.Lo),.sc (.int .u32 x.x4.Hi)]
def Znc (x:(Arr5 Zb)):List Value:=[.int .u32 x.x0.Lo,.int .u32 x.x0.Hi,.int .u32 x.x1.Lo,.int .u32 x.x1.Hi,.int .u32 x.x2.Lo,.int .u32 x.x2.Hi,.int .u32 x.x3.Lo,.int .u32 x.x3.Hi,.int .u32 x.x4.Lo,.int .u32 x.x4.Hi]
def Za6 (x:(Arr5 Zb)):PV:=.sc (.agg ⟨Znc x⟩)
def Zdq (x y:(Arr5 Zb)):Bool:=((Zb7 x.x0 y.x0) && ((Zb7 x.x1 y.x1) && ((Zb7 x.x2 y.x2) && ((Zb7 x.x3 y.x3) && ((Zb7 x.x4 y.x4) && true)))))
def Zo:(Arr5 Zb):=Arr5.mk Zt Zt Zt Zt Zt
structure Za0 where
 Addr:Int
 Bits:Int
def Zb0 (x:Za0):List PV:=[.sc (.int .u32 x.Addr),.sc (.int .i64 x.Bits)]
def Zpm (x:Za0):List Value:=[.int .u32 x.Addr,.int .i64 x.Bits]
def Zhn (x:Za0):PV:=.sc (.agg ⟨Zpm x⟩)
def Zp9:Za0:=Za0.mk (0:Int) (0:Int)
def Z4 (x:(List (Arr5 Zb))):List PV:=[.sl 10 (List.map Za x)]
structure Zl where
 Hi:Int
 Lo:Int
def Zj (x:Zl):List PV:=[.sc (.int .u64 x.Hi),.sc (.int .u64 x.Lo)]
def Zqa (x:Zl):List Value:=[.int .u64 x.Hi,.int .u64 x.Lo]
def Zc4 (x:Zl):PV:=.sc (.agg ⟨Zqa x⟩)
def Zh2 (x y:Zl):Bool:=((x.Hi == y.Hi) && ((x.Lo == y.Lo) && true))
def Za3:Zl:=Zl.mk (0:Int) (0:Int)
structure Zh where
 f_values:Zb
 f_rest:(List (Arr5 Zb))
def Zg (x:Zh):List PV:=[.sc (.int .u32 x.f_values.Lo),.sc (.int .u32 x.f_values.Hi),.sl 10 (List.map Za x.f_rest)]
def Zd3:Zh:=Zh.mk Zt ([]:(List (Arr5 Zb)))
structure Znd where
 Src:Int
 Dst:Int
 Proto:Int
 SrcPort:Int
 DstPort:Int
def Zdz:(Arr5 Int):=Arr5.mk 4294967295 4294967295 255 65535 65535
abbrev ZI:Int→Int:=IntKind.wrap .i64
end Go.AM
set_option maxRecDepth 100000
namespace Go.AM
open Go
def Zfx:Option Bool:=
 some true
def Zgs (a:(List Int)):Option Zd:=
 some (Zd.mk a (0:Int))
def Ze5 (b:Int) (a:Int):Option Int:=
 if (IntKind.wrap .u64 a) ≠ 0 then
 some (IntKind.wrap .i64 (Int.tmod (IntKind.wrap .u64 b) (IntKind.wrap .u64 a)))
 else none
def Zy (a:Zd) (b:Int):Option (Int × Zd):=
 (some (decide (b≤(1:Int)))).bind fun b1=>
 if (b1 || (decide (a.f_i ≥ (List.length a.f_l:Int))))=true then
  some ((0:Int),a)
 else
  (idx a.f_l (IntKind.wrap .i64 ((IntKind.wrap .i64 (a.f_i + (1:Int))) - (1:Int)))).bind fun c=>
  (Ze5 c b).bind fun d=>
  some (d,({ a with f_i:=(IntKind.wrap .i64 (a.f_i + (1:Int))) }:Zd))
def Zd0 (a:Int):Option Int:=
 ((if (a == (0:Int))=true then
  some (a == (0:Int))
 else
  some (a == (1:Int))).bind fun b=>
  if b=true then
   some (.inr (4294967295:Int))
  else
   if (a == (2:Int))=true then
    some (.inr (255:Int))
   else
    (if (a == (3:Int))=true then
     some (a == (3:Int))
    else
     some (a == (4:Int))).bind fun c=>
     if c=true then
      some (.inr (65535:Int))
     else
      some (.inl ())).bind fun(d:(Unit ⊕ Int))=>
 match d with
 | .inl ()=>
   some (0:Int)
 | .inr f=>
   some f
def Ze2:Nat→ZB→Int→Option ZB
 | 0,_,_=>none
 | c+1,b,a=>
  if (decide (a<(5:Int)))=true then
   (Zd0 a).bind fun d=>
   if 0≤a∧a<5 then
   Ze2 c (Arr5.set b a ({ (Arr5.get b a) with Hi:=d }:Zb)) (IntKind.wrap .i64 (a + (1:Int)))
   else none
  else
   some b
def Zfy:Option ZB:=
 (Ze2 fuel Zo (0:Int)).bind fun a=>
  some a
def Zdr (a:Int):Option Za0:=
 (Ze5 a (6:Int)).bind fun b=>
 (idx [(Za0.mk (167772160:Int) (24:Int)),(Za0.mk (167772416:Int) (24:Int)),(Za0.mk (167772672:Int) (25:Int)),(Za0.mk (167772800:Int) (26:Int)),(Za0.mk (2886729728:Int) (16:Int)),(Za0.mk (3232237321:Int) (32:Int))] b).bind fun c=>
 some c
def Zfz (a:Int):Option Int:=
 if 0≤(IntKind.wrap .u64 (IntKind.wrap .i64 ((32:Int) - a))) then
 some (bShl .u64 (1:Int) (IntKind.wrap .u64 (IntKind.wrap .i64 ((32:Int) - a))))
 else none
def Zgt (a:Za0):Option Bool:=
 (some (decide (a.Bits ≥ (0:Int)))).bind fun b1=>
 (some (b1 && (decide (a.Bits≤(32:Int))))).bind fun c=>
 (if c=true then
  (Zfz a.Bits).bind fun b=>
  if b ≠ 0 then
  some ((Int.tmod (IntKind.wrap .u64 a.Addr) b) == (0:Int))
  else none
  else some false).bind fun d=>
 some d
def Zfn (a:Za0):Option (Zb × Bool):=
 (Zgt a).bind fun b=>
 if (!b)=true then
  some ((Zb.mk (0:Int) (0:Int)),false)
 else
  (Zfz a.Bits).bind fun c=>
  some ((Zb.mk a.Addr (IntKind.wrap .u32 (IntKind.wrap .u64 ((IntKind.wrap .u64 ((IntKind.wrap .u64 a.Addr) + c)) - (1:Int))))),true)
def Zcf (g:Zd):Option (Int × Zd):=
 (Zy g (5:Int)).bind fun b=>
 if (b.1 == (4:Int))=true then
  (Zy b.2 (6:Int)).bind fun c=>
  (idx [(0:Int),(4294967295:Int),(3405803781:Int),(3325256705:Int),(168296448:Int),(2130706433:Int)] c.1).bind fun i=>
  some (i,c.2)
 else
  (Zy b.2 (6:Int)).bind fun d=>
  (Zdr d.1).bind fun j=>
  (Zfn j).bind fun a=>
  (Zy d.2 (5:Int)).bind fun f=>
  (idx [a.1.Lo,a.1.Hi,(IntKind.wrap .u32 (a.1.Lo + (5:Int))),(IntKind.wrap .u32 (a.1.Hi + (1:Int))),(IntKind.wrap .u32 (a.1.Lo - (1:Int)))] f.1).bind fun k=>
  some (k,f.2)
def Zb3 (g:Zd):Option (Zb × Zd):=
 (Zy g (4:Int)).bind fun a=>
 if (a.1 == (0:Int))=true then
  (Zy a.2 (6:Int)).bind fun f=>
  (Zdr f.1).bind fun i=>
  (Zfn i).bind fun j=>
  some (j.1,f.2)
 else
  if (a.1 == (1:Int))=true then
   (Zcf a.2).bind fun b=>
   (Zcf b.2).bind fun c=>
   some ((Zb.mk (iMin b.1 c.1) (iMax b.1 c.1)),c.2)
  else
   if (a.1 == (2:Int))=true then
    (Zcf a.2).bind fun d=>
    some ((Zb.mk d.1 d.1),d.2)
   else
    some ((Zb.mk (0:Int) (4294967295:Int)),a.2)
def Zcm (c:Zd) (a:Int):Option (Int × Zd):=
 (Zy c (17:Int)).bind fun b=>
 (idx [(0:Int),(1:Int),(2:Int),(5:Int),(7:Int),(8:Int),(9:Int),(15:Int),(16:Int),(80:Int),(255:Int),(256:Int),(1024:Int),(65535:Int),(IntKind.wrap .u32 (Int.tdiv a (2:Int))),(IntKind.wrap .u32 (a - (1:Int))),a] b.1).bind fun d=>
 some ((iMin d a),b.2)
def Zcr (d:Zd) (c:Int):Option (Zb × Zd):=
 (Zcm d c).bind fun a=>
 (Zcm a.2 c).bind fun b=>
 some ((Zb.mk (iMin a.1 b.1) (iMax a.1 b.1)),b.2)
def Zbr:Nat→Zd→ZB→Int→Option (Zd × ZB)
 | 0,_,_,_=>none
 | m+1,c,b,d=>
  if (decide (d > (0:Int)))=true then
   ((Zy c (5:Int)).bind fun a=>
   if (a.1 == (0:Int))=true then
    (Zb3 a.2).bind fun f=>
    some (f.2,({ b with x0:=f.1 }:ZB))
   else
    if (a.1 == (1:Int))=true then
     (Zb3 a.2).bind fun g=>
     some (g.2,({ b with x1:=g.1 }:ZB))
    else
     if (a.1 == (2:Int))=true then
      (Zy a.2 (6:Int)).bind fun i=>
      (idx [(6:Int),(17:Int),(1:Int),(0:Int),(7:Int),(255:Int)] i.1).bind fun j=>
      some (i.2,({ b with x2:=(Zb.mk j j) }:ZB))
     else
      if (a.1 == (3:Int))=true then
       (Zcr a.2 (65535:Int)).bind fun k=>
       some (k.2,({ b with x3:=k.1 }:ZB))
      else
       (Zcr a.2 (65535:Int)).bind fun l=>
       some (l.2,({ b with x4:=l.1 }:ZB))).bind fun n=>
   match n with
   | (o,p)=>
    Zbr m o p (IntKind.wrap .i64 (d - (1:Int)))
  else
   some (c,b)
def Zd4 (b:Zd):Option (ZB × Zd):=
 (Zfy).bind fun c=>
 (Zy b (3:Int)).bind fun a=>
 (Zbr fuel a.2 c (IntKind.wrap .i64 ((1:Int) + a.1))).bind fun d=>
 match d with
 | (f,g)=>
  some (g,f)
def Zcs (d:Zd) (b:ZB):Option (ZB × Zd):=
 (Zy d (5:Int)).bind fun a=>
 ((Zy a.2 (3:Int)).bind fun c=>
 if (c.1 == (0:Int))=true then
  if 0≤a.1∧a.1<5 then
  if 0≤a.1∧a.1<5 then
  if 0≤a.1∧a.1<5 then
  if 0≤a.1∧a.1<5 then
  some (c.2,(Arr5.set (Arr5.set b a.1 ({ (Arr5.get b a.1) with Lo:=(Arr5.get b a.1).Hi }:Zb)) a.1 ({ (Arr5.get (Arr5.set b a.1 ({ (Arr5.get b a.1) with Lo:=(Arr5.get b a.1).Hi }:Zb)) a.1) with Hi:=(Arr5.get b a.1).Lo }:Zb)))
  else none
  else none
  else none
  else none
 else
  if (c.1 == (1:Int))=true then
   if 0≤a.1∧a.1<5 then
   some (c.2,(Arr5.set b a.1 ({ (Arr5.get b a.1) with Hi:=(4294967295:Int) }:Zb)))
   else none
  else
   if 0≤a.1∧a.1<5 then
   some (c.2,(Arr5.set b a.1 (Zb.mk (1:Int) (0:Int))))
   else none).bind fun f=>
 match f with
 | (g,i)=>
  some (i,g)
def Zbh (d:Bool):Nat→Zd→ZL→Int→Option (Zd × ZL)
 | 0,_,_,_=>none
 | l+1,f,b,g=>
  if (decide (g > (0:Int)))=true then
   ((Zd4 f).bind fun a=>
   ((some d).bind fun m=>
   (if m=true then
    (Zy a.2 (8:Int)).bind fun i=>
    some ((i.1 == (7:Int)),i.2)
    else some (false,a.2)).bind fun c=>
   if c.1=true then
    (Zcs c.2 a.1).bind fun j=>
    some (j.2,j.1)
   else
    some (c.2,a.1)).bind fun n=>
   match n with
   | (o,k)=>
    if List.length b + List.length [k]≤lim then
    some (o,(b++[k]))
    else none).bind fun p=>
   match p with
   | (q,r)=>
    Zbh d l q r (IntKind.wrap .i64 (g - (1:Int)))
  else
   some (f,b)
def Zdh (b:Zd) (c:Int) (d:Bool):Option (ZL × Zd):=
 (Zy b (IntKind.wrap .i64 (c + (1:Int)))).bind fun a=>
 (Zbh d fuel a.2 ([]:ZL) a.1).bind fun f=>
 match f with
 | (g,i)=>
  some (i,g)
def Zz (b:ZB):Nat→Int→Option (Unit ⊕ Bool)
 | 0,_=>none
 | c+1,a=>
  if (decide (a<(5:Int)))=true then
   if 0≤a∧a<5 then
   if 0≤a∧a<5 then
   (some (decide ((Arr5.get b a).Lo > (Arr5.get b a).Hi))).bind fun d=>
   (if d=true then some true else
    if 0≤a∧a<5 then
    (Zd0 a).bind fun f=>
    some (decide ((Arr5.get b a).Hi > f))
    else none
    ).bind fun g=>
   if g=true then
    some (.inr false)
   else
    Zz b c (IntKind.wrap .i64 (a + (1:Int)))
   else none
   else none
  else
   some (.inl ())
def Zds (a:ZB):Option Bool:=
 (Zz a fuel (0:Int)).bind fun(b:(Unit ⊕ Bool))=>
 match b with
 | .inl ()=>
   some true
 | .inr c=>
   some c
def Zer (c:Int) (a:Bool) (b:Bool):Option Bool:=
 if (c == (0:Int))=true then
  (some a).bind fun b1=>
  some (b1 || b)
 else
  if (c == (1:Int))=true then
   (some a).bind fun d=>
   some (d && b)
  else
   if (c == (2:Int))=true then
    (some a).bind fun f=>
    some (f && (!b))
   else
    some (!(a == b))
def Ze6 (b:Int) (a:Bool) (c:Bool):Option Bool:=
 if (b == (1:Int))=true then
  (some (!a)).bind fun b1=>
  some (b1 || (!c))
 else
  if (b == (2:Int))=true then
   some (!a)
  else
   (some (!a)).bind fun d=>
   some (d && (!c))
def Zb9 (b:ZL) (a:Int):Nat→(List Zb)→Int→Option (List Zb)
 | 0,_,_=>none
 | g+1,c,d=>
  if (decide (d<(List.length b:Int)))=true then
   (idx b d).bind fun f=>
   if 0≤a∧a<5 then
   if List.length c + List.length [(Arr5.get f a)]≤lim then
   Zb9 b a g (c++[(Arr5.get f a)]) (IntKind.wrap .i64 (d + (1:Int)))
   else none
   else none
  else
   some c
def Zca (b:ZL) (a:Int):Nat→(List Zb)→Int→Option (List Zb)
 | 0,_,_=>none
 | g+1,c,d=>
  if (decide (d<(List.length b:Int)))=true then
   (idx b d).bind fun f=>
   if 0≤a∧a<5 then
   if List.length c + List.length [(Arr5.get f a)]≤lim then
   Zca b a g (c++[(Arr5.get f a)]) (IntKind.wrap .i64 (d + (1:Int)))
   else none
   else none
  else
   some c
def Zec (b:ZL) (c:ZL) (a:Int):Option (List Zb):=
 (Zb9 b a fuel ([]:(List Zb)) (0:Int)).bind fun d=>
  (Zca c a fuel d (0:Int)).bind fun f=>
   some f
def Zcb (b:(List Int)) (c:Int):Nat→Int→Option Int
 | 0,_=>none
 | d+1,a=>
  (some (decide (a<(List.length b:Int)))).bind fun f=>
  (if f=true then
   (idx b a).bind fun g=>
   some (decide (g<c))
   else some false).bind fun i=>
  if i=true then
   Zcb b c d (IntKind.wrap .i64 (a + (1:Int)))
  else
   some a
def Zdj (a:(List Int)) (c:Int) (d:Int):Option (List Int):=
 if (decide (c > (IntKind.wrap .u64 d)))=true then
  some a
 else
  (Zcb a c fuel (0:Int)).bind fun b=>
   (some (decide (b<(List.length a:Int)))).bind fun f=>
   (if f=true then
    (idx a b).bind fun g=>
    some (g == c)
    else some false).bind fun i=>
   if i=true then
    some a
   else
    if 0≤(0:Int)∧(0:Int)≤b∧b≤(List.length a:Int) then
    if List.length ([]:(List Int)) + List.length (List.drop (Int.toNat (0:Int)) (List.take (Int.toNat b) a))≤lim then
    if List.length (([]:(List Int))++(List.drop (Int.toNat (0:Int)) (List.take (Int.toNat b) a))) + List.length [c]≤lim then
    if 0≤b∧b≤(List.length a:Int)∧(List.length a:Int)≤(List.length a:Int) then
    if List.length ((([]:(List Int))++(List.drop (Int.toNat (0:Int)) (List.take (Int.toNat b) a)))++[c]) + List.length (List.drop (Int.toNat b) (List.take (Int.toNat (List.length a:Int)) a))≤lim then
    some (((([]:(List Int))++(List.drop (Int.toNat (0:Int)) (List.take (Int.toNat b) a)))++[c])++(List.drop (Int.toNat b) (List.take (Int.toNat (List.length a:Int)) a)))
    else none
    else none
    else none
    else none
    else none
def Zcc (a:(List Zb)) (c:Int):Nat→(List Int)→Int→Option (List Int)
 | 0,_,_=>none
 | f+1,d,b=>
  if (decide (b<(List.length a:Int)))=true then
   ((idx a b).bind fun g=>
   (idx a b).bind fun i=>
   if (decide (g.Lo≤i.Hi))=true then
    (idx a b).bind fun j=>
    (Zdj d (IntKind.wrap .u64 j.Lo) c).bind fun k=>
    (idx a b).bind fun l=>
    (Zdj k (IntKind.wrap .u64 ((IntKind.wrap .u64 l.Hi) + (1:Int))) c).bind fun m=>
    some m
   else
    some d).bind fun n=>
    Zcc a c f n (IntKind.wrap .i64 (b + (1:Int)))
  else
   some d
def Zed (a:(List Zb)) (b:Int):Option (List Int):=
 (Zcc a b fuel [(0:Int)] (0:Int)).bind fun c=>
  some c
def Zc5 (b:ZL) (a:Int) (f:Int):Nat→ZL→Int→Option ZL
 | 0,_,_=>none
 | i+1,d,c=>
  if (decide (c<(List.length b:Int)))=true then
   ((idx b c).bind fun j=>
   if 0≤a∧a<5 then
   (some (decide ((IntKind.wrap .u64 (Arr5.get j a).Lo)≤f))).bind fun k=>
   (if k=true then
    (idx b c).bind fun l=>
    if 0≤a∧a<5 then
    some (decide (f≤(IntKind.wrap .u64 (Arr5.get l a).Hi)))
    else none
    else some false).bind fun m=>
   if m=true then
    (idx b c).bind fun g=>
    if List.length d + List.length [g]≤lim then
    some (d++[g])
    else none
   else
    some d
   else none).bind fun n=>
    Zc5 b a f i n (IntKind.wrap .i64 (c + (1:Int)))
  else
   some d
def Ze7 (a:ZL) (b:Int) (c:Int):Option ZL:=
 (Zc5 a b c fuel ([]:ZL) (0:Int)).bind fun d=>
  some d
def Zco (b:ZL) (c:ZL):Nat→Int→Option (Unit ⊕ Bool)
 | 0,_=>none
 | d+1,a=>
  if (decide (a<(List.length b:Int)))=true then
   (idx b a).bind fun f=>
   (idx c a).bind fun g=>
   if (!(Zdq f g))=true then
    some (.inr false)
   else
    Zco b c d (IntKind.wrap .i64 (a + (1:Int)))
  else
   some (.inl ())
def Zd9 (a:ZL) (b:ZL):Option Bool:=
 if ((List.length a:Int) != (List.length b:Int))=true then
  some false
 else
  (Zco a b fuel (0:Int)).bind fun(c:(Unit ⊕ Bool))=>
  match c with
  | .inl ()=>
    some true
  | .inr d=>
    some d
def Zcg (a:Int) (d:Int):Nat→ZL→Int→Option ZL
 | 0,_,_=>none
 | g+1,b,c=>
  if (decide (c<(List.length b:Int)))=true then
   (idx b c).bind fun f=>
   if 0≤a∧a<5 then
   Zcg a d g (List.set b (Int.toNat c) (Arr5.set f a ({ (Arr5.get f a) with Hi:=(IntKind.wrap .u32 d) }:Zb))) (IntKind.wrap .i64 (c + (1:Int)))
   else none
  else
   some b
def Zb1 (a:Int) (g:(List Int)) (i:Int) (b:Int) (c:ZL):Nat→ZL→Int→Option ZL
 | 0,_,_=>none
 | l+1,d,f=>
  if (decide (f<(List.length c:Int)))=true then
   (idx c f).bind fun j=>
   (idx g i).bind fun k=>
   if 0≤a∧a<5 then
   if List.length d + List.length [(Arr5.set j a (Zb.mk (IntKind.wrap .u32 k) (IntKind.wrap .u32 b)))]≤lim then
   Zb1 a g i b c l (d++[(Arr5.set j a (Zb.mk (IntKind.wrap .u32 k) (IntKind.wrap .u32 b)))]) (IntKind.wrap .i64 (f + (1:Int)))
   else none
   else none
  else
   some d
def Zch (g:ZL) (i:ZL) (j:Int) (b:Int) (k:ZL→ZL→Int→Int→Option ZL) (c:(List Int)):Nat→ZL→ZL→Int→Option ZL
 | 0,_,_,_=>none
 | n+1,f,l,a=>
  if (decide (a<(List.length c:Int)))=true then
   ((Zd0 b).bind fun o=>
   (if (decide ((IntKind.wrap .i64 (a + (1:Int)))<(List.length c:Int)))=true then
    (idx c (IntKind.wrap .i64 (a + (1:Int)))).bind fun p=>
    some (IntKind.wrap .u64 (p - (1:Int)))
   else
    some (IntKind.wrap .u64 o)).bind fun m=>
    (idx c a).bind fun q=>
    (Ze7 g b q).bind fun r=>
    (idx c a).bind fun s=>
    (Ze7 i b s).bind fun t=>
    (k r t j (IntKind.wrap .i64 (b + (1:Int)))).bind fun d=>
    (some (decide (a > (0:Int)))).bind fun u=>
    (some (u && (decide ((List.length d:Int) > (0:Int))))).bind fun v=>
    (if v=true then
     (Zd9 d l).bind fun w=>
     some w
     else some false).bind fun x=>
    if x=true then
     (Zcg b m fuel f (IntKind.wrap .i64 ((List.length f:Int) - (List.length d:Int)))).bind fun y=>
      some (y,l)
    else
     (Zb1 b c a m d fuel f (0:Int)).bind fun z=>
      some (z,d)).bind fun a0=>
   match a0 with
   | (a1,a2)=>
    Zch g i j b k c n a1 a2 (IntKind.wrap .i64 (a + (1:Int)))
  else
   some f
def Zbc:Nat→ZL→ZL→Int→Int→Option ZL
 | 0,_,_,_,_=>none
 | nr+1,a,b,d,c=>
  if (c == (5:Int))=true then
   (Zer d (decide ((List.length a:Int) > (0:Int))) (decide ((List.length b:Int) > (0:Int)))).bind fun f=>
   if f=true then
    some [(Arr5.mk Zt Zt Zt Zt Zt)]
   else
    some ([]:ZL)
  else
   (Ze6 d (decide ((List.length a:Int) > (0:Int))) (decide ((List.length b:Int) > (0:Int)))).bind fun g=>
   if g=true then
    some ([]:ZL)
   else
    (Zec a b c).bind fun i=>
    (Zd0 c).bind fun j=>
    (Zed i j).bind fun k=>
    (Zch a b d c (Zbc nr) k fuel ([]:ZL) ([]:ZL) (0:Int)).bind fun l=>
     some l
def Zc7 (a:ZL):Option (ZL × Int):=
 if (decide ((List.length a:Int) > (4096:Int)))=true then
  some (([]:ZL),(3:Int))
 else
  some (a,(0:Int))
def Zcp (b:ZL):Nat→ZL→Int→Option (ZL ⊕ (ZL × Int))
 | 0,_,_=>none
 | f+1,c,a=>
  if (decide (a<(List.length b:Int)))=true then
   ((idx b a).bind fun g=>
   (Zds g).bind fun i=>
   if (!i)=true then
    some (.inl c)
   else
    if 0≤a∧a≤(IntKind.wrap .i64 (a + (1:Int)))∧(IntKind.wrap .i64 (a + (1:Int)))≤(List.length b:Int) then
    (Zbc fuel c (List.drop (Int.toNat a) (List.take (Int.toNat (IntKind.wrap .i64 (a + (1:Int)))) b)) (0:Int) (0:Int)).bind fun j=>
    (Zc7 j).bind fun d=>
    if (d.2 != (0:Int))=true then
     some (.inr (([]:ZL),d.2))
    else
     some (.inl d.1)
    else none).bind fun(k:(ZL ⊕ (ZL × Int)))=>
   match k with
   | .inl l=>
     Zcp b f l (IntKind.wrap .i64 (a + (1:Int)))
   | .inr m=>
     some (.inr m)
  else
   some (.inl c)
def Zea (a:ZL):Option (ZL × Int):=
 (Zcp a fuel ([]:ZL) (0:Int)).bind fun(b:(ZL ⊕ (ZL × Int)))=>
 match b with
 | .inl c=>
   some (c,(0:Int))
 | .inr d=>
   some d
def Zc8 (b:Zd) (c:Int):Option (ZL × Zd):=
 (Zdh b c false).bind fun a=>
 (Zea a.1).bind fun d=>
 some (d.1,a.2)
def Zci (a:ZL):Nat→ZL→Int→Option ZL
 | 0,_,_=>none
 | f+1,b,c=>
  if (decide (c<(List.length a:Int)))=true then
   ((idx a c).bind fun g=>
   (Zds g).bind fun i=>
   if i=true then
    (idx a c).bind fun d=>
    if List.length b + List.length [d]≤lim then
    some (b++[d])
    else none
   else
    some b).bind fun j=>
    Zci a f j (IntKind.wrap .i64 (c + (1:Int)))
  else
   some b
def Zes (a:ZL):Option ZL:=
 (Zci a fuel ([]:ZL) (0:Int)).bind fun b=>
  some b
def Zcj (c:ZL) (d:ZL) (b:Int):Nat→Int→Option (Unit ⊕ Bool)
 | 0,_=>none
 | f+1,a=>
  if (decide (a<(5:Int)))=true then
   (idx c b).bind fun g=>
   if 0≤a∧a<5 then
   (idx d b).bind fun i=>
   if 0≤a∧a<5 then
   if (!(Zb7 (Arr5.get g a) (Arr5.get i a)))=true then
    some (.inr false)
   else
    Zcj c d b f (IntKind.wrap .i64 (a + (1:Int)))
   else none
   else none
  else
   some (.inl ())
def Zck (a:ZL) (c:ZL) (d:Int):Nat→Int→Option (Unit ⊕ Bool)
 | 0,_=>none
 | f+1,b=>
  if (decide (b<(List.length a:Int)))=true then
   (Zcj a c b fuel d).bind fun(g:(Unit ⊕ Bool))=>
   match g with
   | .inl ()=>
     Zck a c d f (IntKind.wrap .i64 (b + (1:Int)))
   | .inr i=>
     some (.inr i)
  else
   some (.inl ())
def Zdt (a:ZL) (b:ZL) (c:Int):Option Bool:=
 if ((List.length a:Int) != (List.length b:Int))=true then
  some false
 else
  (Zck a b c fuel (0:Int)).bind fun(d:(Unit ⊕ Bool))=>
  match d with
  | .inl ()=>
    some true
  | .inr f=>
    some f
def Zbu (b:ZL) (a:Int) (d:Int):Nat→Int→Option Int
 | 0,_=>none
 | f+1,c=>
  (some (decide (c<(List.length b:Int)))).bind fun g=>
  (if g=true then
   (idx b c).bind fun i=>
   if 0≤a∧a<5 then
   (idx b d).bind fun j=>
   if 0≤a∧a<5 then
   some (Zb7 (Arr5.get i a) (Arr5.get j a))
   else none
   else none
   else some false).bind fun k=>
  if k=true then
   Zbu b a d f (IntKind.wrap .i64 (c + (1:Int)))
  else
   some c
def Zbi (c:ZL) (a:Int) (f:ZL→Int→Option Bool):Nat→ZL→Int→Option (Unit ⊕ Bool)
 | 0,_,_=>none
 | k+1,l,b=>
  if (decide (b<(List.length c:Int)))=true then
   ((Zbu c a b fuel b).bind fun d=>
    if 0≤b∧b≤d∧d≤(List.length c:Int) then
    (if (decide (b > (0:Int)))=true then
     (idx c (IntKind.wrap .i64 (b - (1:Int)))).bind fun g=>
     if 0≤a∧a<5 then
     (idx c b).bind fun i=>
     if 0≤a∧a<5 then
     (some (decide ((Arr5.get i a).Lo≤(Arr5.get g a).Hi))).bind fun m=>
     (if m=true then some true else
      (some ((Arr5.get i a).Lo == (IntKind.wrap .u32 ((Arr5.get g a).Hi + (1:Int))))).bind fun n=>
      (if n=true then
       (Zdt l (List.drop (Int.toNat b) (List.take (Int.toNat d) c)) (IntKind.wrap .i64 (a + (1:Int)))).bind fun o=>
       some o
       else some false).bind fun p=>
      some p
      ).bind fun q=>
     if q=true then
      some (.inr false)
     else
      some (.inl ())
     else none
     else none
    else
     some (.inl ())).bind fun(r:(Unit ⊕ Bool))=>
    match r with
    | .inl ()=>
      (f (List.drop (Int.toNat b) (List.take (Int.toNat d) c)) (IntKind.wrap .i64 (a + (1:Int)))).bind fun s=>
      if (!s)=true then
       some (.inr false)
      else
       some (.inl (List.drop (Int.toNat b) (List.take (Int.toNat d) c)))
    | .inr t=>
      some (.inr t)
    else none).bind fun(u:(ZL ⊕ Bool))=>
   match u with
   | .inl j=>
     Zbi c a f k j (IntKind.wrap .i64 (b + (List.length j:Int)))
   | .inr v=>
     some (.inr v)
  else
   some (.inl ())
def Za4:Nat→ZL→Int→Option Bool
 | 0,_,_=>none
 | nr+1,a,b=>
  if (b == (5:Int))=true then
   some ((List.length a:Int) == (1:Int))
  else
   (Zbi a b (Za4 nr) fuel ([]:ZL) (0:Int)).bind fun(c:(Unit ⊕ Bool))=>
   match c with
   | .inl ()=>
     some true
   | .inr d=>
     some d
def Zdu (a:ZL):Option Bool:=
 (some (decide ((List.length a:Int)≤(4096:Int)))).bind fun b1=>
 (if b1=true then
  (Zes a).bind fun b=>
  some ((List.length b:Int) == (List.length a:Int))
  else some false).bind fun c=>
 (some c).bind fun d=>
 (if d=true then
  (Za4 fuel a (0:Int)).bind fun f=>
  some f
  else some false).bind fun g=>
 some g
def Zdv (a:ZL):Option (ZL × Int):=
 (Zdu a).bind fun c=>
 if c=true then
  some (a,(0:Int))
 else
  (Zea a).bind fun b=>
  some (b.1,b.2)
def Zc9 (d:ZL) (f:ZL) (g:Int):Option (ZL × Int):=
 (Zdv d).bind fun a=>
 if (a.2 != (0:Int))=true then
  some (([]:ZL),a.2)
 else
  (Zdv f).bind fun b=>
  if (b.2 != (0:Int))=true then
   some (([]:ZL),b.2)
  else
   (Zbc fuel a.1 b.1 g (0:Int)).bind fun i=>
   (Zc7 i).bind fun c=>
   some (c.1,c.2)
def Zet (b:ZL) (c:ZL):Option (ZL × Int):=
 (Zc9 b c (0:Int)).bind fun a=>
 some (a.1,a.2)
def Zdi (b:ZL) (c:ZL):Option (ZL × Int):=
 (Zc9 b c (1:Int)).bind fun a=>
 some (a.1,a.2)
def Zaf (b:ZB):Nat→Int→Option (Unit ⊕ Bool)
 | 0,_=>none
 | c+1,a=>
  if (decide (a<(5:Int)))=true then
   if 0≤a∧a<5 then
   (some (decide ((Arr5.get b a).Lo > (Arr5.get b a).Hi))).bind fun d=>
   (if d=true then some true else
    if 0≤a∧a<5 then
    some (decide ((Arr5.get b a).Hi > (Arr5.get Zdz a)))
    else none
    ).bind fun f=>
   if f=true then
    some (.inr false)
   else
    Zaf b c (IntKind.wrap .i64 (a + (1:Int)))
   else none
  else
   some (.inl ())
def Zf9 (a:ZB):Option Bool:=
 (Zaf a fuel (0:Int)).bind fun(b:(Unit ⊕ Bool))=>
 match b with
 | .inl ()=>
   some true
 | .inr c=>
   some c
def Zbw (a:ZB):Option Bool:=
 (Zf9 a).bind fun b=>
 some (!b)
def Zu (b:Nat) (c:ZL):Nat→Int→Option (Unit ⊕ Int)
 | 0,_=>none
 | d+1,a=>
  if (decide (a<(b:Int)))=true then
   (idxn b c a).bind fun f=>
   (Zbw f).bind fun g=>
   if g=true then
    some (.inr a)
   else
    Zu b c d (IntKind.wrap .i64 (a + (1:Int)))
  else
   some (.inl ())
def Za7 (a:Nat) (b:ZL):Option Int:=
 (Zu a b fuel (0:Int)).bind fun(c:(Unit ⊕ Int))=>
 match c with
 | .inl ()=>
   some (-1:Int)
 | .inr d=>
   some d
def Zs (c:Nat):Nat→ZL→Int→Int→Option (ZL × Int)
 | 0,_,_,_=>none
 | g+1,a,b,d=>
  if (decide (d<(c:Int)))=true then
   ((idxn c a d).bind fun f=>
   (Zbw f).bind fun i=>
   if (!i)=true then
    (idxn c a b).bind fun _=>
    some ((List.set a (Int.toNat b) f),(IntKind.wrap .i64 (b + (1:Int))))
   else
    some (a,b)).bind fun j=>
   match j with
   | (k,l)=>
    Zs c g k l (IntKind.wrap .i64 (d + (1:Int)))
  else
   some (a,b)
def Zaj (b:Nat) (c:ZL):Option (Nat × ZL):=
 (Za7 b c).bind fun d=>
 if (d == (-1:Int))=true then
  some (b,c)
 else
  (Zs b fuel c d (IntKind.wrap .i64 (d + (1:Int)))).bind fun g=>
  match g with
  | (f,a)=>
   if 0≤a∧a≤(b:Int)∧(b:Int)≤(b:Int) then
   if Int.toNat a + (Int.toNat (b:Int) - Int.toNat a)≤List.length f then
   if 0≤(0:Int)∧(0:Int)≤a∧a≤(b:Int) then
   some ((Int.toNat a),(List.take (Int.toNat a) f++List.replicate (Int.toNat (b:Int) - Int.toNat a) Zo++List.drop (Int.toNat a + (Int.toNat (b:Int) - Int.toNat a)) f))
   else none
   else none
   else none
def Zau (b:ZL):Nat→Int→Option (Unit ⊕ Int)
 | 0,_=>none
 | c+1,a=>
  if (decide (a<(List.length b:Int)))=true then
   (idx b a).bind fun d=>
   (Zbw d).bind fun f=>
   if f=true then
    some (.inr a)
   else
    Zau b c (IntKind.wrap .i64 (a + (1:Int)))
  else
   some (.inl ())
def Zbn (a:ZL):Option Int:=
 (Zau a fuel (0:Int)).bind fun(b:(Unit ⊕ Int))=>
 match b with
 | .inl ()=>
   some (-1:Int)
 | .inr c=>
   some c
def Zak:Nat→Int→Int→Option Int
 | 0,_,_=>none
 | c+1,b,a=>
  if (decide (a<(List.length ([]:ZL):Int)))=true then
   ((idx ([]:ZL) a).bind fun d=>
   (Zbw d).bind fun f=>
   if (!f)=true then
    none
   else
    some ()).bind fun g=>
   match g with
   | ()=>
    Zak c b (IntKind.wrap .i64 (a + (1:Int)))
  else
   some b
def Zbd:Option ZL:=
 (Zbn ([]:ZL)).bind fun a=>
 if (a == (-1:Int))=true then
  some ([]:ZL)
 else
  (Zak fuel a (IntKind.wrap .i64 (a + (1:Int)))).bind fun _=>
   none
def Zda (a:ZL):Option ZL:=
 if List.length a≤lim then
 (handB a (Zaj (List.length a) a) (Zbd)).bind fun b=>
 some (List.take b.1 b.2)
 else none
def Za9 (d:Int) (b:Int):Nat→ZL→Int→Option ZL
 | 0,_,_=>none
 | f+1,c,a=>
  if (decide (a≤d))=true then
   (idx c b).bind fun g=>
   if 0≤a∧a<5 then
   Za9 d b f (List.set c (Int.toNat b) (Arr5.set g a (Zb.mk (0:Int) (0:Int)))) (IntKind.wrap .i64 (a + (1:Int)))
   else none
  else
   some c
def Zb5 (b:Int) (c:ZL):Nat→ZL→Int→Option ZL
 | 0,_,_=>none
 | f+1,d,a=>
  if (decide (a<(List.length c:Int)))=true then
   (Za9 b a fuel d (0:Int)).bind fun g=>
    Zb5 b c f g (IntKind.wrap .i64 (a + (1:Int)))
  else
   some d
def Zd5 (b:Int) (a:ZL):Option ZL:=
 if List.length a≤lim then
 (Zb5 b a fuel a (0:Int)).bind fun c=>
  some c
 else none
def Zap (b:ZL) (c:ZL):Nat→Int→Option (Unit ⊕ Bool)
 | 0,_=>none
 | d+1,a=>
  if (decide (a<(List.length b:Int)))=true then
   (idx b a).bind fun f=>
   (idx c a).bind fun g=>
   if (!(Zdq f g))=true then
    some (.inr false)
   else
    Zap b c d (IntKind.wrap .i64 (a + (1:Int)))
  else
   some (.inl ())
def Za1 (a:ZL) (b:ZL):Option Bool:=
 if ((List.length a:Int) != (List.length b:Int))=true then
  some false
 else
  (Zap a b fuel (0:Int)).bind fun(c:(Unit ⊕ Bool))=>
  match c with
  | .inl ()=>
    some true
  | .inr d=>
    some d
def Zbv (a:Int) (b:ZL):Nat→Int→Option Int
 | 0,_=>none
 | d+1,c=>
  (some (decide (c<(List.length b:Int)))).bind fun f=>
  (if f=true then
   (idx b c).bind fun g=>
   if 0≤a∧a<5 then
   (idx b (0:Int)).bind fun i=>
   if 0≤a∧a<5 then
   some (Zb7 (Arr5.get g a) (Arr5.get i a))
   else none
   else none
   else some false).bind fun j=>
  if j=true then
   Zbv a b d (IntKind.wrap .i64 (c + (1:Int)))
  else
   some c
def Zbj (b:Int) (g:Int→ZL→Option Bool):Nat→Zh→ZL→Option (Zh ⊕ Bool)
 | 0,_,_=>none
 | j+1,d,a=>
  if (decide ((List.length a:Int) > (0:Int)))=true then
   (Zbv b a fuel (1:Int)).bind fun c=>
    (idx a (0:Int)).bind fun f=>
    if 0≤b∧b<5 then
    if 0≤(0:Int)∧(0:Int)≤c∧c≤(List.length a:Int) then
    (Zd5 b (List.drop (Int.toNat (0:Int)) (List.take (Int.toNat c) a))).bind fun i=>
    if 0≤(0:Int)∧(0:Int)≤c∧c≤(List.length a:Int) then
    (g (IntKind.wrap .i64 (b + (1:Int))) (List.drop (Int.toNat (0:Int)) (List.take (Int.toNat c) a))).bind fun k=>
    if (!k)=true then
     some (.inr false)
    else
     (if (decide ((List.length d.f_rest:Int) > (0:Int)))=true then
      (some (decide ((Arr5.get f b).Lo≤d.f_values.Hi))).bind fun l=>
      (if l=true then some true else
       (some ((Arr5.get f b).Lo == (IntKind.wrap .u32 (d.f_values.Hi + (1:Int))))).bind fun m=>
       (if m=true then
        (Za1 i d.f_rest).bind fun n=>
        some n
        else some false).bind fun o=>
       some o
       ).bind fun p=>
      if p=true then
       some (.inr false)
      else
       some (.inl ())
     else
      some (.inl ())).bind fun(q:(Unit ⊕ Bool))=>
     match q with
     | .inl ()=>
       if 0≤c∧c≤(List.length a:Int)∧(List.length a:Int)≤(List.length a:Int) then
       Zbj b g j (Zh.mk (Arr5.get f b) i) (List.drop (Int.toNat c) (List.take (Int.toNat (List.length a:Int)) a))
       else none
     | .inr r=>
       some (.inr r)
    else none
    else none
    else none
  else
   some (.inl d)
def Za5:Nat→Int→ZL→Option Bool
 | 0,_,_=>none
 | nr+1,a,b=>
  if (a == (5:Int))=true then
   some (decide ((List.length b:Int)≤(1:Int)))
  else
   (Zbj a (Za5 nr) fuel Zd3 b).bind fun(c:(Zh ⊕ Bool))=>
   match c with
   | .inl _=>
     some true
   | .inr d=>
     some d
def Zdb (a:ZL):Option Bool:=
 (some (decide ((List.length a:Int)≤(4096:Int)))).bind fun b1=>
 (if b1=true then
  (Zda a).bind fun b=>
  some ((List.length b:Int) == (List.length a:Int))
  else some false).bind fun c=>
 (some c).bind fun d=>
 (if d=true then
  (Za5 fuel (0:Int) a).bind fun f=>
  some f
  else some false).bind fun g=>
 some g
def Zcy (a:Bool) (b:Bool):Option Bool:=
 (some a).bind fun b1=>
 some (b1 || b)
def Zic (a:Int):Option Int:=
 (some (decide (a<(0:Int)))).bind fun b1=>
 if (b1 || (decide (a ≥ (5:Int))))=true then
  some (0:Int)
 else
  if 0≤a∧a<5 then
  some (Arr5.get Zdz a)
  else none
def Ze3 (a:Int):Option Int:=
 (if (decide (a ≥ (4294967296:Int)))=true then
  some ((bShr .u64 a (32:Int)),(32:Int))
 else
  some (a,(0:Int))).bind fun g=>
 match g with
 | (b,d)=>
  (if (decide (b ≥ (65536:Int)))=true then
   some ((bShr .u64 b (16:Int)),(IntKind.wrap .i64 (d + (16:Int))))
  else
   some (b,d)).bind fun i=>
  match i with
  | (c,f)=>
   (if (decide (c ≥ (256:Int)))=true then
    some ((bShr .u64 c (8:Int)),(IntKind.wrap .i64 (f + (8:Int))))
   else
    some (c,f)).bind fun j=>
   match j with
   | (k,l)=>
    (sidx ⟨#[0,1,2,2,3,3,3,3,4,4,4,4,4,4,4,4,5,5,5,5,5,5,5,5,5,5,5,5,5,5,5,5,6,6,6,6,6,6,6,6,6,6,6,6,6,6,6,6,6,6,6,6,6,6,6,6,6,6,6,6,6,6,6,6,7,7,7,7,7,7,7,7,7,7,7,7,7,7,7,7,7,7,7,7,7,7,7,7,7,7,7,7,7,7,7,7,7,7,7,7,7,7,7,7,7,7,7,7,7,7,7,7,7,7,7,7,7,7,7,7,7,7,7,7,7,7,7,7,8,8,8,8,8,8,8,8,8,8,8,8,8,8,8,8,8,8,8,8,8,8,8,8,8,8,8,8,8,8,8,8,8,8,8,8,8,8,8,8,8,8,8,8,8,8,8,8,8,8,8,8,8,8,8,8,8,8,8,8,8,8,8,8,8,8,8,8,8,8,8,8,8,8,8,8,8,8,8,8,8,8,8,8,8,8,8,8,8,8,8,8,8,8,8,8,8,8,8,8,8,8,8,8,8,8,8,8,8,8,8,8,8,8,8,8,8,8,8,8,8,8,8,8,8,8,8,8]⟩ (IntKind.wrap .u8 k)).bind fun m=>
    some (IntKind.wrap .i64 (l + (IntKind.wrap .i64 m)))
def Zdw (a:Int):Option Int:=
 (Ze3 a).bind fun b=>
 some b
def Zdn (a:Int):Option Bool:=
 some (a != a)
def Z0 (a:Int) (b:Int):Option Bool:=
 (Zdn a).bind fun c=>
 (some c).bind fun d=>
 (if d=true then
  (Zdn b).bind fun f=>
  some (!f)
  else some false).bind fun g=>
 (some g).bind fun i=>
 some (i || (decide (a<b)))
def Z7 (c:Nat) (d:Int):Nat→(List Int)→Int→Option (List Int)
 | 0,_,_=>none
 | g+1,b,a=>
  (some (decide (a > d))).bind fun i=>
  (if i=true then
   (idxn c b a).bind fun j=>
   (idxn c b (IntKind.wrap .i64 (a - (1:Int)))).bind fun k=>
   (Z0 j k).bind fun l=>
   some l
   else some false).bind fun m=>
  if m=true then
   (idxn c b (IntKind.wrap .i64 (a - (1:Int)))).bind fun f=>
   (idxn c b a).bind fun n=>
   (idxn c b a).bind fun _=>
   (idxn c (List.set b (Int.toNat a) f) (IntKind.wrap .i64 (a - (1:Int)))).bind fun _=>
   Z7 c d g (List.set (List.set b (Int.toNat a) f) (Int.toNat (IntKind.wrap .i64 (a - (1:Int)))) n) (IntKind.wrap .i64 (a - (1:Int)))
  else
   some b
def Z8 (b:Nat) (c:Int) (d:Int):Nat→(List Int)→Int→Option (List Int)
 | 0,_,_=>none
 | g+1,f,a=>
  if (decide (a<d))=true then
   (Z7 b c fuel f a).bind fun i=>
    Z8 b c d g i (IntKind.wrap .i64 (a + (1:Int)))
  else
   some f
def Zbb (b:Nat) (c:(List Int)) (a:Int) (d:Int):Option (List Int):=
 (Z8 b a d fuel c (IntKind.wrap .i64 (a + (1:Int)))).bind fun f=>
  some f
def Z2 (d:Nat) (g:Int) (a:Int):Nat→(List Int)→Int→Option ((List Int) ⊕ (List Int))
 | 0,_,_=>none
 | j+1,b,c=>
  if (decide ((IntKind.wrap .i64 ((IntKind.wrap .i64 ((2:Int) * c)) + (1:Int))) ≥ g))=true then
   some (.inl b)
  else
   ((some (decide ((IntKind.wrap .i64 ((IntKind.wrap .i64 ((IntKind.wrap .i64 ((2:Int) * c)) + (1:Int))) + (1:Int)))<g))).bind fun k=>
   (if k=true then
    (idxn d b (IntKind.wrap .i64 (a + (IntKind.wrap .i64 ((IntKind.wrap .i64 ((2:Int) * c)) + (1:Int)))))).bind fun l=>
    (idxn d b (IntKind.wrap .i64 ((IntKind.wrap .i64 (a + (IntKind.wrap .i64 ((IntKind.wrap .i64 ((2:Int) * c)) + (1:Int))))) + (1:Int)))).bind fun m=>
    (Z0 l m).bind fun n=>
    some n
    else some false).bind fun o=>
   if o=true then
    some (IntKind.wrap .i64 ((IntKind.wrap .i64 ((IntKind.wrap .i64 ((2:Int) * c)) + (1:Int))) + (1:Int)))
   else
    some (IntKind.wrap .i64 ((IntKind.wrap .i64 ((2:Int) * c)) + (1:Int)))).bind fun f=>
    (idxn d b (IntKind.wrap .i64 (a + c))).bind fun p=>
    (idxn d b (IntKind.wrap .i64 (a + f))).bind fun q=>
    (Z0 p q).bind fun r=>
    if (!r)=true then
     some (.inr b)
    else
     (idxn d b (IntKind.wrap .i64 (a + f))).bind fun i=>
     (idxn d b (IntKind.wrap .i64 (a + c))).bind fun s=>
     (idxn d b (IntKind.wrap .i64 (a + c))).bind fun _=>
     (idxn d (List.set b (Int.toNat (IntKind.wrap .i64 (a + c))) i) (IntKind.wrap .i64 (a + f))).bind fun _=>
     Z2 d g a j (List.set (List.set b (Int.toNat (IntKind.wrap .i64 (a + c))) i) (Int.toNat (IntKind.wrap .i64 (a + f))) s) f
def Zba (a:Nat) (b:(List Int)) (c:Int) (d:Int) (f:Int):Option (List Int):=
 (Z2 a d f fuel b c).bind fun(g:((List Int) ⊕ (List Int)))=>
 match g with
 | .inl i=>
   some i
 | .inr j=>
   some j
def Zal (c:Nat) (a:Int) (d:Int):Nat→(List Int)→Int→Option (List Int)
 | 0,_,_=>none
 | g+1,f,b=>
  if (decide (b ≥ (0:Int)))=true then
   (Zba c f b (IntKind.wrap .i64 (d - a)) a).bind fun i=>
   Zal c a d g i (IntKind.wrap .i64 (b - (1:Int)))
  else
   some f
def Zam (b:Nat) (a:Int):Nat→(List Int)→Int→Option (List Int)
 | 0,_,_=>none
 | g+1,c,d=>
  if (decide (d ≥ (0:Int)))=true then
   (idxn b c (IntKind.wrap .i64 (a + d))).bind fun f=>
   (idxn b c a).bind fun i=>
   (idxn b c a).bind fun _=>
   (idxn b (List.set c (Int.toNat a) f) (IntKind.wrap .i64 (a + d))).bind fun _=>
   (Zba b (List.set (List.set c (Int.toNat a) f) (Int.toNat (IntKind.wrap .i64 (a + d))) i) (0:Int) d a).bind fun j=>
   Zam b a g j (IntKind.wrap .i64 (d - (1:Int)))
  else
   some c
def Zbo (c:Nat) (d:(List Int)) (a:Int) (b:Int):Option (List Int):=
 (Zal c a b fuel d (IntKind.wrap .i64 (Int.tdiv (IntKind.wrap .i64 ((IntKind.wrap .i64 (b - a)) - (1:Int))) (2:Int)))).bind fun f=>
  (Zam c a fuel f (IntKind.wrap .i64 ((IntKind.wrap .i64 (b - a)) - (1:Int)))).bind fun g=>
   some g
def Zdg (b:Int):Option Int:=
 (Zdw (IntKind.wrap .u64 b)).bind fun a=>
 if 0≤a then
 some (bShl .u64 (1:Int) a)
 else none
def Zct (a:Int):Option (Int × Int):=
 some ((bXor .u64 (bXor .u64 (bXor .u64 a (bShl .u64 a (13:Int))) (bShr .u64 (bXor .u64 a (bShl .u64 a (13:Int))) (7:Int))) (bShl .u64 (bXor .u64 (bXor .u64 a (bShl .u64 a (13:Int))) (bShr .u64 (bXor .u64 a (bShl .u64 a (13:Int))) (7:Int))) (17:Int))),(bXor .u64 (bXor .u64 (bXor .u64 a (bShl .u64 a (13:Int))) (bShr .u64 (bXor .u64 a (bShl .u64 a (13:Int))) (7:Int))) (bShl .u64 (bXor .u64 (bXor .u64 a (bShl .u64 a (13:Int))) (bShr .u64 (bXor .u64 a (bShl .u64 a (13:Int))) (7:Int))) (17:Int))))
def Zm (d:Nat) (a:Int) (f:Int) (g:Int):Nat→(List Int)→Int→Int→Option ((List Int) × Int)
 | 0,_,_,_=>none
 | m+1,b,k,c=>
  if (decide (c≤(IntKind.wrap .i64 ((IntKind.wrap .i64 (a + (IntKind.wrap .i64 ((IntKind.wrap .i64 (Int.tdiv (IntKind.wrap .i64 (f - a)) (4:Int))) * (2:Int))))) + (1:Int)))))=true then
   ((Zct k).bind fun i=>
   (if (decide ((IntKind.wrap .i64 (bAnd .u64 i.1 (IntKind.wrap .u64 (g - (1:Int))))) ≥ (IntKind.wrap .i64 (f - a))))=true then
    some (IntKind.wrap .i64 ((IntKind.wrap .i64 (bAnd .u64 i.1 (IntKind.wrap .u64 (g - (1:Int))))) - (IntKind.wrap .i64 (f - a))))
   else
    some (IntKind.wrap .i64 (bAnd .u64 i.1 (IntKind.wrap .u64 (g - (1:Int)))))).bind fun j=>
    (idxn d b (IntKind.wrap .i64 (a + j))).bind fun l=>
    (idxn d b c).bind fun n=>
    (idxn d b c).bind fun _=>
    (idxn d (List.set b (Int.toNat c) l) (IntKind.wrap .i64 (a + j))).bind fun _=>
    some ((List.set (List.set b (Int.toNat c) l) (Int.toNat (IntKind.wrap .i64 (a + j))) n),i.2)).bind fun o=>
   match o with
   | (p,q)=>
    Zm d a f g m p q (IntKind.wrap .i64 (c + (1:Int)))
  else
   some (b,k)
def Zat (d:Nat) (c:(List Int)) (a:Int) (b:Int):Option (List Int):=
 if (decide ((IntKind.wrap .i64 (b - a)) ≥ (8:Int)))=true then
  (Zdg (IntKind.wrap .i64 (b - a))).bind fun f=>
  (Zm d a b f fuel c (IntKind.wrap .u64 (IntKind.wrap .i64 (b - a))) (IntKind.wrap .i64 ((IntKind.wrap .i64 (a + (IntKind.wrap .i64 ((IntKind.wrap .i64 (Int.tdiv (IntKind.wrap .i64 (b - a)) (4:Int))) * (2:Int))))) - (1:Int)))).bind fun g=>
  match g with
  | (i,_)=>
   some i
 else
  some c
def Za2 (c:Nat) (d:(List Int)) (a:Int) (b:Int) (f:Int):Option (Int × Int × Int):=
 (idxn c d b).bind fun g=>
 (idxn c d a).bind fun i=>
 (Z0 g i).bind fun j=>
 if j=true then
  some (b,a,(IntKind.wrap .i64 (f + (1:Int))))
 else
  some (a,b,f)
def Zbf (a:Nat) (b:(List Int)) (g:Int) (i:Int) (j:Int) (k:Int):Option (Int × Int):=
 (Za2 a b g i k).bind fun c=>
 (Za2 a b c.2.1 j c.2.2).bind fun d=>
 (Za2 a b c.1 d.1 d.2.2).bind fun f=>
 some (f.2.1,f.2.2)
def Zae (c:Nat) (d:(List Int)) (a:Int) (f:Int):Option (Int × Int):=
 (Zbf c d (IntKind.wrap .i64 (a - (1:Int))) a (IntKind.wrap .i64 (a + (1:Int))) f).bind fun b=>
 some (b.1,b.2)
def Zbe (c:Nat) (d:(List Int)) (a:Int) (b:Int):Option (Int × Int):=
 (if (decide ((IntKind.wrap .i64 (b - a)) ≥ (8:Int)))=true then
  (if (decide ((IntKind.wrap .i64 (b - a)) ≥ (50:Int)))=true then
   (Zae c d (IntKind.wrap .i64 (a + (IntKind.wrap .i64 ((IntKind.wrap .i64 (Int.tdiv (IntKind.wrap .i64 (b - a)) (4:Int))) * (1:Int))))) (0:Int)).bind fun g=>
   (Zae c d (IntKind.wrap .i64 (a + (IntKind.wrap .i64 ((IntKind.wrap .i64 (Int.tdiv (IntKind.wrap .i64 (b - a)) (4:Int))) * (2:Int))))) g.2).bind fun i=>
   (Zae c d (IntKind.wrap .i64 (a + (IntKind.wrap .i64 ((IntKind.wrap .i64 (Int.tdiv (IntKind.wrap .i64 (b - a)) (4:Int))) * (3:Int))))) i.2).bind fun j=>
   some (j.2,g.1,i.1,j.1)
  else
   some ((0:Int),(IntKind.wrap .i64 (a + (IntKind.wrap .i64 ((IntKind.wrap .i64 (Int.tdiv (IntKind.wrap .i64 (b - a)) (4:Int))) * (1:Int))))),(IntKind.wrap .i64 (a + (IntKind.wrap .i64 ((IntKind.wrap .i64 (Int.tdiv (IntKind.wrap .i64 (b - a)) (4:Int))) * (2:Int))))),(IntKind.wrap .i64 (a + (IntKind.wrap .i64 ((IntKind.wrap .i64 (Int.tdiv (IntKind.wrap .i64 (b - a)) (4:Int))) * (3:Int))))))).bind fun m=>
  match m with
  | (n,o,p,q)=>
   (Zbf c d o p q n).bind fun k=>
   some (k.2,k.1)
 else
  some ((0:Int),(IntKind.wrap .i64 (a + (IntKind.wrap .i64 ((IntKind.wrap .i64 (Int.tdiv (IntKind.wrap .i64 (b - a)) (4:Int))) * (2:Int))))))).bind fun r=>
 match r with
 | (l,f)=>
  if (l == (0:Int))=true then
   some (f,(1:Int))
  else
   if (l == (12:Int))=true then
    some (f,(2:Int))
   else
    some (f,(0:Int))
def Zab (c:Nat):Nat→(List Int)→Int→Int→Option (List Int)
 | 0,_,_,_=>none
 | g+1,a,b,d=>
  if (decide (b<d))=true then
   (idxn c a d).bind fun f=>
   (idxn c a b).bind fun i=>
   (idxn c a b).bind fun _=>
   (idxn c (List.set a (Int.toNat b) f) d).bind fun _=>
   Zab c g (List.set (List.set a (Int.toNat b) f) (Int.toNat d) i) (IntKind.wrap .i64 (b + (1:Int))) (IntKind.wrap .i64 (d - (1:Int)))
  else
   some a
def Zav (a:Nat) (b:(List Int)) (c:Int) (d:Int):Option (List Int):=
 (Zab a fuel b c (IntKind.wrap .i64 (d - (1:Int)))).bind fun f=>
  some f
def Zv (b:Nat) (d:Int) (c:(List Int)):Nat→Int→Option Int
 | 0,_=>none
 | f+1,a=>
  (some (decide (a<d))).bind fun g=>
  (if g=true then
   (idxn b c a).bind fun i=>
   (idxn b c (IntKind.wrap .i64 (a - (1:Int)))).bind fun j=>
   (Z0 i j).bind fun k=>
   some (!k)
   else some false).bind fun l=>
  if l=true then
   Zv b d c f (IntKind.wrap .i64 (a + (1:Int)))
  else
   some a
def Zr (c:Nat):Nat→(List Int)→Int→Option (List Int)
 | 0,_,_=>none
 | f+1,b,a=>
  if (decide (a ≥ (1:Int)))=true then
   (idxn c b a).bind fun g=>
   (idxn c b (IntKind.wrap .i64 (a - (1:Int)))).bind fun i=>
   (Z0 g i).bind fun j=>
   if (!j)=true then
    some b
   else
    (idxn c b (IntKind.wrap .i64 (a - (1:Int)))).bind fun d=>
    (idxn c b a).bind fun k=>
    (idxn c b a).bind fun _=>
    (idxn c (List.set b (Int.toNat a) d) (IntKind.wrap .i64 (a - (1:Int)))).bind fun _=>
    Zr c f (List.set (List.set b (Int.toNat a) d) (Int.toNat (IntKind.wrap .i64 (a - (1:Int)))) k) (IntKind.wrap .i64 (a - (1:Int)))
  else
   some b
def Zw (c:Nat) (d:Int):Nat→(List Int)→Int→Option (List Int)
 | 0,_,_=>none
 | g+1,b,a=>
  if (decide (a<d))=true then
   (idxn c b a).bind fun i=>
   (idxn c b (IntKind.wrap .i64 (a - (1:Int)))).bind fun j=>
   (Z0 i j).bind fun k=>
   if (!k)=true then
    some b
   else
    (idxn c b (IntKind.wrap .i64 (a - (1:Int)))).bind fun f=>
    (idxn c b a).bind fun l=>
    (idxn c b a).bind fun _=>
    (idxn c (List.set b (Int.toNat a) f) (IntKind.wrap .i64 (a - (1:Int)))).bind fun _=>
    Zw c d g (List.set (List.set b (Int.toNat a) f) (Int.toNat (IntKind.wrap .i64 (a - (1:Int)))) l) (IntKind.wrap .i64 (a + (1:Int)))
  else
   some b
def Zx (c:Nat) (f:Int) (d:Int):Nat→(List Int)→Int→Int→Option ((List Int) ⊕ (Bool × (List Int)))
 | 0,_,_,_=>none
 | l+1,b,m,i=>
  if (decide (i<(5:Int)))=true then
   ((Zv c d b fuel m).bind fun a=>
    if (a == d)=true then
     some (.inr (true,b))
    else
     if (decide ((IntKind.wrap .i64 (d - f))<(50:Int)))=true then
      some (.inr (false,b))
     else
      (idxn c b (IntKind.wrap .i64 (a - (1:Int)))).bind fun g=>
      (idxn c b a).bind fun j=>
      (idxn c b a).bind fun _=>
      (idxn c (List.set b (Int.toNat a) g) (IntKind.wrap .i64 (a - (1:Int)))).bind fun _=>
      (if (decide ((IntKind.wrap .i64 (a - f)) ≥ (2:Int)))=true then
       (Zr c fuel (List.set (List.set b (Int.toNat a) g) (Int.toNat (IntKind.wrap .i64 (a - (1:Int)))) j) (IntKind.wrap .i64 (a - (1:Int)))).bind fun n=>
        some n
      else
       some (List.set (List.set b (Int.toNat a) g) (Int.toNat (IntKind.wrap .i64 (a - (1:Int)))) j)).bind fun k=>
       if (decide ((IntKind.wrap .i64 (d - a)) ≥ (2:Int)))=true then
        (Zw c d fuel k (IntKind.wrap .i64 (a + (1:Int)))).bind fun o=>
         some (.inl (o,a))
       else
        some (.inl (k,a))).bind fun(p:(((List Int) × Int) ⊕ (Bool × (List Int))))=>
   match p with
   | .inl (q,r)=>
     Zx c f d l q r (IntKind.wrap .i64 (i + (1:Int)))
   | .inr s=>
     some (.inr s)
  else
   some (.inl b)
def Zac (b:Nat) (c:(List Int)) (a:Int) (d:Int):Option (Bool × (List Int)):=
 (Zx b a d fuel c (IntKind.wrap .i64 (a + (1:Int))) (0:Int)).bind fun(f:((List Int) ⊕ (Bool × (List Int))))=>
 match f with
 | .inl g=>
   some (false,g)
 | .inr i=>
   some i
def Zag (b:Nat) (d:Int) (c:(List Int)) (f:Int):Nat→Int→Option Int
 | 0,_=>none
 | g+1,a=>
  (some (decide (a≤f))).bind fun i=>
  (if i=true then
   (idxn b c d).bind fun j=>
   (idxn b c a).bind fun k=>
   (Z0 j k).bind fun l=>
   some (!l)
   else some false).bind fun m=>
  if m=true then
   Zag b d c f g (IntKind.wrap .i64 (a + (1:Int)))
  else
   some a
def Zah (b:Nat) (d:Int) (c:(List Int)) (f:Int):Nat→Int→Option Int
 | 0,_=>none
 | g+1,a=>
  (some (decide (f≤a))).bind fun i=>
  (if i=true then
   (idxn b c d).bind fun j=>
   (idxn b c a).bind fun k=>
   (Z0 j k).bind fun l=>
   some l
   else some false).bind fun m=>
  if m=true then
   Zah b d c f g (IntKind.wrap .i64 (a - (1:Int)))
  else
   some a
def Z6 (c:Nat) (f:Int):Nat→(List Int)→Int→Int→Option ((List Int) × Int)
 | 0,_,_,_=>none
 | j+1,a,k,g=>
  (Zag c f a g fuel k).bind fun b=>
   (Zah c f a b fuel g).bind fun d=>
    if (decide (b > d))=true then
     some (a,b)
    else
     (idxn c a d).bind fun i=>
     (idxn c a b).bind fun l=>
     (idxn c a b).bind fun _=>
     (idxn c (List.set a (Int.toNat b) i) d).bind fun _=>
     Z6 c f j (List.set (List.set a (Int.toNat b) i) (Int.toNat d) l) (IntKind.wrap .i64 (b + (1:Int))) (IntKind.wrap .i64 (d - (1:Int)))
def Za8 (b:Nat) (c:(List Int)) (a:Int) (g:Int) (d:Int):Option (Int × (List Int)):=
 (idxn b c d).bind fun f=>
 (idxn b c a).bind fun i=>
 (idxn b c a).bind fun _=>
 (idxn b (List.set c (Int.toNat a) f) d).bind fun _=>
 (Z6 b a fuel (List.set (List.set c (Int.toNat a) f) (Int.toNat d) i) (IntKind.wrap .i64 (a + (1:Int))) (IntKind.wrap .i64 (g - (1:Int)))).bind fun j=>
 match j with
 | (k,l)=>
  some (l,k)
def Zaw (c:Nat) (d:(List Int)) (a:Int) (j:Int) (f:Int) (g:Int) (i:Int):Nat→Int→Option Int
 | 0,_=>none
 | k+1,b=>
  (some (decide (b≤(IntKind.wrap .i64 (j - (1:Int)))))).bind fun l=>
  (if l=true then
   (idxn c (List.set (List.set d (Int.toNat a) g) (Int.toNat f) i) b).bind fun m=>
   (idxn c (List.set (List.set d (Int.toNat a) g) (Int.toNat f) i) a).bind fun n=>
   (Z0 m n).bind fun o=>
   some o
   else some false).bind fun p=>
  if p=true then
   Zaw c d a j f g i k (IntKind.wrap .i64 (b + (1:Int)))
  else
   some b
def Zax (c:Nat) (d:(List Int)) (a:Int) (f:Int) (g:Int) (i:Int) (j:Int):Nat→Int→Option Int
 | 0,_=>none
 | k+1,b=>
  (some (decide (j≤b))).bind fun l=>
  (if l=true then
   (idxn c (List.set (List.set d (Int.toNat a) g) (Int.toNat f) i) b).bind fun m=>
   (idxn c (List.set (List.set d (Int.toNat a) g) (Int.toNat f) i) a).bind fun n=>
   (Z0 m n).bind fun o=>
   some (!o)
   else some false).bind fun p=>
  if p=true then
   Zax c d a f g i j k (IntKind.wrap .i64 (b - (1:Int)))
  else
   some b
def Zay (b:Nat) (d:Int) (c:(List Int)) (f:Int):Nat→Int→Option Int
 | 0,_=>none
 | g+1,a=>
  (some (decide (a≤f))).bind fun i=>
  (if i=true then
   (idxn b c a).bind fun j=>
   (idxn b c d).bind fun k=>
   (Z0 j k).bind fun l=>
   some l
   else some false).bind fun m=>
  if m=true then
   Zay b d c f g (IntKind.wrap .i64 (a + (1:Int)))
  else
   some a
def Zaz (b:Nat) (d:Int) (c:(List Int)) (f:Int):Nat→Int→Option Int
 | 0,_=>none
 | g+1,a=>
  (some (decide (f≤a))).bind fun i=>
  (if i=true then
   (idxn b c a).bind fun j=>
   (idxn b c d).bind fun k=>
   (Z0 j k).bind fun l=>
   some (!l)
   else some false).bind fun m=>
  if m=true then
   Zaz b d c f g (IntKind.wrap .i64 (a - (1:Int)))
  else
   some a
def Zai (b:Nat) (f:Int):Nat→(List Int)→Int→Int→Option ((List Int) × Int)
 | 0,_,_,_=>none
 | j+1,a,k,g=>
  (Zay b f a g fuel k).bind fun c=>
   (Zaz b f a c fuel g).bind fun d=>
    if (decide (c > d))=true then
     some (a,d)
    else
     (idxn b a d).bind fun i=>
     (idxn b a c).bind fun l=>
     (idxn b a c).bind fun _=>
     (idxn b (List.set a (Int.toNat c) i) d).bind fun _=>
     Zai b f j (List.set (List.set a (Int.toNat c) i) (Int.toNat d) l) (IntKind.wrap .i64 (c + (1:Int))) (IntKind.wrap .i64 (d - (1:Int)))
def Zbm (b:Nat) (c:(List Int)) (a:Int) (m:Int) (d:Int):Option (Int × Bool × (List Int)):=
 (idxn b c d).bind fun f=>
 (idxn b c a).bind fun g=>
 (idxn b c a).bind fun _=>
 (idxn b (List.set c (Int.toNat a) f) d).bind fun _=>
 (Zaw b c a m d f g fuel (IntKind.wrap .i64 (a + (1:Int)))).bind fun j=>
  (Zax b c a d f g j fuel (IntKind.wrap .i64 (m - (1:Int)))).bind fun i=>
   if (decide (j > i))=true then
    (idxn b (List.set (List.set c (Int.toNat a) f) (Int.toNat d) g) a).bind fun n=>
    (idxn b (List.set (List.set c (Int.toNat a) f) (Int.toNat d) g) i).bind fun q=>
    (idxn b (List.set (List.set c (Int.toNat a) f) (Int.toNat d) g) i).bind fun _=>
    (idxn b (List.set (List.set (List.set c (Int.toNat a) f) (Int.toNat d) g) (Int.toNat i) n) a).bind fun _=>
    some (i,true,(List.set (List.set (List.set (List.set c (Int.toNat a) f) (Int.toNat d) g) (Int.toNat i) n) (Int.toNat a) q))
   else
    (idxn b (List.set (List.set c (Int.toNat a) f) (Int.toNat d) g) i).bind fun o=>
    (idxn b (List.set (List.set c (Int.toNat a) f) (Int.toNat d) g) j).bind fun r=>
    (idxn b (List.set (List.set c (Int.toNat a) f) (Int.toNat d) g) j).bind fun _=>
    (idxn b (List.set (List.set (List.set c (Int.toNat a) f) (Int.toNat d) g) (Int.toNat j) o) i).bind fun _=>
    (Zai b a fuel (List.set (List.set (List.set (List.set c (Int.toNat a) f) (Int.toNat d) g) (Int.toNat j) o) (Int.toNat i) r) (IntKind.wrap .i64 (j + (1:Int))) (IntKind.wrap .i64 (i - (1:Int)))).bind fun s=>
    match s with
    | (k,l)=>
     (idxn b k a).bind fun p=>
     (idxn b k l).bind fun t=>
     (idxn b k l).bind fun _=>
     (idxn b (List.set k (Int.toNat l) p) a).bind fun _=>
     some (l,false,(List.set (List.set k (Int.toNat l) p) (Int.toNat a) t))
def Zad (c:Nat) (f:Nat→(List Int)→Int→Int→Int→Option (List Int)):Nat→(List Int)→Int→Int→Int→Bool→Bool→Option (List Int)
 | 0,_,_,_,_,_,_=>none
 | l+1,i,a,b,m,n,r=>
  if (decide ((IntKind.wrap .i64 (b - a))≤(12:Int)))=true then
   (Zbb c i a b).bind fun u=>
   some u
  else
   if (m == (0:Int))=true then
    (Zbo c i a b).bind fun v=>
    some v
   else
    (if (!n)=true then
     (Zat c i a b).bind fun w=>
     some (w,(IntKind.wrap .i64 (m - (1:Int))))
    else
     some (i,m)).bind fun x=>
    match x with
    | (o,g)=>
     (Zbe c o a b).bind fun j=>
     (if (j.2 == (2:Int))=true then
      (Zav c o a b).bind fun y=>
      some (y,(IntKind.wrap .i64 ((IntKind.wrap .i64 (b - (1:Int))) - (IntKind.wrap .i64 (j.1 - a)))),(1:Int))
     else
      some (o,j.1,j.2)).bind fun z=>
     match z with
     | (s,p,a0)=>
      ((some n).bind fun a1=>
      (some (a1 && r)).bind fun a2=>
      if (a2 && (a0 == (1:Int)))=true then
       (Zac c s a b).bind fun q=>
       if q.1=true then
        some (.inr q.2)
       else
        some (.inl q.2)
      else
       some (.inl s)).bind fun(a3:((List Int) ⊕ (List Int)))=>
      match a3 with
      | .inl k=>
        (some (decide (a > (0:Int)))).bind fun a4=>
        (if a4=true then
         (idxn c k (IntKind.wrap .i64 (a - (1:Int)))).bind fun a5=>
         (idxn c k p).bind fun a6=>
         (Z0 a5 a6).bind fun a7=>
         some (!a7)
         else some false).bind fun a8=>
        if a8=true then
         (Za8 c k a b p).bind fun t=>
         Zad c f l t.2 t.1 b g n r
        else
         (Zbm c k a b p).bind fun d=>
         if (decide ((IntKind.wrap .i64 (d.1 - a))<(IntKind.wrap .i64 (b - d.1))))=true then
          (f c d.2.2 a d.1 g).bind fun a9=>
          Zad c f l a9 (IntKind.wrap .i64 (d.1 + (1:Int))) b g (decide ((IntKind.wrap .i64 (d.1 - a)) ≥ (IntKind.wrap .i64 (Int.tdiv (IntKind.wrap .i64 (b - a)) (8:Int))))) d.2.1
         else
          (f c d.2.2 (IntKind.wrap .i64 (d.1 + (1:Int))) b g).bind fun b0=>
          Zad c f l b0 a d.1 g (decide ((IntKind.wrap .i64 (b - d.1)) ≥ (IntKind.wrap .i64 (Int.tdiv (IntKind.wrap .i64 (b - a)) (8:Int))))) d.2.1
      | .inr b1=>
        some b1
def Zp:Nat→Nat→(List Int)→Int→Int→Int→Option (List Int)
 | 0,_,_,_,_,_=>none
 | nr+1,a,b,c,d,f=>
  (Zad a (Zp nr) fuel b c d f true true).bind fun g=>
  match g with
  | i=>
   some i
def Zb2 (a:Nat) (b:(List Int)):Option (List Int):=
 (Zdw (IntKind.wrap .u64 (a:Int))).bind fun c=>
 (Zp fuel a b (0:Int) (a:Int) c).bind fun d=>
 some d
def Zaq (c:Nat) (a:Int):Nat→(List Int)→Int→Int→Option ((List Int) × Int)
 | 0,_,_,_=>none
 | g+1,b,d,f=>
  if (decide (f<(((Int.toNat (c:Int) - Int.toNat a):Nat):Int)))=true then
   ((idxv (Int.toNat (c:Int) - Int.toNat a) b a f).bind fun i=>
   (idxv (Int.toNat (c:Int) - Int.toNat a) b a (IntKind.wrap .i64 (f - (1:Int)))).bind fun j=>
   if (i != j)=true then
    (idxv (Int.toNat (c:Int) - Int.toNat a) b a f).bind fun k=>
    (idxn c b d).bind fun _=>
    some ((List.set b (Int.toNat d) k),(IntKind.wrap .i64 (d + (1:Int))))
   else
    some (b,d)).bind fun l=>
   match l with
   | (m,n)=>
    Zaq c a g m n (IntKind.wrap .i64 (f + (1:Int)))
  else
   some (b,d)
def Zar (a:Nat) (d:(List Int)):Nat→Int→Option (Unit ⊕ (Nat × (List Int)))
 | 0,_=>none
 | g+1,c=>
  if (decide (c<(a:Int)))=true then
   (idxn a d c).bind fun i=>
   (idxn a d (IntKind.wrap .i64 (c - (1:Int)))).bind fun j=>
   if (i == j)=true then
    if 0≤c∧c≤(a:Int)∧(a:Int)≤(a:Int) then
    (Zaq a c fuel d c (1:Int)).bind fun k=>
    match k with
    | (f,b)=>
     if 0≤b∧b≤(a:Int)∧(a:Int)≤(a:Int) then
     if Int.toNat b + (Int.toNat (a:Int) - Int.toNat b)≤List.length f then
     if 0≤(0:Int)∧(0:Int)≤b∧b≤(a:Int) then
     some (.inr ((Int.toNat b),(List.take (Int.toNat b) f++List.replicate (Int.toNat (a:Int) - Int.toNat b) (0:Int)++List.drop (Int.toNat b + (Int.toNat (a:Int) - Int.toNat b)) f)))
     else none
     else none
     else none
    else none
   else
    Zar a d g (IntKind.wrap .i64 (c + (1:Int)))
  else
   some (.inl ())
def Zbs (a:Nat) (b:(List Int)):Option (Nat × (List Int)):=
 if (decide ((a:Int)<(2:Int)))=true then
  some (a,b)
 else
  (Zar a b fuel (1:Int)).bind fun(c:(Unit ⊕ (Nat × (List Int))))=>
  match c with
  | .inl ()=>
    some (a,b)
  | .inr d=>
    some d
def Zbk (a:Int):Nat→Int→Int→Option Int
 | 0,_,_=>none
 | d+1,c,b=>
  if (decide (b<(List.length (List.drop (Int.toNat a) (List.take (Int.toNat (List.length ([]:(List Int)):Int)) ([]:(List Int)))):Int)))=true then
   ((idx (List.drop (Int.toNat a) (List.take (Int.toNat (List.length ([]:(List Int)):Int)) ([]:(List Int)))) b).bind fun f=>
   (idx (List.drop (Int.toNat a) (List.take (Int.toNat (List.length ([]:(List Int)):Int)) ([]:(List Int)))) (IntKind.wrap .i64 (b - (1:Int)))).bind fun g=>
   if (f != g)=true then
    none
   else
    some ()).bind fun i=>
   match i with
   | ()=>
    Zbk a d c (IntKind.wrap .i64 (b + (1:Int)))
  else
   some c
def Zbl:Nat→Int→Option (Unit ⊕ (List Int))
 | 0,_=>none
 | b+1,a=>
  if (decide (a<(List.length ([]:(List Int)):Int)))=true then
   (idx ([]:(List Int)) a).bind fun c=>
   (idx ([]:(List Int)) (IntKind.wrap .i64 (a - (1:Int)))).bind fun d=>
   if (c == d)=true then
    if 0≤a∧a≤(List.length ([]:(List Int)):Int)∧(List.length ([]:(List Int)):Int)≤(List.length ([]:(List Int)):Int) then
    (Zbk a fuel a (1:Int)).bind fun _=>
     none
    else none
   else
    Zbl b (IntKind.wrap .i64 (a + (1:Int)))
  else
   some (.inl ())
def Zbt:Option (List Int):=
 if (decide ((List.length ([]:(List Int)):Int)<(2:Int)))=true then
  some ([]:(List Int))
 else
  (Zbl fuel (1:Int)).bind fun(a:(Unit ⊕ (List Int)))=>
  match a with
  | .inl ()=>
    some ([]:(List Int))
  | .inr b=>
    some b
def Zbx (a:Int) (c:ZL):Nat→(List Int)→Int→Option (List Int)
 | 0,_,_=>none
 | g+1,d,f=>
  if (decide (f<(List.length c:Int)))=true then
   (idx c f).bind fun b=>
   if 0≤a∧a<5 then
   if 0≤a∧a<5 then
   if List.length d + List.length [(IntKind.wrap .u64 (Arr5.get b a).Lo),(IntKind.wrap .u64 ((IntKind.wrap .u64 (Arr5.get b a).Hi) + (1:Int)))]≤lim then
   Zbx a c g (d++[(IntKind.wrap .u64 (Arr5.get b a).Lo),(IntKind.wrap .u64 ((IntKind.wrap .u64 (Arr5.get b a).Hi) + (1:Int)))]) (IntKind.wrap .i64 (f + (1:Int)))
   else none
   else none
   else none
  else
   some d
def Zby (c:Int) (a:(List ZL)):Nat→(List Int)→Int→Option (List Int)
 | 0,_,_=>none
 | f+1,d,b=>
  if (decide (b<(List.length a:Int)))=true then
   (idx a b).bind fun g=>
   (Zbx c g fuel d (0:Int)).bind fun i=>
    Zby c a f i (IntKind.wrap .i64 (b + (1:Int)))
  else
   some d
def Zdk (c:Int) (f:(List ZL)):Option (List Int):=
 (Zic c).bind fun g=>
 (Zby c f fuel [(0:Int),(IntKind.wrap .u64 ((IntKind.wrap .u64 g) + (1:Int)))] (0:Int)).bind fun a=>
  if a ≠ [] then
  (Zb2 (List.length a) a).bind fun b=>
  if List.length b=List.length a then
  (handB b (Zbs (List.length b) b) (Zbt)).bind fun d=>
  some (List.take d.1 d.2)
  else none
  else none
def Zbp (d:ZL) (a:Int) (f:Int):Nat→ZL→Int→Option ZL
 | 0,_,_=>none
 | i+1,b,g=>
  if (decide (g<(List.length d:Int)))=true then
   ((idx d g).bind fun c=>
   if 0≤a∧a<5 then
   (some (decide ((Arr5.get c a).Lo≤f))).bind fun j=>
   (if j=true then
    if 0≤a∧a<5 then
    some (decide (f≤(Arr5.get c a).Hi))
    else none
    else some false).bind fun k=>
   if k=true then
    if List.length b + List.length [c]≤lim then
    some (b++[c])
    else none
   else
    some b
   else none).bind fun l=>
    Zbp d a f i l (IntKind.wrap .i64 (g + (1:Int)))
  else
   some b
def Zcn (a:ZL) (b:Int) (c:Int):Option ZL:=
 (Zbp a b c fuel ([]:ZL) (0:Int)).bind fun d=>
  some d
def Z9 (f:Int) (l:ZL) (m:ZL) (j:Int) (n:Int→ZL→ZL→Int→Option (ZL × Bool)) (g:(List Int)):Nat→(List Zh)→Int→Int→Option (((List Zh) × Int) ⊕ (ZL × Bool))
 | 0,_,_,_=>none
 | p+1,a,c,i=>
  if (decide ((IntKind.wrap .i64 (i + (1:Int)))<(List.length g:Int)))=true then
   ((idx g i).bind fun d=>
   (idx g (IntKind.wrap .i64 (i + (1:Int)))).bind fun k=>
   (Zcn l f (IntKind.wrap .u32 d)).bind fun q=>
   (Zcn m f (IntKind.wrap .u32 d)).bind fun r=>
   (n (IntKind.wrap .i64 (f + (1:Int))) q r j).bind fun b=>
   if (!b.2)=true then
    some (.inr (([]:ZL),false))
   else
    if ((List.length b.1:Int) == (0:Int))=true then
     some (.inl (a,c))
    else
     (some (decide ((List.length a:Int) > (0:Int)))).bind fun s=>
     (if s=true then
      (idx a (IntKind.wrap .i64 ((List.length a:Int) - (1:Int)))).bind fun t=>
      some ((IntKind.wrap .u32 (t.f_values.Hi + (1:Int))) == (IntKind.wrap .u32 d))
      else some false).bind fun u=>
     (some u).bind fun v=>
     (if v=true then
      (idx a (IntKind.wrap .i64 ((List.length a:Int) - (1:Int)))).bind fun w=>
      (Za1 w.f_rest b.1).bind fun x=>
      some x
      else some false).bind fun y=>
     if y=true then
      (idx a (IntKind.wrap .i64 ((List.length a:Int) - (1:Int)))).bind fun o=>
      some (.inl ((List.set a (Int.toNat (IntKind.wrap .i64 ((List.length a:Int) - (1:Int)))) ({ o with f_values:=({ o.f_values with Hi:=(IntKind.wrap .u32 (IntKind.wrap .u64 (k - (1:Int)))) }:Zb) }:Zh)),c))
     else
      if List.length a + List.length [(Zh.mk (Zb.mk (IntKind.wrap .u32 d) (IntKind.wrap .u32 (IntKind.wrap .u64 (k - (1:Int))))) b.1)]≤lim then
      if (decide ((IntKind.wrap .i64 (c + (List.length b.1:Int))) > j))=true then
       some (.inr (([]:ZL),false))
      else
       some (.inl ((a++[(Zh.mk (Zb.mk (IntKind.wrap .u32 d) (IntKind.wrap .u32 (IntKind.wrap .u64 (k - (1:Int))))) b.1)]),(IntKind.wrap .i64 (c + (List.length b.1:Int)))))
      else none).bind fun(z:(((List Zh) × Int) ⊕ (ZL × Bool)))=>
   match z with
   | .inl (a0,a1)=>
     Z9 f l m j n g p a0 a1 (IntKind.wrap .i64 (i + (1:Int)))
   | .inr a2=>
     some (.inr a2)
  else
   some (.inl (a,c))
def Zaa (a:Int) (b:Zh):Nat→ZL→Int→Option ZL
 | 0,_,_=>none
 | g+1,c,d=>
  if (decide (d<(List.length b.f_rest:Int)))=true then
   (idx b.f_rest d).bind fun f=>
   if 0≤a∧a<5 then
   if List.length c + List.length [(Arr5.set f a b.f_values)]≤lim then
   Zaa a b g (c++[(Arr5.set f a b.f_values)]) (IntKind.wrap .i64 (d + (1:Int)))
   else none
   else none
  else
   some c
def Z3 (c:Int) (a:(List Zh)):Nat→ZL→Int→Option ZL
 | 0,_,_=>none
 | f+1,d,b=>
  if (decide (b<(List.length a:Int)))=true then
   (idx a b).bind fun g=>
   (Zaa c g fuel d (0:Int)).bind fun i=>
    Z3 c a f i (IntKind.wrap .i64 (b + (1:Int)))
  else
   some d
def Z1:Nat→Int→ZL→ZL→Int→Option (ZL × Bool)
 | 0,_,_,_,_=>none
 | nr+1,a,b,c,f=>
  if (a == (5:Int))=true then
   (Zcy (decide ((List.length b:Int) > (0:Int))) (decide ((List.length c:Int) > (0:Int)))).bind fun g=>
   if g=true then
    some ([(Arr5.mk Zt Zt Zt Zt Zt)],true)
   else
    some (([]:ZL),true)
  else
   (some ((IntKind.wrap .i64 ((List.length b:Int) + (List.length c:Int))) == (0:Int))).bind fun i=>
   (if i=true then
    (Zcy false false).bind fun j=>
    some (!j)
    else some false).bind fun k=>
   if k=true then
    some (([]:ZL),true)
   else
    (Zdk a [b,c]).bind fun l=>
    (Z9 a b c f (Z1 nr) l fuel ([]:(List Zh)) (0:Int) (0:Int)).bind fun(m:(((List Zh) × Int) ⊕ (ZL × Bool)))=>
    match m with
    | .inl (n,d)=>
      if 0≤d∧d≤(lim:Int) then
      (Z3 a n fuel ([]:ZL) (0:Int)).bind fun o=>
       some (o,true)
      else none
    | .inr p=>
      some p
def Zbg (b:ZL) (c:ZL):Option (ZL × Int):=
 (Z1 fuel (0:Int) b c (4096:Int)).bind fun a=>
 if (!a.2)=true then
  some (([]:ZL),(3:Int))
 else
  some (a.1,(0:Int))
def Zcd (a:ZL):Nat→ZL→Int→Option (ZL ⊕ (ZL × Int))
 | 0,_,_=>none
 | f+1,d,b=>
  if (decide (b<(List.length a:Int)))=true then
   (idx a b).bind fun g=>
   (Zbg d [g]).bind fun c=>
   if (c.2 != (0:Int))=true then
    some (.inr (([]:ZL),c.2))
   else
    Zcd a f c.1 (IntKind.wrap .i64 (b + (1:Int)))
  else
   some (.inl d)
def Zee (a:ZL):Option (ZL × Int):=
 (Zda a).bind fun b=>
 (Zcd b fuel ([]:ZL) (0:Int)).bind fun(c:(ZL ⊕ (ZL × Int)))=>
 match c with
 | .inl d=>
   some (d,(0:Int))
 | .inr f=>
   some f
def Ze8 (a:ZL):Option (ZL × Int):=
 (Zdb a).bind fun c=>
 if c=true then
  some (a,(0:Int))
 else
  (Zee a).bind fun b=>
  some (b.1,b.2)
def Ze4 (a:Int):Option Zl:=
 some (Zl.mk (0:Int) a)
def Zd6 (a:Zb):Option Int:=
 some (IntKind.wrap .u64 ((IntKind.wrap .u64 ((IntKind.wrap .u64 a.Hi) - (IntKind.wrap .u64 a.Lo))) + (1:Int)))
def Zdc (a:Int) (b:Int):Option (Int × Int):=
 some ((IntKind.wrap .u64 ((IntKind.wrap .u64 ((IntKind.wrap .u64 ((bShr .u64 a (32:Int)) * (bShr .u64 b (32:Int)))) + (bShr .u64 (IntKind.wrap .u64 ((IntKind.wrap .u64 ((bShr .u64 a (32:Int)) * (bAnd .u64 b (4294967295:Int)))) + (bShr .u64 (IntKind.wrap .u64 ((bAnd .u64 a (4294967295:Int)) * (bAnd .u64 b (4294967295:Int)))) (32:Int)))) (32:Int)))) + (bShr .u64 (IntKind.wrap .u64 ((bAnd .u64 (IntKind.wrap .u64 ((IntKind.wrap .u64 ((bShr .u64 a (32:Int)) * (bAnd .u64 b (4294967295:Int)))) + (bShr .u64 (IntKind.wrap .u64 ((bAnd .u64 a (4294967295:Int)) * (bAnd .u64 b (4294967295:Int)))) (32:Int)))) (4294967295:Int)) + (IntKind.wrap .u64 ((bAnd .u64 a (4294967295:Int)) * (bShr .u64 b (32:Int)))))) (32:Int)))),(IntKind.wrap .u64 (a * b)))
def Zef (c:Zl) (d:Int):Option (Zl × Bool):=
 (Zdc c.Lo d).bind fun a=>
 (Zdc c.Hi d).bind fun b=>
 if 0≤b.2∧0≤a.1∧0≤(0:Int)∧(0:Int)≤1 then
 (some (b.1 == (0:Int))).bind fun f=>
 some ((Zl.mk ((b.2 + a.1 + (0:Int)) % 18446744073709551616) a.2),(f && (((b.2 + a.1 + (0:Int)) / 18446744073709551616) == (0:Int))))
 else none
def Zb6 (c:ZB) (b:Int):Nat→Zl→Int→Option Zl
 | 0,_,_=>none
 | f+1,d,a=>
  if (decide (a<(((Int.toNat (5:Int) - Int.toNat b):Nat):Int)))=true then
   if 0≤a∧a<(((Int.toNat (5:Int) - Int.toNat b):Nat):Int) then
   if 0≤(b + a)∧(b + a)<5 then
   (Zd6 (Arr5.get c (b + a))).bind fun g=>
   (Zef d g).bind fun i=>
   Zb6 c b f i.1 (IntKind.wrap .i64 (a + (1:Int)))
   else none
   else none
  else
   some d
def Zd7 (b:ZB) (a:Int):Option Zl:=
 (Ze4 (1:Int)).bind fun c=>
 if 0≤a∧a≤(5:Int)∧(5:Int)≤(5:Int) then
 (Zb6 b a fuel c (0:Int)).bind fun d=>
  some d
 else none
def Zdl (a:Zl) (b:Zl):Option Zl:=
 if 0≤a.Lo∧0≤b.Lo∧0≤(0:Int)∧(0:Int)≤1 then
 if 0≤a.Hi∧0≤b.Hi∧0≤((a.Lo + b.Lo + (0:Int)) / 18446744073709551616)∧((a.Lo + b.Lo + (0:Int)) / 18446744073709551616)≤1 then
 some (Zl.mk ((a.Hi + b.Hi + ((a.Lo + b.Lo + (0:Int)) / 18446744073709551616)) % 18446744073709551616) ((a.Lo + b.Lo + (0:Int)) % 18446744073709551616))
 else none
 else none
def Zbz (a:ZL) (c:Int):Nat→Zl→Int→Option Zl
 | 0,_,_=>none
 | f+1,d,b=>
  if (decide (b<(List.length a:Int)))=true then
   (idx a b).bind fun g=>
   (Zd7 g c).bind fun i=>
   (Zdl d i).bind fun j=>
   Zbz a c f j (IntKind.wrap .i64 (b + (1:Int)))
  else
   some d
def Zeg (a:ZL) (b:Int):Option Zl:=
 (Zbz a b fuel Za3 (0:Int)).bind fun c=>
  some c
def Zcu (b:ZL):Option (Zl × Int):=
 (Ze8 b).bind fun a=>
 if (a.2 != (0:Int))=true then
  some ((Zl.mk (0:Int) (0:Int)),a.2)
 else
  (Zeg a.1 (0:Int)).bind fun c=>
  some (c,(0:Int))
def Zdm (k:(List Int)):Option Bool:=
 (Zgs k).bind fun l=>
 (Zc8 l (3:Int)).bind fun a=>
 (Zc8 a.2 (3:Int)).bind fun b=>
 (Zet a.1 b.1).bind fun c=>
 (Zdi a.1 b.1).bind fun d=>
 (some (c.2 != (0:Int))).bind fun m=>
 if (m || (d.2 != (0:Int)))=true then
  (Zfx).bind fun n=>
  some n
 else
  (Zcu a.1).bind fun f=>
  (Zcu b.1).bind fun g=>
  (Zcu c.1).bind fun i=>
  (Zcu d.1).bind fun j=>
  (some (f.2 == (0:Int))).bind fun o=>
  (some (o && (g.2 == (0:Int)))).bind fun p=>
  (some (p && (i.2 == (0:Int)))).bind fun q=>
  (some (q && (j.2 == (0:Int)))).bind fun r=>
  (if r=true then
   (Zdl f.1 g.1).bind fun s=>
   (Zdl i.1 j.1).bind fun t=>
   some (Zh2 s t)
   else some false).bind fun u=>
  (some u).bind fun v=>
  (if v=true then
   (Zfx).bind fun w=>
   some w
   else some false).bind fun x=>
  some x
end Go.AM
set_option maxRecDepth 1000000
namespace Go.AM
open Go Go.Proofs
def glob:Glob:=[(0,Znb Zdz)]
def T0:Tab:=[]
theorem T0_ok:T0.ok Tryz.prog glob:=Tab.nil
def T1:Tab:=(50,[.sc (.agg #[.int .u64 0,.int .u64 1]),.sc (.agg #[.int .u64 256,.int .u64 0]),.sc (.int .u64 4294967295)],.sc (.int .u64 0)) :: T0
theorem T1_ok:T1.ok Tryz.prog glob:=Tab.cons T0_ok 100000 (by kernel_rfl)
def T2:Tab:=(50,[.sc (.agg #[.int .u64 0,.int .u64 1]),.sc (.agg #[.int .u64 0,.int .u64 1099511627776]),.sc (.int .u64 4294967295)],.sc (.int .u64 0)) :: T1
theorem T2_ok:T2.ok Tryz.prog glob:=Tab.cons T1_ok 100000 (by kernel_rfl)
def T3:Tab:=(50,[.sc (.agg #[.int .u64 0,.int .u64 1]),.sc (.agg #[.int .u64 0,.int .u64 4294967296]),.sc (.int .u64 255)],.sc (.int .u64 0)) :: T2
theorem T3_ok:T3.ok Tryz.prog glob:=Tab.cons T2_ok 100000 (by kernel_rfl)
def T4:Tab:=(50,[.sc (.agg #[.int .u64 0,.int .u64 1]),.sc (.agg #[.int .u64 0,.int .u64 65536]),.sc (.int .u64 65535)],.sc (.int .u64 0)) :: T3
theorem T4_ok:T4.ok Tryz.prog glob:=Tab.cons T3_ok 100000 (by kernel_rfl)
def T5:Tab:=(50,[.sc (.agg #[.int .u64 0,.int .u64 1]),.sc (.agg #[.int .u64 0,.int .u64 1]),.sc (.int .u64 65535)],.sc (.int .u64 1)) :: T4
theorem T5_ok:T5.ok Tryz.prog glob:=Tab.cons T4_ok 100000 (by kernel_rfl)
def T6:Tab:=(23,[.sl 10 [[.sc (.int .u32 0),.sc (.int .u32 4294967295),.sc (.int .u32 0),.sc (.int .u32 4294967295),.sc (.int .u32 0),.sc (.int .u32 255),.sc (.int .u32 0),.sc (.int .u32 65535),.sc (.int .u32 0),.sc (.int .u32 65535)]],.sc (.agg #[.int .u64 0,.int .u64 1])],.tup [.sc (.agg #[.int .u32 0,.int .u32 0,.int .u8 0,.int .u16 0,.int .u16 1]),.sc (.bool true)]) :: T5
theorem T6_ok:T6.ok Tryz.prog glob:=Tab.cons T5_ok 100000 (by kernel_rfl)
def T7:Tab:=(25,[.sc (.agg #[.int .u64 1099511627776,.int .u64 0])],.sc (.string (ByteArray.mk #[50,48,50,56,50,52,48,57,54,48,51,54,53,49,54,55,48,52,50,51,57,52,55,50,53,49,50,56,54,48,49,54]))) :: T6
theorem T7_ok:T7.ok Tryz.prog glob:=Tab.cons T6_ok 100000 (by kernel_rfl)
def T8:Tab:=(9,[],.sc (.bool true)) :: T7
theorem T8_ok:T8.ok Tryz.prog glob:=Tab.cons T7_ok 100000 (by kernel_rfl)
end Go.AM
set_option maxRecDepth 100000
namespace Go.AM
open Go Go.Proofs
def Zn8 (r:Bool):PV→List Blk→Prop:=fun p K=>p=(vb r)∧K=[]
theorem Zi6 (r:Bool) (hF:Zfx=some r):ACall Tryz.prog glob 9 [] [] (Zn8 r):=by
 have hr:=someb hF
 subst hr
 exact(T8_ok _ (List.mem_cons.2 (.inl rfl))).1
def Zqb (r:Zd):PV→List Blk→Prop:=fun p K=>p=(.ptr 0 0)∧K=[.cells (Ze r)]
theorem Zqc (a:(List Int)) (r:Zd) (hF:Zgs a=some r):ACall Tryz.prog glob 5 [(slc 1 Z5 a)] [] (Zqb r):=by
 refine ACall.body Tryz.func5 rfl (by kernel_rfl) ?_
 unfold Zgs at hF
 refine AWP.seq (AWP.rg0 [] [(0,(slc 1 Z5 a))] (AWP.seq (AWP.rg [] [(2,(.ptr 0 0))] [.cells (Ze (Zd.mk a (0:Int)))] (AWP.ret ?_))))
 have hr:=someb hF
 subst hr
 exact(FnQ.f0 1 (.inr rfl))
def Zqd (r:Int):PV→List Blk→Prop:=fun p K=>p=(i64 r)∧K=[]
theorem Zkf (a:Int) (b:Int) (r:Int) (hF:Ze5 a b=some r):ACall Tryz.prog glob 41 [(i64 a),(i64 b)] [] (Zqd r):=by
 refine ACall.body Tryz.func41 rfl (by kernel_rfl) ?_
 unfold Ze5 at hF
 refine AWP.seq (AWP.rg0 [] [(0,(i64 a)),(1,(i64 b))] (AWP.seq ?_))
 obtain⟨c,hF⟩:=chkb hF
 refine AWP.rg0 [(4,.rem c)] [(4,(i64 (ZI (Int.tmod (IntKind.wrap .u64 a) (IntKind.wrap .u64 b)))))] (AWP.ret ?_)
 have hr:=someb hF
 subst hr
 exact(FnQ.f0 0 (.inr rfl))
def Zkg (r:(Int × Zd)):PV→List Blk→Prop:=fun p K=>p=(i64 r.1)∧K=[.cells (Ze r.2)]
theorem Zan (a:Zd) (b:Int) (r:(Int × Zd)) (hF:Zy a b=some r):ACall Tryz.prog glob 18 [(.ptr 0 0),(i64 b)] [.cells (Ze a)] (Zkg r):=by
 refine ACall.body Tryz.func18 rfl (by kernel_rfl) ?_
 unfold Zy at hF
 refine AWP.seq (AWP.rg0 [] [(0,(.ptr 0 0)),(1,(i64 b))] (AWP.seq (AWP.seq ?_)))
 obtain⟨b1,c,hF⟩:=bindb hF
 replace c:=someb c
 refine AWP.to [(0,(.ptr 0 0)),(1,(i64 b)),(18,(vb (b1 || (decide (a.f_i ≥ (List.length a.f_l:Int))))))] [.cells (Ze a)] ?_ ?_
 ·cases b1 with
  | false=>
   exact AWP.drT [(2,.bool c),(11,.len Z5 a.f_l)] 14 [] [] []
  | true=>
   exact AWP.drT [(2,.bool c)] 14 [] [] []
 refine AWP.cif hF (fun f hF=>?_) (fun f hF=>?_)
 ·refine AWP.seq (AWP.rg0 [] [(4,(i64 (0:Int)))] (AWP.ret ?_))
  have hr:=someb hF
  subst hr
  exact(FnQ.f0 1 (.inr rfl))
 ·refine AWP.skip (AWP.seq (AWP.rg [] [(0,(.ptr 0 0)),(1,(i64 b))] [.cells (Ze ({ a with f_i:=(ZI (a.f_i + (1:Int))) }:Zd))] (AWP.seq ?_)))
  obtain⟨g,i,hF⟩:=bindb hF
  obtain⟨d,j,hF⟩:=bindb hF
  refine AWP.dr [(9,.idx Z5 i),(12,.call Tryz.func41 [] (Zkf g b d j))] 13 [] [] [] [(4,(i64 d))] [.cells (Ze ({ a with f_i:=(ZI (a.f_i + (1:Int))) }:Zd))] (AWP.ret ?_)
  have hr:=someb hF
  subst hr
  exact(FnQ.f0 1 (.inr rfl))
def Zjx (r:Int):PV→List Blk→Prop:=fun p K=>p=(u32 r)∧K=[]
abbrev Zpn (r:Int):Exit→St→List Blk→Prop:=FnQ Tryz.prog Tryz.f31.results 0 (Zjx r)
theorem Zgb (a:Int) (r:Int) (hF:Zd0 a=some r):ACall Tryz.prog glob 31 [(i64 a)] [] (Zjx r):=by
 refine ACall.body Tryz.func31 rfl (by kernel_rfl) ?_
 unfold Zd0 at hF
 refine AWP.seq (AWP.rg0 [] [(0,(i64 a))] ?_)
 obtain⟨b,c,hF⟩:=bindb hF
 refine AWP.seq ?_
 refine AWP.mid (fun e st H=>(e=.normal∧b=(.inl ())∧st=[]∧H=[])∨(e=.ret∧∃ r,b=(.inr r)∧Zpn r e st H)) ?_ ?_
 ·clear hF
  have hF:=c
  refine AWP.seq (AWP.rg0 [] [(3,(i64 a))] (AWP.block ?_))
  obtain⟨d,f,hF⟩:=bindb hF
  refine AWP.seq ?_
  refine AWP.mid (fun e st H=>e=.normal∧st=[(3,(i64 a)),(4,(vb d))]∧H=[]) ?_ ?_
  ·clear hF
   have hF:=f
   refine AWP.seq (AWP.rg0 [] [(3,(i64 a)),(4,(vb (a == (0:Int))))] ?_)
   refine AWP.cif hF (fun g hF=>?_) (fun g hF=>?_)
   ·refine AWP.skip (LeQ.start (LeQ.pk [3,4] 0 ?_))
    have hr:=someb hF
    subst hr
    exact⟨rfl,by kernel_rfl,by kernel_rfl⟩
   ·refine AWP.rg0 [] [(3,(i64 a)),(4,(vb (a == (1:Int))))] (LeQ.start (LeQ.pk [3,4] 0 ?_))
    have hr:=someb hF
    subst hr
    exact⟨rfl,by kernel_rfl,by kernel_rfl⟩
  ·rintro _ _ _ ⟨rfl,rfl,rfl⟩
   refine AWP.cif hF (fun i hF=>?_) (fun i hF=>?_)
   ·refine AWP.seq (AWP.rg0 [] [(2,(u32 (4294967295:Int)))] (AWP.ret ?_))
    exact LeQ.of (.inr ⟨rfl,(4294967295:Int),(someb hF).symm,(FnQ.f0 0 (.inr rfl))⟩)
   ·refine AWP.seq (AWP.rg0 [] [(3,(i64 a)),(7,(vb (a == (2:Int))))] ?_)
    refine AWP.cif hF (fun j hF=>?_) (fun j hF=>?_)
    ·refine AWP.seq (AWP.rg0 [] [(2,(u32 (255:Int)))] (AWP.ret ?_))
     exact LeQ.of (.inr ⟨rfl,(255:Int),(someb hF).symm,(FnQ.f0 0 (.inr rfl))⟩)
    ·obtain⟨k,l,hF⟩:=bindb hF
     refine AWP.seq ?_
     refine AWP.mid (fun e st H=>e=.normal∧st=[(9,(vb k))]∧H=[]) ?_ ?_
     ·clear hF
      have hF:=l
      refine AWP.seq (AWP.rg0 [] [(3,(i64 a)),(9,(vb (a == (3:Int))))] ?_)
      refine AWP.cif hF (fun m hF=>?_) (fun m hF=>?_)
      ·refine AWP.skip (LeQ.start (LeQ.pk [9] 0 ?_))
       have hr:=someb hF
       subst hr
       exact⟨rfl,by kernel_rfl,by kernel_rfl⟩
      ·refine AWP.rg0 [] [(9,(vb (a == (4:Int))))] (LeQ.start (LeQ.pk [9] 0 ?_))
       have hr:=someb hF
       subst hr
       exact⟨rfl,by kernel_rfl,by kernel_rfl⟩
     ·rintro _ _ _ ⟨rfl,rfl,rfl⟩
      refine AWP.cif hF (fun n hF=>?_) (fun n hF=>?_)
      ·refine AWP.seq (AWP.rg0 [] [(2,(u32 (65535:Int)))] (AWP.ret ?_))
       exact LeQ.of (.inr ⟨rfl,(65535:Int),(someb hF).symm,(FnQ.f0 0 (.inr rfl))⟩)
      ·refine AWP.skip (LeQ.start (LeQ.pk [] 0 ?_))
       exact(.inl ⟨rfl,(someb hF).symm,by kernel_rfl,by kernel_rfl⟩)
 ·rintro _ _ _ (⟨rfl,rfl,rfl,rfl⟩ | ⟨rfl,o,rfl,hq⟩)
  ·refine AWP.seq (AWP.rg0 [] [(2,(u32 (0:Int)))] (AWP.ret ?_))
   have hr:=someb hF
   subst hr
   exact(FnQ.f0 0 (.inr rfl))
  ·have hr:=someb hF
   subst hr
   exact hq
def Zn9 (r:ZB):PV→List Blk→Prop:=fun p K=>p=(Za6 r)∧K=[]
theorem Zoa (r:ZB) (hF:Zfy=some r):ACall Tryz.prog glob 22 [] [] (Zn9 r):=by
 refine ACall.body Tryz.func22 rfl (by kernel_rfl) ?_
 unfold Zfy at hF
 refine AWP.seq (AWP.rg [] [(0,(.ptr 0 0))] [.cells (Za Zo)] (AWP.seq (AWP.rg [] [(0,(.ptr 0 0)),(1,(.ptr 1 0))] [.cells (Za Zo),.cells (Za Zo)] (AWP.seq (AWP.seq (AWP.rg0 [] [(0,(.ptr 0 0)),(1,(.ptr 1 0)),(2,(i64 (0:Int)))] ?_))))))
 obtain⟨c,j,hF⟩:=bindb hF
 refine AWP.mid (fun e st H=>e=.normal∧st=[(0,(.ptr 0 0)),(1,(.ptr 1 0))]∧H=[.cells (Za Zo),.cells (Za c)]) ?_ ?_
 ·clear hF
  refine AWP.kp [0,1,2] 2 ?_
  refine AWP.bround (fun n st H=>∃ b,∃ a,Ze2 n b a=some c∧st=[(0,(.ptr 0 0)),(1,(.ptr 1 0)),(2,(i64 a))]∧H=[.cells (Za Zo),.cells (Za b)]) fuel ⟨Zo,(0:Int),j,by kernel_rfl,by kernel_rfl⟩ ?_
  rintro f st H ⟨b,a,hF,rfl,rfl⟩
  cases f with
  | zero=>exact noneb hF
  | succ f=>
   rw [Ze2] at hF
   refine AWP.seq (AWP.seq (AWP.rg0 [] [(0,(.ptr 0 0)),(1,(.ptr 1 0)),(2,(i64 a)),(4,(vb (decide (a<(5:Int)))))] ?_))
   refine AWP.cif hF (fun k hF=>?_) (fun k hF=>?_)
   ·refine AWP.skip (AWP.seq (AWP.block ?_))
    obtain⟨d,l,hF⟩:=bindb hF
    obtain⟨g,hF⟩:=chkb hF
    refine AWP.rg [(2,.call Tryz.func31 [] (Zgb a d l)),(3,.ixd g),(5,.stA (fun i=>Za (Arr5.set b i ({ (Arr5.get b i) with Hi:=d }:Zb))) 0 2 1 g)] [(0,(.ptr 0 0)),(1,(.ptr 1 0)),(2,(i64 a))] [.cells (Za Zo),.cells (Za (Arr5.set b a ({ (Arr5.get b a) with Hi:=d }:Zb)))] (AWP.rg0 [] [(0,(.ptr 0 0)),(1,(.ptr 1 0)),(2,(i64 (ZI (a + (1:Int)))))] (LeQ.start (LeQ.pk [0,1,2] 2 ?_)))
    exact⟨f,Nat.lt_succ_self _,(Arr5.set b a ({ (Arr5.get b a) with Hi:=d }:Zb)),(ZI (a + (1:Int))),hF,by kernel_rfl,by kernel_rfl⟩
   ·refine AWP.exit (LeQ.start (LeQ.pk [0,1] 2 ?_))
    have hr:=someb hF
    subst hr
    exact⟨rfl,by kernel_rfl,by kernel_rfl⟩
 ·rintro _ _ _ ⟨rfl,rfl,rfl⟩
  refine AWP.seq (AWP.rg [] [(0,(.ptr 0 0))] [.cells (Za c),.cells (Za c)] (AWP.ret ?_))
  have hr:=someb hF
  subst hr
  exact(FnQ.f0 0 (.inr rfl))
def Zne (r:Za0):PV→List Blk→Prop:=fun p K=>p=(Zhn r)∧K=[]
theorem Zid (a:Int) (r:Za0) (hF:Zdr a=some r):ACall Tryz.prog glob 69 [(i64 a)] [] (Zne r):=by
 refine ACall.body Tryz.func69 rfl (by kernel_rfl) ?_
 unfold Zdr at hF
 refine AWP.seq (AWP.rg [] [(0,(i64 a)),(2,(.ptr 0 0))] [.cells (Zb0 Zp9)] (AWP.seq ?_))
 obtain⟨b,c,hF⟩:=bindb hF
 obtain⟨d,f,hF⟩:=bindb hF
 refine AWP.rg [(8,.call Tryz.func41 [] (Zkf a (6:Int) b c)),(9,.idx Zb0 f)] [(2,(.ptr 0 0))] [.cells (Zb0 d)] (AWP.ret ?_)
 have hr:=someb hF
 subst hr
 exact(FnQ.f0 0 (.inr rfl))
def Zob (r:Int):PV→List Blk→Prop:=fun p K=>p=(u64 r)∧K=[]
theorem Zi7 (a:Int) (r:Int) (hF:Zfz a=some r):ACall Tryz.prog glob 91 [(i64 a)] [] (Zob r):=by
 refine ACall.body Tryz.func91 rfl (by kernel_rfl) ?_
 unfold Zfz at hF
 refine AWP.seq (AWP.rg0 [] [(0,(i64 a))] (AWP.seq ?_))
 obtain⟨b,hF⟩:=chkb hF
 refine AWP.rg0 [(3,.sh b)] [(2,(u64 (bShl .u64 (1:Int) (IntKind.wrap .u64 (ZI ((32:Int) - a))))))] (AWP.ret ?_)
 have hr:=someb hF
 subst hr
 exact(FnQ.f0 0 (.inr rfl))
def Znf (r:Bool):PV→List Blk→Prop:=fun p K=>p=(vb r)∧K=[]
theorem Zng (b:Za0) (r:Bool) (hF:Zgt b=some r):ACall Tryz.prog glob 90 [(Zhn b)] [] (Znf r):=by
 refine ACall.body Tryz.func90 rfl (by kernel_rfl) ?_
 unfold Zgt at hF
 refine AWP.seq (AWP.rg [] [(1,(.ptr 0 0))] [.cells (Zb0 b)] (AWP.seq ?_))
 obtain⟨b1,c,hF⟩:=bindb hF
 replace c:=someb c
 obtain⟨g,d,hF⟩:=bindb hF
 replace d:=someb d
 obtain⟨i,f,hF⟩:=bindb hF
 refine AWP.to [(2,(vb i))] [.cells (Zb0 b)] ?_ ?_
 ·cases b1 with
  | false=>
   subst d
   have j:=someb (ifF f rfl)
   subst j
   exact AWP.drT [(3,.bool c)] 18 [] [] []
  | true=>
   cases g with
   | false=>
    have k:=someb (ifF f rfl)
    subst k
    exact AWP.drT [(3,.bool c),(8,.bool d)] 18 [] [] []
   | true=>
    have a:=ifT f rfl
    obtain⟨l,m,a⟩:=bindb a
    obtain⟨n,a⟩:=chkb a
    replace a:=someb a
    subst a
    exact AWP.drT [(3,.bool c),(8,.bool d),(14,.call Tryz.func91 [] (Zi7 b.Bits l m)),(15,.rem n)] 18 [] [] []
 refine AWP.ret ?_
 have hr:=someb hF
 subst hr
 exact(FnQ.f0 0 (.inr rfl))
def Zqe (r:(Zb × Bool)):PV→List Blk→Prop:=fun p K=>p=(.tup [(Zgr r.1),(vb r.2)])∧K=[]
theorem Zkh (a:Za0) (r:(Zb × Bool)) (hF:Zfn a=some r):ACall Tryz.prog glob 70 [(Zhn a)] [] (Zqe r):=by
 refine ACall.body Tryz.func70 rfl (by kernel_rfl) ?_
 unfold Zfn at hF
 refine AWP.seq (AWP.rg [] [(1,(.ptr 0 0)),(2,(.ptr 1 0))] [.cells (Zb0 a),.cells (Zf Zt)] (AWP.seq (AWP.seq ?_)))
 obtain⟨b,d,hF⟩:=bindb hF
 refine AWP.rg0 [(1,.call Tryz.func90 [] (Zng a b d))] [(1,(.ptr 0 0)),(2,(.ptr 1 0)),(6,(vb (!b)))] ?_
 refine AWP.cif hF (fun f hF=>?_) (fun f hF=>?_)
 ·refine AWP.seq (AWP.rg [] [(2,(.ptr 1 0)),(3,(vb false))] [.cells (Zb0 a),.cells (Zf (Zb.mk (0:Int) (0:Int)))] (AWP.ret ?_))
  have hr:=someb hF
  subst hr
  exact(FnQ.f0 0 (.inr rfl))
 ·refine AWP.skip (AWP.seq ?_)
  obtain⟨c,g,hF⟩:=bindb hF
  refine AWP.dr [(7,.call Tryz.func91 [] (Zi7 a.Bits c g))] 12 [] [] [] [(2,(.ptr 1 0)),(3,(vb true))] [.cells (Zb0 a),.cells (Zf (Zb.mk a.Addr (IntKind.wrap .u32 (IntKind.wrap .u64 ((IntKind.wrap .u64 ((IntKind.wrap .u64 a.Addr) + c)) - (1:Int))))))] (AWP.ret ?_)
  have hr:=someb hF
  subst hr
  exact(FnQ.f0 0 (.inr rfl))
def Zki (r:(Int × Zd)):PV→List Blk→Prop:=fun p K=>p=(u32 r.1)∧K=[.cells (Ze r.2)]
theorem Zfo (d:Zd) (r:(Int × Zd)) (hF:Zcf d=some r):ACall Tryz.prog glob 39 [(.ptr 0 0)] [.cells (Ze d)] (Zki r):=by
 refine ACall.body Tryz.func39 rfl (by kernel_rfl) ?_
 unfold Zcf at hF
 refine AWP.seq (AWP.rg0 [] [(0,(.ptr 0 0))] (AWP.seq (AWP.seq ?_)))
 obtain⟨a,j,hF⟩:=bindb hF
 refine AWP.rg [(1,.call Tryz.func18 [] (Zan d (5:Int) a j))] [(0,(.ptr 0 0)),(8,(vb (a.1 == (4:Int))))] [.cells (Ze a.2)] ?_
 refine AWP.cif hF (fun k hF=>?_) (fun k hF=>?_)
 ·refine AWP.seq ?_
  obtain⟨g,l,hF⟩:=bindb hF
  obtain⟨m,n,hF⟩:=bindb hF
  refine AWP.rg [(2,.call Tryz.func18 [] (Zan a.2 (6:Int) g l)),(3,.idx Zht n)] [(2,(u32 m))] [.cells (Ze g.2)] (AWP.ret ?_)
  have hr:=someb hF
  subst hr
  exact(FnQ.f0 1 (.inr rfl))
 ·refine AWP.skip (AWP.seq ?_)
  obtain⟨b,o,hF⟩:=bindb hF
  obtain⟨c,p,hF⟩:=bindb hF
  refine AWP.rg [(1,.call Tryz.func18 [] (Zan a.2 (6:Int) b o)),(2,.call Tryz.func69 [] (Zid b.1 c p))] [(0,(.ptr 0 0)),(3,(.ptr 1 0))] [.cells (Ze b.2),.cells (Zb0 c)] (AWP.seq ?_)
  obtain⟨f,q,hF⟩:=bindb hF
  refine AWP.rg [(1,.call Tryz.func70 [] (Zkh c f q))] [(0,(.ptr 0 0)),(4,(.ptr 2 0))] [.cells (Ze b.2),.cells (Zb0 c),.cells (Zf f.1)] (AWP.seq ?_)
  obtain⟨i,s,hF⟩:=bindb hF
  obtain⟨t,u,hF⟩:=bindb hF
  refine AWP.dr [(15,.call Tryz.func18 [] (Zan b.2 (5:Int) i s)),(16,.idx Zht u)] 18 [] [15] [] [(2,(u32 t))] [.cells (Ze i.2),.cells (Zb0 c),.cells (Zf f.1)] (AWP.ret ?_)
  have hr:=someb hF
  subst hr
  exact(FnQ.f0 1 (.inr rfl))
def Zh5 (r:(Zb × Zd)):PV→List Blk→Prop:=fun p K=>p=(Zgr r.1)∧K=[.cells (Ze r.2)]
theorem Zf3 (f:Zd) (r:(Zb × Zd)) (hF:Zb3 f=some r):ACall Tryz.prog glob 57 [(.ptr 0 0)] [.cells (Ze f)] (Zh5 r):=by
 refine ACall.body Tryz.func57 rfl (by kernel_rfl) ?_
 unfold Zb3 at hF
 refine AWP.seq (AWP.rg [] [(0,(.ptr 0 0)),(2,(.ptr 1 0))] [.cells (Ze f),.cells (Zf Zt)] (AWP.seq (AWP.seq ?_)))
 obtain⟨a,k,hF⟩:=bindb hF
 refine AWP.rg [(1,.call Tryz.func18 [] (Zan f (4:Int) a k))] [(0,(.ptr 0 0)),(2,(.ptr 1 0)),(9,(i64 a.1))] [.cells (Ze a.2),.cells (Zf Zt)] (AWP.block (AWP.seq (AWP.rg0 [] [(0,(.ptr 0 0)),(2,(.ptr 1 0)),(9,(i64 a.1)),(10,(vb (a.1 == (0:Int))))] ?_)))
 refine AWP.cif hF (fun l hF=>?_) (fun l hF=>?_)
 ·refine AWP.seq ?_
  obtain⟨g,m,hF⟩:=bindb hF
  obtain⟨j,n,hF⟩:=bindb hF
  obtain⟨i,o,hF⟩:=bindb hF
  refine AWP.rg [(1,.call Tryz.func18 [] (Zan a.2 (6:Int) g m)),(2,.call Tryz.func69 [] (Zid g.1 j n)),(3,.call Tryz.func70 [] (Zkh j i o))] [(2,(.ptr 1 0)),(3,(.ptr 2 0))] [.cells (Ze g.2),.cells (Zf Zt),.cells (Zf i.1)] (AWP.seq (AWP.rg [] [(2,(.ptr 1 0))] [.cells (Ze g.2),.cells (Zf i.1),.cells (Zf i.1)] (AWP.ret ?_)))
  have hr:=someb hF
  subst hr
  exact(FnQ.f0 1 (.inr rfl))
 ·refine AWP.seq (AWP.rg0 [] [(0,(.ptr 0 0)),(2,(.ptr 1 0)),(9,(i64 a.1)),(20,(vb (a.1 == (1:Int))))] ?_)
  refine AWP.cif hF (fun p hF=>?_) (fun p hF=>?_)
  ·refine AWP.seq ?_
   obtain⟨d,q,hF⟩:=bindb hF
   obtain⟨b,s,hF⟩:=bindb hF
   refine AWP.rg [(1,.call Tryz.func39 [] (Zfo a.2 d q)),(3,.call Tryz.func39 [] (Zfo d.2 b s))] [(2,(.ptr 1 0)),(5,(u32 d.1)),(6,(u32 b.1))] [.cells (Ze b.2),.cells (Zf Zt)] (AWP.seq (AWP.rg [] [(2,(.ptr 1 0))] [.cells (Ze b.2),.cells (Zf (Zb.mk (iMin d.1 b.1) (iMax d.1 b.1)))] (AWP.ret ?_)))
   have hr:=someb hF
   subst hr
   exact(FnQ.f0 1 (.inr rfl))
  ·refine AWP.seq (AWP.rg0 [] [(0,(.ptr 0 0)),(2,(.ptr 1 0)),(33,(vb (a.1 == (2:Int))))] ?_)
   refine AWP.cif hF (fun t hF=>?_) (fun t hF=>?_)
   ·refine AWP.seq ?_
    obtain⟨c,u,hF⟩:=bindb hF
    refine AWP.rg [(1,.call Tryz.func39 [] (Zfo a.2 c u))] [(2,(.ptr 1 0)),(7,(u32 c.1))] [.cells (Ze c.2),.cells (Zf Zt)] (AWP.seq (AWP.rg [] [(2,(.ptr 1 0))] [.cells (Ze c.2),.cells (Zf (Zb.mk c.1 c.1))] (AWP.ret ?_)))
    have hr:=someb hF
    subst hr
    exact(FnQ.f0 1 (.inr rfl))
   ·refine AWP.skip (AWP.seq (AWP.rg [] [(2,(.ptr 1 0))] [.cells (Ze a.2),.cells (Zf (Zb.mk (0:Int) (4294967295:Int)))] (AWP.ret ?_)))
    have hr:=someb hF
    subst hr
    exact(FnQ.f0 1 (.inr rfl))
def Zjl (r:(Int × Zd)):PV→List Blk→Prop:=fun p K=>p=(u32 r.1)∧K=[.cells (Ze r.2)]
theorem Zgu (b:Zd) (a:Int) (r:(Int × Zd)) (hF:Zcm b a=some r):ACall Tryz.prog glob 40 [(.ptr 0 0),(u32 a)] [.cells (Ze b)] (Zjl r):=by
 refine ACall.body Tryz.func40 rfl (by kernel_rfl) ?_
 unfold Zcm at hF
 refine AWP.seq (AWP.rg0 [] [(0,(.ptr 0 0)),(1,(u32 a))] (AWP.seq ?_))
 obtain⟨c,f,hF⟩:=bindb hF
 obtain⟨d,g,hF⟩:=bindb hF
 refine AWP.rg [(7,.call Tryz.func18 [] (Zan b (17:Int) c f)),(8,.idx Zht g)] [(1,(u32 a)),(5,(u32 d))] [.cells (Ze c.2)] (AWP.seq (AWP.rg0 [] [(4,(u32 (iMin d a)))] (AWP.ret ?_)))
 have hr:=someb hF
 subst hr
 exact(FnQ.f0 1 (.inr rfl))
def Zjz (r:(Zb × Zd)):PV→List Blk→Prop:=fun p K=>p=(Zgr r.1)∧K=[.cells (Ze r.2)]
theorem Zg8 (d:Zd) (b:Int) (r:(Zb × Zd)) (hF:Zcr d b=some r):ACall Tryz.prog glob 58 [(.ptr 0 0),(u32 b)] [.cells (Ze d)] (Zjz r):=by
 refine ACall.body Tryz.func58 rfl (by kernel_rfl) ?_
 unfold Zcr at hF
 refine AWP.seq (AWP.rg [] [(0,(.ptr 0 0)),(1,(u32 b)),(4,(.ptr 1 0))] [.cells (Ze d),.cells (Zf Zt)] (AWP.seq ?_))
 obtain⟨c,f,hF⟩:=bindb hF
 obtain⟨a,g,hF⟩:=bindb hF
 refine AWP.rg [(2,.call Tryz.func40 [] (Zgu d b c f)),(5,.call Tryz.func40 [] (Zgu c.2 b a g))] [(4,(.ptr 1 0)),(5,(u32 c.1)),(6,(u32 a.1))] [.cells (Ze a.2),.cells (Zf Zt)] (AWP.seq (AWP.rg [] [(4,(.ptr 1 0))] [.cells (Ze a.2),.cells (Zf (Zb.mk (iMin c.1 a.1) (iMax c.1 a.1)))] (AWP.ret ?_)))
 have hr:=someb hF
 subst hr
 exact(FnQ.f0 1 (.inr rfl))
def Zk2 (r:(ZB × Zd)):PV→List Blk→Prop:=fun p K=>p=(Za6 r.1)∧K=[.cells (Ze r.2)]
theorem Zk3 (d:Zd) (r:(ZB × Zd)) (hF:Zd4 d=some r):ACall Tryz.prog glob 29 [(.ptr 0 0)] [.cells (Ze d)] (Zk2 r):=by
 refine ACall.body Tryz.func29 rfl (by kernel_rfl) ?_
 unfold Zd4 at hF
 refine AWP.seq (AWP.rg [] [(0,(.ptr 0 0)),(2,(.ptr 1 0))] [.cells (Ze d),.cells (Za Zo)] (AWP.seq ?_))
 obtain⟨p,x,hF⟩:=bindb hF
 refine AWP.rg [(0,.call Tryz.func22 [] (Zoa p x))] [(0,(.ptr 0 0)),(2,(.ptr 1 0)),(3,(.ptr 2 0))] [.cells (Ze d),.cells (Za Zo),.cells (Za p)] (AWP.seq (AWP.seq ?_))
 obtain⟨f,y,hF⟩:=bindb hF
 refine AWP.rg [(1,.call Tryz.func18 [] (Zan d (3:Int) f y))] [(0,(.ptr 0 0)),(2,(.ptr 1 0)),(3,(.ptr 2 0)),(4,(i64 (ZI ((1:Int) + f.1))))] [.cells (Ze f.2),.cells (Za Zo),.cells (Za p)] ?_
 obtain⟨w,z,hF⟩:=bindb hF
 refine AWP.mid (fun e st H=>(e=.normal∧∃ q,∃ g,w=(q,g)∧st=[(2,(.ptr 1 0)),(3,(.ptr 2 0))]∧H=[.cells (Ze q),.cells (Za Zo),.cells (Za g)])) ?_ ?_
 ·clear hF
  refine AWP.kp [0,2,3,4] 3 ?_
  refine AWP.bround (fun n st H=>∃ i,∃ b,∃ a,Zbr n i b a=some w∧st=[(0,(.ptr 0 0)),(2,(.ptr 1 0)),(3,(.ptr 2 0)),(4,(i64 a))]∧H=[.cells (Ze i),.cells (Za Zo),.cells (Za b)]) fuel ⟨f.2,p,(ZI ((1:Int) + f.1)),z,by kernel_rfl,by kernel_rfl⟩ ?_
  rintro v st H ⟨i,b,a,hF,rfl,rfl⟩
  cases v with
  | zero=>exact noneb hF
  | succ v=>
   rw [Zbr] at hF
   refine AWP.seq (AWP.seq (AWP.rg0 [] [(0,(.ptr 0 0)),(2,(.ptr 1 0)),(3,(.ptr 2 0)),(4,(i64 a)),(11,(vb (decide (a > (0:Int)))))] ?_))
   refine AWP.cif hF (fun a0 hF=>?_) (fun a0 hF=>?_)
   ·refine AWP.skip ?_
    obtain⟨a1,a2,hF⟩:=bindb hF
    refine AWP.seq ?_
    refine AWP.mid (fun e st H=>(e=.normal∧∃ s,∃ t,a1=(s,t)∧st=[(0,(.ptr 0 0)),(2,(.ptr 1 0)),(3,(.ptr 2 0)),(4,(i64 a))]∧H=[.cells (Ze s),.cells (Za Zo),.cells (Za t)])) ?_ ?_
    ·clear hF
     have hF:=a2
     refine AWP.block (AWP.seq ?_)
     obtain⟨c,a3,hF⟩:=bindb hF
     refine AWP.rg [(1,.call Tryz.func18 [] (Zan i (5:Int) c a3))] [(0,(.ptr 0 0)),(2,(.ptr 1 0)),(3,(.ptr 2 0)),(4,(i64 a)),(15,(i64 c.1))] [.cells (Ze c.2),.cells (Za Zo),.cells (Za b)] (AWP.block (AWP.seq (AWP.rg0 [] [(0,(.ptr 0 0)),(2,(.ptr 1 0)),(3,(.ptr 2 0)),(4,(i64 a)),(15,(i64 c.1)),(19,(vb (c.1 == (0:Int))))] ?_)))
     refine AWP.cif hF (fun a4 hF=>?_) (fun a4 hF=>?_)
     ·obtain⟨j,a5,hF⟩:=bindb hF
      refine AWP.rg [(1,.call Tryz.func57 [] (Zf3 c.2 j a5))] [(0,(.ptr 0 0)),(2,(.ptr 1 0)),(3,(.ptr 2 0)),(4,(i64 a))] [.cells (Ze j.2),.cells (Za Zo),.cells (Za ({ b with x0:=j.1 }:ZB))] (LeQ.start (LeQ.pk [0,2,3,4] 3 ?_))
      exact⟨rfl,j.2,({ b with x0:=j.1 }:ZB),(someb hF).symm,by kernel_rfl,by kernel_rfl⟩
     ·refine AWP.seq (AWP.rg0 [] [(0,(.ptr 0 0)),(2,(.ptr 1 0)),(3,(.ptr 2 0)),(4,(i64 a)),(15,(i64 c.1)),(24,(vb (c.1 == (1:Int))))] ?_)
      refine AWP.cif hF (fun a6 hF=>?_) (fun a6 hF=>?_)
      ·obtain⟨k,a7,hF⟩:=bindb hF
       refine AWP.rg [(1,.call Tryz.func57 [] (Zf3 c.2 k a7))] [(0,(.ptr 0 0)),(2,(.ptr 1 0)),(3,(.ptr 2 0)),(4,(i64 a))] [.cells (Ze k.2),.cells (Za Zo),.cells (Za ({ b with x1:=k.1 }:ZB))] (LeQ.start (LeQ.pk [0,2,3,4] 3 ?_))
       exact⟨rfl,k.2,({ b with x1:=k.1 }:ZB),(someb hF).symm,by kernel_rfl,by kernel_rfl⟩
      ·refine AWP.seq (AWP.rg0 [] [(0,(.ptr 0 0)),(2,(.ptr 1 0)),(3,(.ptr 2 0)),(4,(i64 a)),(15,(i64 c.1)),(29,(vb (c.1 == (2:Int))))] ?_)
       refine AWP.cif hF (fun a8 hF=>?_) (fun a8 hF=>?_)
       ·refine AWP.seq ?_
        obtain⟨u,a9,hF⟩:=bindb hF
        obtain⟨l,b0,hF⟩:=bindb hF
        refine AWP.rg [(2,.call Tryz.func18 [] (Zan c.2 (6:Int) u a9)),(3,.idx Zht b0)] [(0,(.ptr 0 0)),(2,(.ptr 1 0)),(3,(.ptr 2 0)),(4,(i64 a)),(5,(u32 l))] [.cells (Ze u.2),.cells (Za Zo),.cells (Za b)] (AWP.rg [] [(0,(.ptr 0 0)),(2,(.ptr 1 0)),(3,(.ptr 2 0)),(4,(i64 a))] [.cells (Ze u.2),.cells (Za Zo),.cells (Za ({ b with x2:=(Zb.mk l l) }:ZB))] (LeQ.start (LeQ.pk [0,2,3,4] 3 ?_)))
        exact⟨rfl,u.2,({ b with x2:=(Zb.mk l l) }:ZB),(someb hF).symm,by kernel_rfl,by kernel_rfl⟩
       ·refine AWP.seq (AWP.rg0 [] [(0,(.ptr 0 0)),(2,(.ptr 1 0)),(3,(.ptr 2 0)),(4,(i64 a)),(40,(vb (c.1 == (3:Int))))] ?_)
        refine AWP.cif hF (fun b1 hF=>?_) (fun b1 hF=>?_)
        ·obtain⟨m,b2,hF⟩:=bindb hF
         refine AWP.rg [(1,.call Tryz.func58 [] (Zg8 c.2 (65535:Int) m b2))] [(0,(.ptr 0 0)),(2,(.ptr 1 0)),(3,(.ptr 2 0)),(4,(i64 a))] [.cells (Ze m.2),.cells (Za Zo),.cells (Za ({ b with x3:=m.1 }:ZB))] (LeQ.start (LeQ.pk [0,2,3,4] 3 ?_))
         exact⟨rfl,m.2,({ b with x3:=m.1 }:ZB),(someb hF).symm,by kernel_rfl,by kernel_rfl⟩
        ·obtain⟨o,b3,hF⟩:=bindb hF
         refine AWP.rg [(1,.call Tryz.func58 [] (Zg8 c.2 (65535:Int) o b3))] [(0,(.ptr 0 0)),(2,(.ptr 1 0)),(3,(.ptr 2 0)),(4,(i64 a))] [.cells (Ze o.2),.cells (Za Zo),.cells (Za ({ b with x4:=o.1 }:ZB))] (LeQ.start (LeQ.pk [0,2,3,4] 3 ?_))
         exact⟨rfl,o.2,({ b with x4:=o.1 }:ZB),(someb hF).symm,by kernel_rfl,by kernel_rfl⟩
    ·rintro _ _ _ ⟨rfl,s,t,rfl,rfl,rfl⟩
     refine AWP.rg0 [] [(0,(.ptr 0 0)),(2,(.ptr 1 0)),(3,(.ptr 2 0)),(4,(i64 (ZI (a - (1:Int)))))] (LeQ.start (LeQ.pk [0,2,3,4] 3 ?_))
     exact⟨v,Nat.lt_succ_self _,s,t,(ZI (a - (1:Int))),hF,by kernel_rfl,by kernel_rfl⟩
   ·refine AWP.exit (LeQ.start (LeQ.pk [2,3] 3 ?_))
    exact⟨rfl,i,b,(someb hF).symm,by kernel_rfl,by kernel_rfl⟩
 ·rintro _ _ _ ⟨rfl,q,g,rfl,rfl,rfl⟩
  refine AWP.seq (AWP.rg [] [(2,(.ptr 1 0))] [.cells (Ze q),.cells (Za g),.cells (Za g)] (AWP.ret ?_))
  have hr:=someb hF
  subst hr
  exact(FnQ.f0 1 (.inr rfl))
def Ziv (r:(ZB × Zd)):PV→List Blk→Prop:=fun p K=>p=(Za6 r.1)∧K=[.cells (Ze r.2)]
theorem Ziw (f:Zd) (a:ZB) (r:(ZB × Zd)) (hF:Zcs f a=some r):ACall Tryz.prog glob 30 [(.ptr 0 0),(Za6 a)] [.cells (Ze f)] (Ziv r):=by
 refine ACall.body Tryz.func30 rfl (by kernel_rfl) ?_
 unfold Zcs at hF
 refine AWP.seq (AWP.rg [] [(0,(.ptr 0 0)),(3,(.ptr 1 0)),(4,(.ptr 2 0))] [.cells (Ze f),.cells (Za a),.cells (Za Zo)] (AWP.seq ?_))
 obtain⟨b,s,hF⟩:=bindb hF
 refine AWP.rg [(1,.call Tryz.func18 [] (Zan f (5:Int) b s))] [(0,(.ptr 0 0)),(3,(.ptr 1 0)),(4,(.ptr 2 0)),(5,(i64 b.1))] [.cells (Ze b.2),.cells (Za a),.cells (Za Zo)] ?_
 obtain⟨t,u,hF⟩:=bindb hF
 refine AWP.seq ?_
 refine AWP.mid (fun e st H=>(e=.normal∧∃ g,∃ d,t=(g,d)∧st=[(3,(.ptr 1 0)),(4,(.ptr 2 0))]∧H=[.cells (Ze g),.cells (Za d),.cells (Za Zo)])) ?_ ?_
 ·clear hF
  have hF:=u
  refine AWP.seq ?_
  obtain⟨c,v,hF⟩:=bindb hF
  refine AWP.rg [(1,.call Tryz.func18 [] (Zan b.2 (3:Int) c v))] [(3,(.ptr 1 0)),(4,(.ptr 2 0)),(5,(i64 b.1)),(9,(i64 c.1))] [.cells (Ze c.2),.cells (Za a),.cells (Za Zo)] (AWP.block (AWP.seq (AWP.rg0 [] [(3,(.ptr 1 0)),(4,(.ptr 2 0)),(5,(i64 b.1)),(9,(i64 c.1)),(13,(vb (c.1 == (0:Int))))] ?_)))
  refine AWP.cif hF (fun w hF=>?_) (fun w hF=>?_)
  ·obtain⟨i,hF⟩:=chkb hF
   obtain⟨j,hF⟩:=chkb hF
   obtain⟨k,hF⟩:=chkb hF
   obtain⟨l,hF⟩:=chkb hF
   refine AWP.dr [(3,.ixd i),(5,.ldA Zf (Arr5.get a) 0 2 1 i),(7,.ixd j),(9,.ldA Zf (Arr5.get a) 0 2 0 j),(10,.ixd k),(12,.stA (fun m=>Za (Arr5.set a m ({ (Arr5.get a m) with Lo:=(Arr5.get a b.1).Hi }:Zb))) 0 2 0 k),(13,.ixd l),(15,.stA (fun n=>Za (Arr5.set (Arr5.set a b.1 ({ (Arr5.get a b.1) with Lo:=(Arr5.get a b.1).Hi }:Zb)) n ({ (Arr5.get (Arr5.set a b.1 ({ (Arr5.get a b.1) with Lo:=(Arr5.get a b.1).Hi }:Zb)) n) with Hi:=(Arr5.get a b.1).Lo }:Zb))) 0 2 1 l)] 13 [] [12] [] [(3,(.ptr 1 0)),(4,(.ptr 2 0))] [.cells (Ze c.2),.cells (Za (Arr5.set (Arr5.set a b.1 ({ (Arr5.get a b.1) with Lo:=(Arr5.get a b.1).Hi }:Zb)) b.1 ({ (Arr5.get (Arr5.set a b.1 ({ (Arr5.get a b.1) with Lo:=(Arr5.get a b.1).Hi }:Zb)) b.1) with Hi:=(Arr5.get a b.1).Lo }:Zb))),.cells (Za Zo)] (LeQ.start (LeQ.pk [3,4] 3 ?_))
   exact⟨rfl,c.2,(Arr5.set (Arr5.set a b.1 ({ (Arr5.get a b.1) with Lo:=(Arr5.get a b.1).Hi }:Zb)) b.1 ({ (Arr5.get (Arr5.set a b.1 ({ (Arr5.get a b.1) with Lo:=(Arr5.get a b.1).Hi }:Zb)) b.1) with Hi:=(Arr5.get a b.1).Lo }:Zb)),(someb hF).symm,by kernel_rfl,by kernel_rfl⟩
  ·refine AWP.seq (AWP.rg0 [] [(3,(.ptr 1 0)),(4,(.ptr 2 0)),(5,(i64 b.1)),(29,(vb (c.1 == (1:Int))))] ?_)
   refine AWP.cif hF (fun x hF=>?_) (fun x hF=>?_)
   ·obtain⟨o,hF⟩:=chkb hF
    refine AWP.rg [(1,.ixd o),(3,.stA (fun p=>Za (Arr5.set a p ({ (Arr5.get a p) with Hi:=(4294967295:Int) }:Zb))) 0 2 1 o)] [(3,(.ptr 1 0)),(4,(.ptr 2 0))] [.cells (Ze c.2),.cells (Za (Arr5.set a b.1 ({ (Arr5.get a b.1) with Hi:=(4294967295:Int) }:Zb))),.cells (Za Zo)] (LeQ.start (LeQ.pk [3,4] 3 ?_))
    exact⟨rfl,c.2,(Arr5.set a b.1 ({ (Arr5.get a b.1) with Hi:=(4294967295:Int) }:Zb)),(someb hF).symm,by kernel_rfl,by kernel_rfl⟩
   ·obtain⟨q,hF⟩:=chkb hF
    refine AWP.rg [(2,.ixd q),(3,.stA (fun y=>Za (Arr5.set a y (Zb.mk (1:Int) (0:Int)))) 0 2 0 q)] [(3,(.ptr 1 0)),(4,(.ptr 2 0))] [.cells (Ze c.2),.cells (Za (Arr5.set a b.1 (Zb.mk (1:Int) (0:Int)))),.cells (Za Zo)] (LeQ.start (LeQ.pk [3,4] 3 ?_))
    exact⟨rfl,c.2,(Arr5.set a b.1 (Zb.mk (1:Int) (0:Int))),(someb hF).symm,by kernel_rfl,by kernel_rfl⟩
 ·rintro _ _ _ ⟨rfl,g,d,rfl,rfl,rfl⟩
  refine AWP.seq (AWP.rg [] [(4,(.ptr 2 0))] [.cells (Ze g),.cells (Za d),.cells (Za d)] (AWP.ret ?_))
  have hr:=someb hF
  subst hr
  exact(FnQ.f0 1 (.inr rfl))
def Zj0 (r:(ZL × Zd)):PV→List Blk→Prop:=fun p K=>p=(slc 10 Za r.1)∧K=[.cells (Ze r.2)]
theorem Zj1 (v:Zd) (d:Int) (a:Bool) (r:(ZL × Zd)) (hF:Zdh v d a=some r):ACall Tryz.prog glob 12 [(.ptr 0 0),(i64 d),(vb a)] [.cells (Ze v)] (Zj0 r):=by
 refine ACall.body Tryz.func12 rfl (by kernel_rfl) ?_
 unfold Zdh at hF
 refine AWP.seq (AWP.rg0 [] [(0,(.ptr 0 0)),(1,(i64 d)),(2,(vb a))] (AWP.seq (AWP.rg0 [] [(0,(.ptr 0 0)),(1,(i64 d)),(2,(vb a)),(7,nils)] ?_)))
 refine AWP.own (H':=[.cells (Ze v),bf 10 59 Za ([]:ZL) false]) (st':=[(7,(.own 1 (List.length ([]:ZL)))),(0,(.ptr 0 0)),(1,(i64 d)),(2,(vb a))]) 7 10 59 (by kernel_rfl) (by kernel_rfl) (by kernel_rfl) ?_
 refine AWP.pick (st':=[(0,(.ptr 0 0)),(1,(i64 d)),(2,(vb a)),(7,(.own 1 (List.length ([]:ZL))))]) (ks:=[0,1,2,7]) (by kernel_rfl) ?_
 refine AWP.seq (AWP.seq ?_)
 obtain⟨m,a3,hF⟩:=bindb hF
 refine AWP.rg [(3,.call Tryz.func18 [] (Zan v (ZI (d + (1:Int))) m a3))] [(0,(.ptr 0 0)),(2,(vb a)),(7,(.own 1 (List.length ([]:ZL)))),(8,(i64 m.1))] [.cells (Ze m.2),bf 10 59 Za ([]:ZL) false] ?_
 obtain⟨a1,a4,hF⟩:=bindb hF
 refine AWP.mid (fun e st H=>(e=.normal∧∃ z,∃ j,a1=(z,j)∧st=[(7,(.own 1 (List.length j)))]∧H=[.cells (Ze z),bf 10 59 Za j false])) ?_ ?_
 ·clear hF
  refine AWP.kp [0,2,7,8] 2 ?_
  refine AWP.bround (fun n st H=>∃ o,∃ b,∃ c,Zbh a n o b c=some a1∧st=[(0,(.ptr 0 0)),(2,(vb a)),(7,(.own 1 (List.length b))),(8,(i64 c))]∧H=[.cells (Ze o),bf 10 59 Za b false]) fuel ⟨m.2,([]:ZL),m.1,a4,by kernel_rfl,by kernel_rfl⟩ ?_
  rintro a0 st H ⟨o,b,c,hF,rfl,rfl⟩
  cases a0 with
  | zero=>exact noneb hF
  | succ a0=>
   rw [Zbh] at hF
   refine AWP.seq (AWP.seq (AWP.rg0 [] [(0,(.ptr 0 0)),(2,(vb a)),(7,(.own 1 (List.length b))),(8,(i64 c)),(15,(vb (decide (c > (0:Int)))))] ?_))
   refine AWP.cif hF (fun a5 hF=>?_) (fun a5 hF=>?_)
   ·refine AWP.skip ?_
    obtain⟨a6,a7,hF⟩:=bindb hF
    refine AWP.seq ?_
    refine AWP.mid (fun e st H=>(e=.normal∧∃ w,∃ k,a6=(w,k)∧st=[(0,(.ptr 0 0)),(2,(vb a)),(7,(.own 1 (List.length k))),(8,(i64 c))]∧H=[.cells (Ze w),bf 10 59 Za k false])) ?_ ?_
    ·clear hF
     have hF:=a7
     refine AWP.block (AWP.seq ?_)
     obtain⟨f,a8,hF⟩:=bindb hF
     refine AWP.rg [(1,.call Tryz.func29 [] (Zk3 o f a8))] [(0,(.ptr 0 0)),(2,(vb a)),(7,(.own 1 (List.length b))),(8,(i64 c)),(9,(.ptr 2 0))] [.cells (Ze f.2),bf 10 59 Za b false,.cells (Za f.1)] ?_
     obtain⟨a9,b0,hF⟩:=bindb hF
     refine AWP.seq ?_
     refine AWP.mid (fun e st H=>(e=.normal∧∃ p,∃ g,a9=(p,g)∧st=[(0,(.ptr 0 0)),(2,(vb a)),(7,(.own 1 (List.length b))),(8,(i64 c)),(9,(.ptr 2 0))]∧H=[.cells (Ze p),bf 10 59 Za b false,.cells (Za g)])) ?_ ?_
     ·clear hF
      have hF:=b0
      refine AWP.seq ?_
      obtain⟨b1,x,hF⟩:=bindb hF
      replace x:=someb x
      obtain⟨y,a2,hF⟩:=bindb hF
      refine AWP.to [(0,(.ptr 0 0)),(2,(vb a)),(7,(.own 1 (List.length b))),(8,(i64 c)),(9,(.ptr 2 0)),(25,(vb y.1))] [.cells (Ze y.2),bf 10 59 Za b false,.cells (Za f.1)] ?_ ?_
      ·cases b1 with
       | false=>
        have b2:=someb (ifF a2 rfl)
        subst b2
        exact AWP.rgT [(1,.bool x)]
       | true=>
        have q:=ifT a2 rfl
        obtain⟨b3,b4,q⟩:=bindb q
        replace q:=someb q
        subst q
        exact AWP.rgT [(1,.bool x),(3,.call Tryz.func18 [] (Zan f.2 (8:Int) b3 b4))]
      refine AWP.cif hF (fun b5 hF=>?_) (fun b5 hF=>?_)
      ·obtain⟨u,b6,hF⟩:=bindb hF
       refine AWP.rg [(2,.call Tryz.func30 [] (Ziw y.2 f.1 u b6))] [(0,(.ptr 0 0)),(2,(vb a)),(7,(.own 1 (List.length b))),(8,(i64 c)),(9,(.ptr 2 0))] [.cells (Ze u.2),bf 10 59 Za b false,.cells (Za u.1)] (LeQ.start (LeQ.pk [0,2,7,8,9] 3 ?_))
       exact⟨rfl,u.2,u.1,(someb hF).symm,by kernel_rfl,by kernel_rfl⟩
      ·refine AWP.skip (LeQ.start (LeQ.pk [0,2,7,8,9] 3 ?_))
       exact⟨rfl,y.2,f.1,(someb hF).symm,by kernel_rfl,by kernel_rfl⟩
     ·rintro _ _ _ ⟨rfl,p,g,rfl,rfl,rfl⟩
      obtain⟨b7,hF⟩:=chkb hF
      refine AWP.rg [(3,.app Za (fun _=>by kernel_rfl) b7)] [(0,(.ptr 0 0)),(2,(vb a)),(7,(.own 1 (List.length (b++[g])))),(8,(i64 c))] [.cells (Ze p),bf 10 59 Za (b++[g]) false,.cells (Za g)] (LeQ.start (LeQ.pk [0,2,7,8] 2 ?_))
      exact⟨rfl,p,(b++[g]),(someb hF).symm,by kernel_rfl,by kernel_rfl⟩
    ·rintro _ _ _ ⟨rfl,w,k,rfl,rfl,rfl⟩
     refine AWP.rg0 [] [(0,(.ptr 0 0)),(2,(vb a)),(7,(.own 1 (List.length k))),(8,(i64 (ZI (c - (1:Int)))))] (LeQ.start (LeQ.pk [0,2,7,8] 2 ?_))
     exact⟨a0,Nat.lt_succ_self _,w,k,(ZI (c - (1:Int))),hF,by kernel_rfl,by kernel_rfl⟩
   ·refine AWP.exit (LeQ.start (LeQ.pk [7] 2 ?_))
    exact⟨rfl,o,b,(someb hF).symm,by kernel_rfl,by kernel_rfl⟩
 ·rintro _ _ _ ⟨rfl,z,j,rfl,rfl,rfl⟩
  refine AWP.seq (AWP.rg0 [] [(6,(.own 1 (List.length j)))] (AWP.ret ?_))
  have hr:=someb hF
  subst hr
  exact(FnQ.f1 1 (.inr rfl) (.inl (Wk.ownT (i:=1) (s:=10) (t:=59) (l:=j) (sh:=false) (row:=Za) (by kernel_rfl) (.inl rfl))))
def Zie (r:Bool):PV→List Blk→Prop:=fun p K=>p=(vb r)∧K=[]
abbrev Znh (r:Bool):Exit→St→List Blk→Prop:=FnQ Tryz.prog Tryz.f42.results 0 (Zie r)
theorem Zif (a:ZB) (r:Bool) (hF:Zds a=some r):ACall Tryz.prog glob 42 [(Za6 a)] [] (Zie r):=by
 refine ACall.body Tryz.func42 rfl (by kernel_rfl) ?_
 unfold Zds at hF
 refine AWP.seq (AWP.rg [] [(1,(.ptr 0 0))] [.cells (Za a)] (AWP.seq (AWP.seq (AWP.rg0 [] [(1,(.ptr 0 0)),(3,(i64 (0:Int)))] ?_))))
 obtain⟨i,m,hF⟩:=bindb hF
 refine AWP.mid (fun e st H=>(e=.normal∧i=(.inl ())∧st=[]∧H=[.cells (Za a)])∨(e=.ret∧∃ r,i=(.inr r)∧Znh r e st H)) ?_ ?_
 ·clear hF
  refine AWP.kp [1,3] 1 ?_
  refine AWP.bround (fun n st H=>∃ b,Zz a n b=some i∧st=[(1,(.ptr 0 0)),(3,(i64 b))]∧H=[.cells (Za a)]) fuel ⟨(0:Int),m,by kernel_rfl,by kernel_rfl⟩ ?_
  rintro j st H ⟨b,hF,rfl,rfl⟩
  cases j with
  | zero=>exact noneb hF
  | succ j=>
   rw [Zz] at hF
   refine AWP.seq (AWP.seq (AWP.rg0 [] [(1,(.ptr 0 0)),(3,(i64 b)),(5,(vb (decide (b<(5:Int)))))] ?_))
   refine AWP.cif hF (fun o hF=>?_) (fun o hF=>?_)
   ·refine AWP.skip (AWP.seq (AWP.block (AWP.seq ?_)))
    obtain⟨d,hF⟩:=chkb hF
    obtain⟨f,hF⟩:=chkb hF
    obtain⟨p,g,hF⟩:=bindb hF
    replace g:=someb g
    obtain⟨q,k,hF⟩:=bindb hF
    refine AWP.to [(1,(.ptr 0 0)),(3,(i64 b)),(25,(vb q))] [.cells (Za a)] ?_ ?_
    ·cases p with
     | false=>
      have c:=ifF k rfl
      obtain⟨l,c⟩:=chkb c
      obtain⟨s,t,c⟩:=bindb c
      replace c:=someb c
      subst c
      exact AWP.drT [(1,.ixd d),(3,.ldA Zf (Arr5.get a) 0 2 0 d),(5,.ixd f),(7,.ldA Zf (Arr5.get a) 0 2 1 f),(9,.bool g),(11,.ixd l),(13,.ldA Zf (Arr5.get a) 0 2 1 l),(15,.call Tryz.func31 [] (Zgb b s t))] 18 [] [] []
     | true=>
      have u:=someb (ifT k rfl)
      subst u
      exact AWP.drT [(1,.ixd d),(3,.ldA Zf (Arr5.get a) 0 2 0 d),(5,.ixd f),(7,.ldA Zf (Arr5.get a) 0 2 1 f),(9,.bool g)] 18 [] [] []
    refine AWP.cif hF (fun v hF=>?_) (fun v hF=>?_)
    ·refine AWP.seq (AWP.rg0 [] [(2,(vb false))] (AWP.ret ?_))
     exact LeQ.of (.inr ⟨rfl,false,(someb hF).symm,(FnQ.f0 0 (.inr rfl))⟩)
    ·refine AWP.skip (AWP.rg0 [] [(1,(.ptr 0 0)),(3,(i64 (ZI (b + (1:Int)))))] (LeQ.start (LeQ.pk [1,3] 1 ?_)))
     exact⟨j,Nat.lt_succ_self _,(ZI (b + (1:Int))),hF,by kernel_rfl,by kernel_rfl⟩
   ·refine AWP.exit (LeQ.start (LeQ.pk [] 1 ?_))
    exact(.inl ⟨rfl,(someb hF).symm,by kernel_rfl,by kernel_rfl⟩)
 ·rintro _ _ _ (⟨rfl,rfl,rfl,rfl⟩ | ⟨rfl,w,rfl,hq⟩)
  ·refine AWP.seq (AWP.rg0 [] [(2,(vb true))] (AWP.ret ?_))
   have hr:=someb hF
   subst hr
   exact(FnQ.f0 0 (.inr rfl))
  ·have hr:=someb hF
   subst hr
   exact hq
def Zni (r:Bool):PV→List Blk→Prop:=fun p K=>p=(vb r)∧K=[]
theorem Znj (b:Int) (c:Bool) (a:Bool) (r:Bool) (hF:Zer b c a=some r):ACall Tryz.prog glob 71 [(i64 b),(vb c),(vb a)] [] (Zni r):=by
 refine ACall.body Tryz.func71 rfl (by kernel_rfl) ?_
 unfold Zer at hF
 refine AWP.seq (AWP.rg0 [] [(0,(i64 b)),(1,(vb c)),(2,(vb a))] (AWP.seq (AWP.seq (AWP.rg0 [] [(1,(vb c)),(2,(vb a)),(7,(i64 b))] (AWP.block (AWP.seq ?_))))))
 refine AWP.rg0 [] [(1,(vb c)),(2,(vb a)),(7,(i64 b)),(8,(vb (b == (0:Int))))] ?_
 refine AWP.cif hF (fun k hF=>?_) (fun k hF=>?_)
 ·refine AWP.seq ?_
  obtain⟨b1,d,hF⟩:=bindb hF
  replace d:=someb d
  refine AWP.to [(6,(vb (b1 || a)))] [] ?_ ?_
  ·cases b1 with
   | false=>
    exact AWP.rgT [(1,.bool d)]
   | true=>
    exact AWP.rgT [(1,.bool d)]
  refine AWP.ret ?_
  have hr:=someb hF
  subst hr
  exact(FnQ.f0 0 (.inr rfl))
 ·refine AWP.seq (AWP.rg0 [] [(1,(vb c)),(2,(vb a)),(7,(i64 b)),(14,(vb (b == (1:Int))))] ?_)
  refine AWP.cif hF (fun l hF=>?_) (fun l hF=>?_)
  ·refine AWP.seq ?_
   obtain⟨i,f,hF⟩:=bindb hF
   replace f:=someb f
   refine AWP.to [(6,(vb (i && a)))] [] ?_ ?_
   ·cases i with
    | false=>
     exact AWP.rgT [(1,.bool f)]
    | true=>
     exact AWP.rgT [(1,.bool f)]
   refine AWP.ret ?_
   have hr:=someb hF
   subst hr
   exact(FnQ.f0 0 (.inr rfl))
  ·refine AWP.seq (AWP.rg0 [] [(1,(vb c)),(2,(vb a)),(20,(vb (b == (2:Int))))] ?_)
   refine AWP.cif hF (fun m hF=>?_) (fun m hF=>?_)
   ·refine AWP.seq ?_
    obtain⟨j,g,hF⟩:=bindb hF
    replace g:=someb g
    refine AWP.to [(6,(vb (j && (!a))))] [] ?_ ?_
    ·cases j with
     | false=>
      exact AWP.rgT [(1,.bool g)]
     | true=>
      exact AWP.rgT [(1,.bool g)]
    refine AWP.ret ?_
    have hr:=someb hF
    subst hr
    exact(FnQ.f0 0 (.inr rfl))
   ·refine AWP.skip (AWP.seq (AWP.rg0 [] [(6,(vb (!(c == a))))] (AWP.ret ?_)))
    have hr:=someb hF
    subst hr
    exact(FnQ.f0 0 (.inr rfl))
def Zoc (r:Bool):PV→List Blk→Prop:=fun p K=>p=(vb r)∧K=[]
theorem Zod (b:Int) (c:Bool) (a:Bool) (r:Bool) (hF:Ze6 b c a=some r):ACall Tryz.prog glob 72 [(i64 b),(vb c),(vb a)] [] (Zoc r):=by
 refine ACall.body Tryz.func72 rfl (by kernel_rfl) ?_
 unfold Ze6 at hF
 refine AWP.seq (AWP.rg0 [] [(0,(i64 b)),(1,(vb c)),(2,(vb a))] (AWP.seq (AWP.seq (AWP.rg0 [] [(1,(vb c)),(2,(vb a)),(7,(i64 b))] (AWP.block (AWP.seq ?_))))))
 refine AWP.rg0 [] [(1,(vb c)),(2,(vb a)),(7,(i64 b)),(8,(vb (b == (1:Int))))] ?_
 refine AWP.cif hF (fun i hF=>?_) (fun i hF=>?_)
 ·refine AWP.seq ?_
  obtain⟨b1,d,hF⟩:=bindb hF
  replace d:=someb d
  refine AWP.to [(6,(vb (b1 || (!a))))] [] ?_ ?_
  ·cases b1 with
   | false=>
    exact AWP.rgT [(2,.bool d)]
   | true=>
    exact AWP.rgT [(2,.bool d)]
  refine AWP.ret ?_
  have hr:=someb hF
  subst hr
  exact(FnQ.f0 0 (.inr rfl))
 ·refine AWP.seq (AWP.rg0 [] [(1,(vb c)),(2,(vb a)),(16,(vb (b == (2:Int))))] ?_)
  refine AWP.cif hF (fun j hF=>?_) (fun j hF=>?_)
  ·refine AWP.seq (AWP.rg0 [] [(6,(vb (!c)))] (AWP.ret ?_))
   have hr:=someb hF
   subst hr
   exact(FnQ.f0 0 (.inr rfl))
  ·refine AWP.skip (AWP.seq ?_)
   obtain⟨g,f,hF⟩:=bindb hF
   replace f:=someb f
   refine AWP.to [(6,(vb (g && (!a))))] [] ?_ ?_
   ·cases g with
    | false=>
     exact AWP.rgT [(2,.bool f)]
    | true=>
     exact AWP.rgT [(2,.bool f)]
   refine AWP.ret ?_
   have hr:=someb hF
   subst hr
   exact(FnQ.f0 0 (.inr rfl))
def Zma (r:(List Zb)):PV→List Blk→Prop:=fun p K=>p=(slc 2 Zf r)∧K=[]
theorem Zmb (c:ZL) (b:ZL) (a:Int) (r:(List Zb)) (hF:Zec c b a=some r):ACall Tryz.prog glob 74 [(slc 10 Za c),(slc 10 Za b),(i64 a)] [] (Zma r):=by
 refine ACall.body Tryz.func74 rfl (by kernel_rfl) ?_
 unfold Zec at hF
 refine AWP.seq (AWP.rg0 [] [(0,(slc 10 Za c)),(1,(slc 10 Za b)),(2,(i64 a))] (AWP.seq (AWP.rg0 [] [(0,(slc 10 Za c)),(1,(slc 10 Za b)),(2,(i64 a)),(7,nils)] ?_)))
 refine AWP.own (H':=[bf 2 57 Zf ([]:(List Zb)) false]) (st':=[(7,(.own 0 (List.length ([]:(List Zb))))),(0,(slc 10 Za c)),(1,(slc 10 Za b)),(2,(i64 a))]) 7 2 57 (by kernel_rfl) (by kernel_rfl) (by kernel_rfl) ?_
 refine AWP.pick (st':=[(0,(slc 10 Za c)),(1,(slc 10 Za b)),(2,(i64 a)),(7,(.own 0 (List.length ([]:(List Zb)))))]) (ks:=[0,1,2,7]) (by kernel_rfl) ?_
 refine AWP.seq (AWP.seq (AWP.rg0 [] [(0,(slc 10 Za c)),(1,(slc 10 Za b)),(2,(i64 a)),(7,(.own 0 (List.length ([]:(List Zb))))),(8,(i64 (0:Int)))] ?_))
 obtain⟨k,x,hF⟩:=bindb hF
 refine AWP.mid (fun e st H=>e=.normal∧st=[(1,(slc 10 Za b)),(2,(i64 a)),(7,(.own 0 (List.length k)))]∧H=[bf 2 57 Zf k false]) ?_ ?_
 ·clear hF
  refine AWP.kp [0,1,2,7,8] 1 ?_
  refine AWP.bround (fun n st H=>∃ d,∃ g,Zb9 c a n d g=some k∧st=[(0,(slc 10 Za c)),(1,(slc 10 Za b)),(2,(i64 a)),(7,(.own 0 (List.length d))),(8,(i64 g))]∧H=[bf 2 57 Zf d false]) fuel ⟨([]:(List Zb)),(0:Int),x,by kernel_rfl,by kernel_rfl⟩ ?_
  rintro q st H ⟨d,g,hF,rfl,rfl⟩
  cases q with
  | zero=>exact noneb hF
  | succ q=>
   rw [Zb9] at hF
   refine AWP.seq (AWP.seq (AWP.rg0 [(2,.len Za c)] [(0,(slc 10 Za c)),(1,(slc 10 Za b)),(2,(i64 a)),(7,(.own 0 (List.length d))),(8,(i64 g)),(13,(vb (decide (g<(List.length c:Int)))))] ?_))
   refine AWP.cif hF (fun y hF=>?_) (fun y hF=>?_)
   ·refine AWP.skip (AWP.seq (AWP.block ?_))
    obtain⟨m,z,hF⟩:=bindb hF
    obtain⟨v,hF⟩:=chkb hF
    obtain⟨a0,hF⟩:=chkb hF
    refine AWP.rg [(4,.idx Za z),(5,.ixd v),(6,.ldA Zf (Arr5.get m) 0 2 0 v),(8,.app Zf (fun _=>by kernel_rfl) a0)] [(0,(slc 10 Za c)),(1,(slc 10 Za b)),(2,(i64 a)),(7,(.own 0 (List.length (d++[(Arr5.get m a)])))),(8,(i64 g))] [bf 2 57 Zf (d++[(Arr5.get m a)]) false] (AWP.rg0 [] [(0,(slc 10 Za c)),(1,(slc 10 Za b)),(2,(i64 a)),(7,(.own 0 (List.length (d++[(Arr5.get m a)])))),(8,(i64 (ZI (g + (1:Int)))))] (LeQ.start (LeQ.pk [0,1,2,7,8] 1 ?_)))
    exact⟨q,Nat.lt_succ_self _,(d++[(Arr5.get m a)]),(ZI (g + (1:Int))),hF,by kernel_rfl,by kernel_rfl⟩
   ·refine AWP.exit (LeQ.start (LeQ.pk [1,2,7] 1 ?_))
    have hr:=someb hF
    subst hr
    exact⟨rfl,by kernel_rfl,by kernel_rfl⟩
 ·rintro _ _ _ ⟨rfl,rfl,rfl⟩
  refine AWP.seq (AWP.seq (AWP.rg0 [] [(1,(slc 10 Za b)),(2,(i64 a)),(7,(.own 0 (List.length k))),(9,(i64 (0:Int)))] ?_))
  obtain⟨o,a1,hF⟩:=bindb hF
  refine AWP.mid (fun e st H=>e=.normal∧st=[(7,(.own 0 (List.length o)))]∧H=[bf 2 57 Zf o false]) ?_ ?_
  ·clear hF
   refine AWP.kp [1,2,7,9] 1 ?_
   refine AWP.bround (fun n st H=>∃ f,∃ j,Zca b a n f j=some o∧st=[(1,(slc 10 Za b)),(2,(i64 a)),(7,(.own 0 (List.length f))),(9,(i64 j))]∧H=[bf 2 57 Zf f false]) fuel ⟨k,(0:Int),a1,by kernel_rfl,by kernel_rfl⟩ ?_
   rintro u st H ⟨f,j,hF,rfl,rfl⟩
   cases u with
   | zero=>exact noneb hF
   | succ u=>
    rw [Zca] at hF
    refine AWP.seq (AWP.seq (AWP.rg0 [(2,.len Za b)] [(1,(slc 10 Za b)),(2,(i64 a)),(7,(.own 0 (List.length f))),(9,(i64 j)),(28,(vb (decide (j<(List.length b:Int)))))] ?_))
    refine AWP.cif hF (fun a2 hF=>?_) (fun a2 hF=>?_)
    ·refine AWP.skip (AWP.seq (AWP.block ?_))
     obtain⟨p,a3,hF⟩:=bindb hF
     obtain⟨w,hF⟩:=chkb hF
     obtain⟨a4,hF⟩:=chkb hF
     refine AWP.rg [(4,.idx Za a3),(5,.ixd w),(6,.ldA Zf (Arr5.get p) 0 2 0 w),(8,.app Zf (fun _=>by kernel_rfl) a4)] [(1,(slc 10 Za b)),(2,(i64 a)),(7,(.own 0 (List.length (f++[(Arr5.get p a)])))),(9,(i64 j))] [bf 2 57 Zf (f++[(Arr5.get p a)]) false] (AWP.rg0 [] [(1,(slc 10 Za b)),(2,(i64 a)),(7,(.own 0 (List.length (f++[(Arr5.get p a)])))),(9,(i64 (ZI (j + (1:Int)))))] (LeQ.start (LeQ.pk [1,2,7,9] 1 ?_)))
     exact⟨u,Nat.lt_succ_self _,(f++[(Arr5.get p a)]),(ZI (j + (1:Int))),hF,by kernel_rfl,by kernel_rfl⟩
    ·refine AWP.exit (LeQ.start (LeQ.pk [7] 1 ?_))
     have hr:=someb hF
     subst hr
     exact⟨rfl,by kernel_rfl,by kernel_rfl⟩
  ·rintro _ _ _ ⟨rfl,rfl,rfl⟩
   refine AWP.seq (AWP.rg0 [] [(6,(.own 0 (List.length o)))] (AWP.ret ?_))
   have hr:=someb hF
   subst hr
   exact(FnQ.f1 0 (.inr rfl) (.inl (Wk.ownT (i:=0) (s:=2) (t:=57) (l:=o) (sh:=false) (row:=Zf) (by kernel_rfl) (.inl rfl))))
def Zmc (r:(List Int)):PV→List Blk→Prop:=fun p K=>p=(slc 1 Zc r)∧K=[]
theorem Zh3 (a:(List Int)) (b:Int) (j:Int) (r:(List Int)) (hF:Zdj a b j=some r):ACall Tryz.prog glob 92 [(slc 1 Zc a),(u64 b),(u32 j)] [] (Zmc r):=by
 refine ACall.body Tryz.func92 rfl (by kernel_rfl) ?_
 unfold Zdj at hF
 refine AWP.seq (AWP.rg0 [] [(0,(slc 1 Zc a)),(1,(u64 b)),(2,(u32 j))] (AWP.seq (AWP.seq (AWP.rg0 [] [(0,(slc 1 Zc a)),(1,(u64 b)),(11,(vb (decide (b > (IntKind.wrap .u64 j)))))] ?_))))
 refine AWP.cif hF (fun v hF=>?_) (fun v hF=>?_)
 ·refine AWP.seq (AWP.rg0 [] [(6,(slc 1 Zc a))] (AWP.ret ?_))
  have hr:=someb hF
  subst hr
  exact(FnQ.f0 0 (.inr rfl))
 ·refine AWP.skip (AWP.seq (AWP.rg0 [] [(0,(slc 1 Zc a)),(1,(u64 b)),(7,(i64 (0:Int)))] (AWP.seq ?_)))
  obtain⟨c,w,hF⟩:=bindb hF
  refine AWP.mid (fun e st H=>e=.normal∧st=[(0,(slc 1 Zc a)),(1,(u64 b)),(7,(i64 c))]∧H=[]) ?_ ?_
  ·clear hF
   refine AWP.kp [0,1,7] 0 ?_
   refine AWP.bround (fun n st H=>∃ d,Zcb a b n d=some c∧st=[(0,(slc 1 Zc a)),(1,(u64 b)),(7,(i64 d))]∧H=[]) fuel ⟨(0:Int),w,by kernel_rfl,by kernel_rfl⟩ ?_
   rintro p st H ⟨d,hF,rfl,rfl⟩
   cases p with
   | zero=>exact noneb hF
   | succ p=>
    rw [Zcb] at hF
    refine AWP.seq (AWP.seq ?_)
    obtain⟨x,k,hF⟩:=bindb hF
    replace k:=someb k
    obtain⟨y,q,hF⟩:=bindb hF
    refine AWP.to [(0,(slc 1 Zc a)),(1,(u64 b)),(7,(i64 d)),(24,(vb y))] [] ?_ ?_
    ·cases x with
     | false=>
      have z:=someb (ifF q rfl)
      subst z
      exact AWP.rgT [(2,.len Zc a),(4,.bool k)]
     | true=>
      have f:=ifT q rfl
      obtain⟨b2,a0,f⟩:=bindb f
      replace f:=someb f
      subst f
      exact AWP.rgT [(2,.len Zc a),(4,.bool k),(7,.idx Zc a0)]
    refine AWP.cif hF (fun a1 hF=>?_) (fun a1 hF=>?_)
    ·refine AWP.skip (AWP.block (AWP.rg0 [] [(0,(slc 1 Zc a)),(1,(u64 b)),(7,(i64 (ZI (d + (1:Int)))))] (LeQ.start (LeQ.pk [0,1,7] 0 ?_))))
     exact⟨p,Nat.lt_succ_self _,(ZI (d + (1:Int))),hF,by kernel_rfl,by kernel_rfl⟩
    ·refine AWP.exit (LeQ.start (LeQ.pk [0,1,7] 0 ?_))
     have hr:=someb hF
     subst hr
     exact⟨rfl,by kernel_rfl,by kernel_rfl⟩
  ·rintro _ _ _ ⟨rfl,rfl,rfl⟩
   refine AWP.seq (AWP.seq ?_)
   obtain⟨a2,o,hF⟩:=bindb hF
   replace o:=someb o
   obtain⟨a3,u,hF⟩:=bindb hF
   refine AWP.to [(0,(slc 1 Zc a)),(1,(u64 b)),(7,(i64 c)),(38,(vb a3))] [] ?_ ?_
   ·cases a2 with
    | false=>
     have a4:=someb (ifF u rfl)
     subst a4
     exact AWP.rgT [(2,.len Zc a),(4,.bool o)]
    | true=>
     have g:=ifT u rfl
     obtain⟨b3,a5,g⟩:=bindb g
     replace g:=someb g
     subst g
     exact AWP.rgT [(2,.len Zc a),(4,.bool o),(7,.idx Zc a5)]
   refine AWP.cif hF (fun a6 hF=>?_) (fun a6 hF=>?_)
   ·refine AWP.seq (AWP.rg0 [] [(6,(slc 1 Zc a))] (AWP.ret ?_))
    have hr:=someb hF
    subst hr
    exact(FnQ.f0 0 (.inr rfl))
   ·refine AWP.skip (AWP.seq ?_)
    obtain⟨a7,hF⟩:=chkb hF
    obtain⟨a8,hF⟩:=chkb hF
    obtain⟨a9,hF⟩:=chkb hF
    obtain⟨b0,hF⟩:=chkb hF
    obtain⟨b1,hF⟩:=chkb hF
    refine AWP.dr [(0,.m),(3,.slice Zc a a7),(4,.app Zc (fun _=>by kernel_rfl) a8),(7,.app Zc (fun _=>by kernel_rfl) a9),(10,.slice Zc a b0),(11,.app Zc (fun _=>by kernel_rfl) b1)] 12 [] [0,4,7,11] [] [(6,(.own 0 (List.length (((([]:(List Int))++(List.drop (Int.toNat (0:Int)) (List.take (Int.toNat c) a)))++[b])++(List.drop (Int.toNat c) (List.take (Int.toNat (List.length a:Int)) a))))))] [bf 1 32 Zc (((([]:(List Int))++(List.drop (Int.toNat (0:Int)) (List.take (Int.toNat c) a)))++[b])++(List.drop (Int.toNat c) (List.take (Int.toNat (List.length a:Int)) a))) false] (AWP.ret ?_)
    have hr:=someb hF
    subst hr
    exact(FnQ.f1 0 (.inr rfl) (.inl (Wk.ownT (i:=0) (s:=1) (t:=32) (l:=(((([]:(List Int))++(List.drop (Int.toNat (0:Int)) (List.take (Int.toNat c) a)))++[b])++(List.drop (Int.toNat c) (List.take (Int.toNat (List.length a:Int)) a)))) (sh:=false) (row:=Zc) (by kernel_rfl) (.inl rfl))))
def Zmd (r:(List Int)):PV→List Blk→Prop:=fun p K=>p=(slc 1 Zc r)∧K=[]
theorem Zme (a:(List Zb)) (b:Int) (r:(List Int)) (hF:Zed a b=some r):ACall Tryz.prog glob 73 [(slc 2 Zf a),(u32 b)] [] (Zmd r):=by
 refine ACall.body Tryz.func73 rfl (by kernel_rfl) ?_
 unfold Zed at hF
 refine AWP.seq (AWP.rg0 [] [(0,(slc 2 Zf a)),(1,(u32 b))] (AWP.seq (AWP.rg0 [] [(0,(slc 2 Zf a)),(1,(u32 b)),(5,(slc 1 Zc [(0:Int)]))] (AWP.seq (AWP.seq (AWP.rg0 [] [(0,(slc 2 Zf a)),(1,(u32 b)),(5,(slc 1 Zc [(0:Int)])),(6,(i64 (0:Int)))] ?_))))))
 obtain⟨f,l,hF⟩:=bindb hF
 refine AWP.mid (fun e st H=>e=.normal∧st=[(5,(slc 1 Zc f))]∧H=[]) ?_ ?_
 ·clear hF
  refine AWP.kp [0,1,5,6] 0 ?_
  refine AWP.bround (fun n st H=>∃ d,∃ c,Zcc a b n d c=some f∧st=[(0,(slc 2 Zf a)),(1,(u32 b)),(5,(slc 1 Zc d)),(6,(i64 c))]∧H=[]) fuel ⟨[(0:Int)],(0:Int),l,by kernel_rfl,by kernel_rfl⟩ ?_
  rintro g st H ⟨d,c,hF,rfl,rfl⟩
  cases g with
  | zero=>exact noneb hF
  | succ g=>
   rw [Zcc] at hF
   refine AWP.seq (AWP.seq (AWP.rg0 [(2,.len Zf a)] [(0,(slc 2 Zf a)),(1,(u32 b)),(5,(slc 1 Zc d)),(6,(i64 c)),(11,(vb (decide (c<(List.length a:Int)))))] ?_))
   refine AWP.cif hF (fun m hF=>?_) (fun m hF=>?_)
   ·refine AWP.skip ?_
    obtain⟨i,o,hF⟩:=bindb hF
    refine AWP.seq ?_
    refine AWP.mid (fun e st H=>e=.normal∧st=[(0,(slc 2 Zf a)),(1,(u32 b)),(5,(slc 1 Zc i)),(6,(i64 c))]∧H=[]) ?_ ?_
    ·clear hF
     have hF:=o
     refine AWP.block (AWP.seq ?_)
     obtain⟨p,q,hF⟩:=bindb hF
     obtain⟨s,t,hF⟩:=bindb hF
     refine AWP.dr [(2,.idx Zf q),(7,.idx Zf t)] 11 [] [] [] [(0,(slc 2 Zf a)),(1,(u32 b)),(5,(slc 1 Zc d)),(6,(i64 c)),(24,(vb (decide (p.Lo≤s.Hi))))] [] ?_
     refine AWP.cif hF (fun u hF=>?_) (fun u hF=>?_)
     ·obtain⟨v,w,hF⟩:=bindb hF
      obtain⟨j,x,hF⟩:=bindb hF
      obtain⟨y,z,hF⟩:=bindb hF
      obtain⟨k,a0,hF⟩:=bindb hF
      refine AWP.dr [(3,.idx Zf w),(8,.call Tryz.func92 [] (Zh3 d (IntKind.wrap .u64 v.Lo) b j x)),(11,.idx Zf z),(17,.call Tryz.func92 [] (Zh3 j (IntKind.wrap .u64 ((IntKind.wrap .u64 y.Hi) + (1:Int))) b k a0))] 18 [] [] [] [(0,(slc 2 Zf a)),(1,(u32 b)),(5,(slc 1 Zc k)),(6,(i64 c))] [] (LeQ.start (LeQ.pk [0,1,5,6] 0 ?_))
      have hr:=someb hF
      subst hr
      exact⟨rfl,by kernel_rfl,by kernel_rfl⟩
     ·refine AWP.skip (LeQ.start (LeQ.pk [0,1,5,6] 0 ?_))
      have hr:=someb hF
      subst hr
      exact⟨rfl,by kernel_rfl,by kernel_rfl⟩
    ·rintro _ _ _ ⟨rfl,rfl,rfl⟩
     refine AWP.rg0 [] [(0,(slc 2 Zf a)),(1,(u32 b)),(5,(slc 1 Zc i)),(6,(i64 (ZI (c + (1:Int)))))] (LeQ.start (LeQ.pk [0,1,5,6] 0 ?_))
     exact⟨g,Nat.lt_succ_self _,i,(ZI (c + (1:Int))),hF,by kernel_rfl,by kernel_rfl⟩
   ·refine AWP.exit (LeQ.start (LeQ.pk [5] 0 ?_))
    have hr:=someb hF
    subst hr
    exact⟨rfl,by kernel_rfl,by kernel_rfl⟩
 ·rintro _ _ _ ⟨rfl,rfl,rfl⟩
  refine AWP.seq (AWP.rg0 [] [(4,(slc 1 Zc f))] (AWP.ret ?_))
  have hr:=someb hF
  subst hr
  exact(FnQ.f0 0 (.inr rfl))
def Zqf (r:ZL):PV→List Blk→Prop:=fun p K=>p=(slc 10 Za r)∧K=[]
theorem Zkj (a:ZL) (b:Int) (c:Int) (r:ZL) (hF:Ze7 a b c=some r):ACall Tryz.prog glob 75 [(slc 10 Za a),(i64 b),(u64 c)] [] (Zqf r):=by
 refine ACall.body Tryz.func75 rfl (by kernel_rfl) ?_
 unfold Ze7 at hF
 refine AWP.seq (AWP.rg0 [] [(0,(slc 10 Za a)),(1,(i64 b)),(2,(u64 c))] (AWP.seq (AWP.rg0 [] [(0,(slc 10 Za a)),(1,(i64 b)),(2,(u64 c)),(7,nils)] ?_)))
 refine AWP.own (H':=[bf 10 59 Za ([]:ZL) false]) (st':=[(7,(.own 0 (List.length ([]:ZL)))),(0,(slc 10 Za a)),(1,(i64 b)),(2,(u64 c))]) 7 10 59 (by kernel_rfl) (by kernel_rfl) (by kernel_rfl) ?_
 refine AWP.pick (st':=[(0,(slc 10 Za a)),(1,(i64 b)),(2,(u64 c)),(7,(.own 0 (List.length ([]:ZL))))]) (ks:=[0,1,2,7]) (by kernel_rfl) ?_
 refine AWP.seq (AWP.seq (AWP.rg0 [] [(0,(slc 10 Za a)),(1,(i64 b)),(2,(u64 c)),(7,(.own 0 (List.length ([]:ZL)))),(8,(i64 (0:Int)))] ?_))
 obtain⟨j,y,hF⟩:=bindb hF
 refine AWP.mid (fun e st H=>e=.normal∧st=[(7,(.own 0 (List.length j)))]∧H=[bf 10 59 Za j false]) ?_ ?_
 ·clear hF
  refine AWP.kp [0,1,2,7,8] 1 ?_
  refine AWP.bround (fun n st H=>∃ f,∃ d,Zc5 a b c n f d=some j∧st=[(0,(slc 10 Za a)),(1,(i64 b)),(2,(u64 c)),(7,(.own 0 (List.length f))),(8,(i64 d))]∧H=[bf 10 59 Za f false]) fuel ⟨([]:ZL),(0:Int),y,by kernel_rfl,by kernel_rfl⟩ ?_
  rintro p st H ⟨f,d,hF,rfl,rfl⟩
  cases p with
  | zero=>exact noneb hF
  | succ p=>
   rw [Zc5] at hF
   refine AWP.seq (AWP.seq (AWP.rg0 [(2,.len Za a)] [(0,(slc 10 Za a)),(1,(i64 b)),(2,(u64 c)),(7,(.own 0 (List.length f))),(8,(i64 d)),(12,(vb (decide (d<(List.length a:Int)))))] ?_))
   refine AWP.cif hF (fun z hF=>?_) (fun z hF=>?_)
   ·refine AWP.skip ?_
    obtain⟨k,a0,hF⟩:=bindb hF
    refine AWP.seq ?_
    refine AWP.mid (fun e st H=>e=.normal∧st=[(0,(slc 10 Za a)),(1,(i64 b)),(2,(u64 c)),(7,(.own 0 (List.length k))),(8,(i64 d))]∧H=[bf 10 59 Za k false]) ?_ ?_
    ·clear hF
     have hF:=a0
     refine AWP.block (AWP.seq ?_)
     obtain⟨q,u,hF⟩:=bindb hF
     obtain⟨m,hF⟩:=chkb hF
     obtain⟨a1,o,hF⟩:=bindb hF
     replace o:=someb o
     obtain⟨a2,v,hF⟩:=bindb hF
     refine AWP.to [(0,(slc 10 Za a)),(1,(i64 b)),(2,(u64 c)),(7,(.own 0 (List.length f))),(8,(i64 d)),(36,(vb a2))] [bf 10 59 Za f false] ?_ ?_
     ·cases a1 with
      | false=>
       have a3:=someb (ifF v rfl)
       subst a3
       exact AWP.rgT [(3,.idx Za u),(4,.ixd m),(6,.ldA Zf (Arr5.get q) 0 2 0 m),(10,.bool o)]
      | true=>
       have g:=ifT v rfl
       obtain⟨a4,a5,g⟩:=bindb g
       obtain⟨w,g⟩:=chkb g
       replace g:=someb g
       subst g
       exact AWP.rgT [(3,.idx Za u),(4,.ixd m),(6,.ldA Zf (Arr5.get q) 0 2 0 m),(10,.bool o),(15,.idx Za a5),(16,.ixd w),(18,.ldA Zf (Arr5.get a4) 0 2 1 w)]
     refine AWP.cif hF (fun a6 hF=>?_) (fun a6 hF=>?_)
     ·obtain⟨x,a7,hF⟩:=bindb hF
      obtain⟨a8,hF⟩:=chkb hF
      refine AWP.rg [(3,.idx Za a7),(6,.app Za (fun _=>by kernel_rfl) a8)] [(0,(slc 10 Za a)),(1,(i64 b)),(2,(u64 c)),(7,(.own 0 (List.length (f++[x])))),(8,(i64 d))] [bf 10 59 Za (f++[x]) false] (LeQ.start (LeQ.pk [0,1,2,7,8] 1 ?_))
      have hr:=someb hF
      subst hr
      exact⟨rfl,by kernel_rfl,by kernel_rfl⟩
     ·refine AWP.skip (LeQ.start (LeQ.pk [0,1,2,7,8] 1 ?_))
      have hr:=someb hF
      subst hr
      exact⟨rfl,by kernel_rfl,by kernel_rfl⟩
    ·rintro _ _ _ ⟨rfl,rfl,rfl⟩
     refine AWP.rg0 [] [(0,(slc 10 Za a)),(1,(i64 b)),(2,(u64 c)),(7,(.own 0 (List.length k))),(8,(i64 (ZI (d + (1:Int)))))] (LeQ.start (LeQ.pk [0,1,2,7,8] 1 ?_))
     exact⟨p,Nat.lt_succ_self _,k,(ZI (d + (1:Int))),hF,by kernel_rfl,by kernel_rfl⟩
   ·refine AWP.exit (LeQ.start (LeQ.pk [7] 1 ?_))
    have hr:=someb hF
    subst hr
    exact⟨rfl,by kernel_rfl,by kernel_rfl⟩
 ·rintro _ _ _ ⟨rfl,rfl,rfl⟩
  refine AWP.seq (AWP.rg0 [] [(6,(.own 0 (List.length j)))] (AWP.ret ?_))
  have hr:=someb hF
  subst hr
  exact(FnQ.f1 0 (.inr rfl) (.inl (Wk.ownT (i:=0) (s:=10) (t:=59) (l:=j) (sh:=false) (row:=Za) (by kernel_rfl) (.inl rfl))))
def Zi8 (r:Bool):PV→List Blk→Prop:=fun p K=>p=(vb r)∧K=[]
abbrev Zoe (r:Bool):Exit→St→List Blk→Prop:=FnQ Tryz.prog Tryz.f76.results 0 (Zi8 r)
theorem Zof (a:ZL) (b:ZL) (r:Bool) (hF:Zd9 a b=some r):ACall Tryz.prog glob 76 [(slc 10 Za a),(slc 10 Za b)] [] (Zi8 r):=by
 refine ACall.body Tryz.func76 rfl (by kernel_rfl) ?_
 unfold Zd9 at hF
 refine AWP.seq (AWP.rg0 [] [(0,(slc 10 Za a)),(1,(slc 10 Za b))] (AWP.seq (AWP.seq (AWP.rg0 [(1,.len Za a),(3,.len Za b)] [(0,(slc 10 Za a)),(1,(slc 10 Za b)),(10,(vb ((List.length a:Int) != (List.length b:Int))))] ?_))))
 refine AWP.cif hF (fun g hF=>?_) (fun g hF=>?_)
 ·refine AWP.seq (AWP.rg0 [] [(4,(vb false))] (AWP.ret ?_))
  have hr:=someb hF
  subst hr
  exact(FnQ.f0 0 (.inr rfl))
 ·refine AWP.skip (AWP.seq (AWP.seq (AWP.rg0 [] [(0,(slc 10 Za a)),(1,(slc 10 Za b)),(5,(i64 (0:Int)))] ?_)))
  obtain⟨d,i,hF⟩:=bindb hF
  refine AWP.mid (fun e st H=>(e=.normal∧d=(.inl ())∧st=[]∧H=[])∨(e=.ret∧∃ r,d=(.inr r)∧Zoe r e st H)) ?_ ?_
  ·clear hF
   refine AWP.kp [0,1,5] 0 ?_
   refine AWP.bround (fun n st H=>∃ c,Zco a b n c=some d∧st=[(0,(slc 10 Za a)),(1,(slc 10 Za b)),(5,(i64 c))]∧H=[]) fuel ⟨(0:Int),i,by kernel_rfl,by kernel_rfl⟩ ?_
   rintro f st H ⟨c,hF,rfl,rfl⟩
   cases f with
   | zero=>exact noneb hF
   | succ f=>
    rw [Zco] at hF
    refine AWP.seq (AWP.seq (AWP.rg0 [(2,.len Za a)] [(0,(slc 10 Za a)),(1,(slc 10 Za b)),(5,(i64 c)),(14,(vb (decide (c<(List.length a:Int)))))] ?_))
    refine AWP.cif hF (fun j hF=>?_) (fun j hF=>?_)
    ·refine AWP.skip (AWP.seq (AWP.block (AWP.seq ?_)))
     obtain⟨k,l,hF⟩:=bindb hF
     obtain⟨m,o,hF⟩:=bindb hF
     refine AWP.dr [(2,.idx Za l),(6,.idx Za o)] 9 [] [] [] [(0,(slc 10 Za a)),(1,(slc 10 Za b)),(5,(i64 c)),(25,(vb (!(Zdq k m))))] [] ?_
     refine AWP.cif hF (fun p hF=>?_) (fun p hF=>?_)
     ·refine AWP.seq (AWP.rg0 [] [(4,(vb false))] (AWP.ret ?_))
      exact LeQ.of (.inr ⟨rfl,false,(someb hF).symm,(FnQ.f0 0 (.inr rfl))⟩)
     ·refine AWP.skip (AWP.rg0 [] [(0,(slc 10 Za a)),(1,(slc 10 Za b)),(5,(i64 (ZI (c + (1:Int)))))] (LeQ.start (LeQ.pk [0,1,5] 0 ?_)))
      exact⟨f,Nat.lt_succ_self _,(ZI (c + (1:Int))),hF,by kernel_rfl,by kernel_rfl⟩
    ·refine AWP.exit (LeQ.start (LeQ.pk [] 0 ?_))
     exact(.inl ⟨rfl,(someb hF).symm,by kernel_rfl,by kernel_rfl⟩)
  ·rintro _ _ _ (⟨rfl,rfl,rfl,rfl⟩ | ⟨rfl,q,rfl,hq⟩)
   ·refine AWP.seq (AWP.rg0 [] [(4,(vb true))] (AWP.ret ?_))
    have hr:=someb hF
    subst hr
    exact(FnQ.f0 0 (.inr rfl))
   ·have hr:=someb hF
    subst hr
    exact hq
def Zig (r:ZL):PV→List Blk→Prop:=fun p K=>p=(slc 10 Za r)∧K=[]
theorem Zk4:∀(nr:Nat) (b:ZL) (c:ZL) (d:Int) (a:Int) (r:ZL) (hF:Zbc nr b c d a=some r),ACall Tryz.prog glob 44 [(slc 10 Za b),(slc 10 Za c),(i64 d),(i64 a)] [] (Zig r):=by
 intro nr
 induction nr with
 | zero=>intro b c d a r hF; exact noneb (by rw [Zbc] at hF; exact hF)
 | succ nr ih=>
  intro b c d a r hF
  refine ACall.body Tryz.func44 rfl (by kernel_rfl) ?_
  rw [Zbc] at hF
  refine AWP.seq (AWP.rg0 [] [(0,(slc 10 Za b)),(1,(slc 10 Za c)),(2,(i64 d)),(3,(i64 a))] (AWP.seq (AWP.seq (AWP.rg0 [] [(0,(slc 10 Za b)),(1,(slc 10 Za c)),(2,(i64 d)),(3,(i64 a)),(19,(vb (a == (5:Int))))] ?_))))
  refine AWP.cif hF (fun c4 hF=>?_) (fun c4 hF=>?_)
  ·refine AWP.seq (AWP.seq ?_)
   obtain⟨b4,c5,hF⟩:=bindb hF
   refine AWP.rg0 [(2,.len Za b),(5,.len Za c),(7,.call Tryz.func71 [] (Znj d (decide ((List.length b:Int) > (0:Int))) (decide ((List.length c:Int) > (0:Int))) b4 c5))] [(27,(vb b4))] ?_
   refine AWP.cif hF (fun c6 hF=>?_) (fun c6 hF=>?_)
   ·refine AWP.seq (AWP.rg0 [] [(8,(slc 10 Za [(Arr5.mk Zt Zt Zt Zt Zt)]))] (AWP.ret ?_))
    have hr:=someb hF
    subst hr
    exact(FnQ.f0 0 (.inr rfl))
   ·refine AWP.skip (AWP.seq (AWP.rg0 [] [(8,nils)] (AWP.ret ?_)))
    have hr:=someb hF
    subst hr
    exact(FnQ.f1 0 (.inr rfl) (.inl (.nil 10)))
  ·refine AWP.skip (AWP.seq (AWP.seq ?_))
   obtain⟨b5,c7,hF⟩:=bindb hF
   refine AWP.rg0 [(2,.len Za b),(5,.len Za c),(7,.call Tryz.func72 [] (Zod d (decide ((List.length b:Int) > (0:Int))) (decide ((List.length c:Int) > (0:Int))) b5 c7))] [(0,(slc 10 Za b)),(1,(slc 10 Za c)),(2,(i64 d)),(3,(i64 a)),(37,(vb b5))] ?_
   refine AWP.cif hF (fun c8 hF=>?_) (fun c8 hF=>?_)
   ·refine AWP.seq (AWP.rg0 [] [(8,nils)] (AWP.ret ?_))
    have hr:=someb hF
    subst hr
    exact(FnQ.f1 0 (.inr rfl) (.inl (.nil 10)))
   ·refine AWP.skip (AWP.seq (AWP.rg0 [] [(0,(slc 10 Za b)),(1,(slc 10 Za c)),(2,(i64 d)),(3,(i64 a)),(9,nils),(10,nils)] ?_))
    refine AWP.own (H':=[bf 10 59 Za ([]:ZL) false]) (st':=[(9,(.own 0 (List.length ([]:ZL)))),(0,(slc 10 Za b)),(1,(slc 10 Za c)),(2,(i64 d)),(3,(i64 a)),(10,nils)]) 9 10 59 (by kernel_rfl) (by kernel_rfl) (by kernel_rfl) ?_
    refine AWP.pick (st':=[(0,(slc 10 Za b)),(1,(slc 10 Za c)),(2,(i64 d)),(3,(i64 a)),(9,(.own 0 (List.length ([]:ZL)))),(10,nils)]) (ks:=[0,1,2,3,9,10]) (by kernel_rfl) ?_
    refine AWP.seq ?_
    obtain⟨b6,c9,hF⟩:=bindb hF
    obtain⟨b7,d0,hF⟩:=bindb hF
    obtain⟨f,d1,hF⟩:=bindb hF
    refine AWP.rg0 [(3,.call Tryz.func74 [] (Zmb b c a b6 c9)),(5,.call Tryz.func31 [] (Zgb a b7 d0)),(6,.call Tryz.func73 [] (Zme b6 b7 f d1))] [(0,(slc 10 Za b)),(1,(slc 10 Za c)),(2,(i64 d)),(3,(i64 a)),(9,(.own 0 (List.length ([]:ZL)))),(10,nils),(11,(slc 1 Zc f))] (AWP.seq (AWP.seq (AWP.rg0 [] [(0,(slc 10 Za b)),(1,(slc 10 Za c)),(2,(i64 d)),(3,(i64 a)),(9,(.own 0 (List.length ([]:ZL)))),(10,nils),(11,(slc 1 Zc f)),(12,(i64 (0:Int)))] ?_)))
    obtain⟨a2,d2,hF⟩:=bindb hF
    refine AWP.mid (fun e st H=>e=.normal∧st=[(9,(.own 0 (List.length a2)))]∧H=[bf 10 59 Za a2 false]) ?_ ?_
    ·clear hF
     refine AWP.wk (p:=nils) (q:=(slc 10 Za ([]:ZL))) (st':=[(10,(slc 10 Za ([]:ZL))),(0,(slc 10 Za b)),(1,(slc 10 Za c)),(2,(i64 d)),(3,(i64 a)),(9,(.own 0 (List.length ([]:ZL)))),(11,(slc 1 Zc f)),(12,(i64 (0:Int)))]) 10 (by kernel_rfl) (.nil 10) (by kernel_rfl) ?_
     refine AWP.kp [0,1,2,3,9,10,11,12] 1 ?_
     refine AWP.bround (fun n st H=>∃ m,∃ o,∃ g,Zch b c d a (Zbc nr) f n m o g=some a2∧st=[(0,(slc 10 Za b)),(1,(slc 10 Za c)),(2,(i64 d)),(3,(i64 a)),(9,(.own 0 (List.length m))),(10,(slc 10 Za o)),(11,(slc 1 Zc f)),(12,(i64 g))]∧H=[bf 10 59 Za m false]) fuel ⟨([]:ZL),([]:ZL),(0:Int),d2,by kernel_rfl,by kernel_rfl⟩ ?_
     rintro a9 st H ⟨m,o,g,hF,rfl,rfl⟩
     cases a9 with
     | zero=>exact noneb hF
     | succ a9=>
      rw [Zch] at hF
      refine AWP.seq (AWP.seq (AWP.rg0 [(2,.len Zc f)] [(0,(slc 10 Za b)),(1,(slc 10 Za c)),(2,(i64 d)),(3,(i64 a)),(9,(.own 0 (List.length m))),(10,(slc 10 Za o)),(11,(slc 1 Zc f)),(12,(i64 g)),(48,(vb (decide (g<(List.length f:Int)))))] ?_))
      refine AWP.cif hF (fun d3 hF=>?_) (fun d3 hF=>?_)
      ·refine AWP.skip ?_
       obtain⟨d4,d5,hF⟩:=bindb hF
       refine AWP.seq ?_
       refine AWP.mid (fun e st H=>(e=.normal∧∃ a1,∃ a3,d4=(a1,a3)∧st=[(0,(slc 10 Za b)),(1,(slc 10 Za c)),(2,(i64 d)),(3,(i64 a)),(9,(.own 0 (List.length a1))),(10,(slc 10 Za a3)),(11,(slc 1 Zc f)),(12,(i64 g))]∧H=[bf 10 59 Za a1 false])) ?_ ?_
       ·clear hF
        have hF:=d5
        refine AWP.block (AWP.seq ?_)
        obtain⟨b0,d6,hF⟩:=bindb hF
        refine AWP.rg0 [(1,.call Tryz.func31 [] (Zgb a b0 d6))] [(0,(slc 10 Za b)),(1,(slc 10 Za c)),(2,(i64 d)),(3,(i64 a)),(9,(.own 0 (List.length m))),(10,(slc 10 Za o)),(11,(slc 1 Zc f)),(12,(i64 g)),(13,(u64 (IntKind.wrap .u64 b0)))] ?_
        obtain⟨j,d7,hF⟩:=bindb hF
        refine AWP.seq ?_
        refine AWP.mid (fun e st H=>e=.normal∧st=[(0,(slc 10 Za b)),(1,(slc 10 Za c)),(2,(i64 d)),(3,(i64 a)),(9,(.own 0 (List.length m))),(10,(slc 10 Za o)),(11,(slc 1 Zc f)),(12,(i64 g)),(13,(u64 j))]∧H=[bf 10 59 Za m false]) ?_ ?_
        ·clear hF
         have hF:=d7
         refine AWP.seq (AWP.rg0 [(3,.len Zc f)] [(0,(slc 10 Za b)),(1,(slc 10 Za c)),(2,(i64 d)),(3,(i64 a)),(9,(.own 0 (List.length m))),(10,(slc 10 Za o)),(11,(slc 1 Zc f)),(12,(i64 g)),(13,(u64 (IntKind.wrap .u64 b0))),(58,(vb (decide ((ZI (g + (1:Int)))<(List.length f:Int)))))] ?_)
         refine AWP.cif hF (fun d8 hF=>?_) (fun d8 hF=>?_)
         ·obtain⟨d9,e0,hF⟩:=bindb hF
          refine AWP.rg0 [(3,.idx Zc e0)] [(0,(slc 10 Za b)),(1,(slc 10 Za c)),(2,(i64 d)),(3,(i64 a)),(9,(.own 0 (List.length m))),(10,(slc 10 Za o)),(11,(slc 1 Zc f)),(12,(i64 g)),(13,(u64 (IntKind.wrap .u64 (d9 - (1:Int)))))] (LeQ.start (LeQ.pk [0,1,2,3,9,10,11,12,13] 1 ?_))
          have hr:=someb hF
          subst hr
          exact⟨rfl,by kernel_rfl,by kernel_rfl⟩
         ·refine AWP.skip (LeQ.start (LeQ.pk [0,1,2,3,9,10,11,12,13] 1 ?_))
          have hr:=someb hF
          subst hr
          exact⟨rfl,by kernel_rfl,by kernel_rfl⟩
        ·rintro _ _ _ ⟨rfl,rfl,rfl⟩
         refine AWP.seq ?_
         obtain⟨e1,e2,hF⟩:=bindb hF
         obtain⟨b8,e3,hF⟩:=bindb hF
         obtain⟨e4,e5,hF⟩:=bindb hF
         obtain⟨b9,e6,hF⟩:=bindb hF
         obtain⟨k,e7,hF⟩:=bindb hF
         refine AWP.dr [(4,.idx Zc e2),(6,.call Tryz.func75 [] (Zkj b a e1 b8 e3)),(11,.idx Zc e5),(13,.call Tryz.func75 [] (Zkj c a e4 b9 e6)),(17,.call Tryz.func44 [] (ih b8 b9 d (ZI (a + (1:Int))) k e7))] 18 [] [] [] [(0,(slc 10 Za b)),(1,(slc 10 Za c)),(2,(i64 d)),(3,(i64 a)),(9,(.own 0 (List.length m))),(10,(slc 10 Za o)),(11,(slc 1 Zc f)),(12,(i64 g)),(13,(u64 j)),(14,(slc 10 Za k))] [bf 10 59 Za m false] (AWP.seq (AWP.seq ?_))
         obtain⟨e8,a4,hF⟩:=bindb hF
         replace a4:=someb a4
         obtain⟨e9,a5,hF⟩:=bindb hF
         replace a5:=someb a5
         obtain⟨f2,b1,hF⟩:=bindb hF
         refine AWP.to [(0,(slc 10 Za b)),(1,(slc 10 Za c)),(2,(i64 d)),(3,(i64 a)),(9,(.own 0 (List.length m))),(10,(slc 10 Za o)),(11,(slc 1 Zc f)),(12,(i64 g)),(13,(u64 j)),(14,(slc 10 Za k)),(94,(vb f2))] [bf 10 59 Za m false] ?_ ?_
         ·cases e8 with
          | false=>
           subst a5
           have f3:=someb (ifF b1 rfl)
           subst f3
           exact AWP.rgT [(2,.bool a4)]
          | true=>
           cases e9 with
           | false=>
            have f4:=someb (ifF b1 rfl)
            subst f4
            exact AWP.rgT [(2,.bool a4),(4,.len Za k),(7,.bool a5)]
           | true=>
            have a6:=ifT b1 rfl
            obtain⟨f5,f6,a6⟩:=bindb a6
            replace a6:=someb a6
            subst a6
            exact AWP.rgT [(2,.bool a4),(4,.len Za k),(7,.bool a5),(10,.call Tryz.func76 [] (Zof k o f5 f6))]
         refine AWP.cif hF (fun f7 hF=>?_) (fun f7 hF=>?_)
         ·refine AWP.seq (AWP.seq (AWP.rg0 [(1,.len Za m),(3,.len Za k)] [(0,(slc 10 Za b)),(1,(slc 10 Za c)),(2,(i64 d)),(3,(i64 a)),(9,(.own 0 (List.length m))),(10,(slc 10 Za o)),(11,(slc 1 Zc f)),(12,(i64 g)),(13,(u64 j)),(15,(i64 (ZI ((List.length m:Int) - (List.length k:Int)))))] ?_))
          obtain⟨a7,f8,hF⟩:=bindb hF
          refine AWP.mid (fun e st H=>e=.normal∧st=[(0,(slc 10 Za b)),(1,(slc 10 Za c)),(2,(i64 d)),(3,(i64 a)),(9,(.own 0 (List.length a7))),(10,(slc 10 Za o)),(11,(slc 1 Zc f)),(12,(i64 g))]∧H=[bf 10 59 Za a7 false]) ?_ ?_
          ·clear hF
           refine AWP.kp [0,1,2,3,9,10,11,12,13,15] 1 ?_
           refine AWP.bround (fun n st H=>∃ v,∃ u,Zcg a j n v u=some a7∧st=[(0,(slc 10 Za b)),(1,(slc 10 Za c)),(2,(i64 d)),(3,(i64 a)),(9,(.own 0 (List.length v))),(10,(slc 10 Za o)),(11,(slc 1 Zc f)),(12,(i64 g)),(13,(u64 j)),(15,(i64 u))]∧H=[bf 10 59 Za v false]) fuel ⟨m,(ZI ((List.length m:Int) - (List.length k:Int))),f8,by kernel_rfl,by kernel_rfl⟩ ?_
           rintro b2 st H ⟨v,u,hF,rfl,rfl⟩
           cases b2 with
           | zero=>exact noneb hF
           | succ b2=>
            rw [Zcg] at hF
            refine AWP.seq (AWP.seq (AWP.rg0 [(2,.len Za v)] [(0,(slc 10 Za b)),(1,(slc 10 Za c)),(2,(i64 d)),(3,(i64 a)),(9,(.own 0 (List.length v))),(10,(slc 10 Za o)),(11,(slc 1 Zc f)),(12,(i64 g)),(13,(u64 j)),(15,(i64 u)),(103,(vb (decide (u<(List.length v:Int)))))] ?_))
            refine AWP.cif hF (fun f9 hF=>?_) (fun f9 hF=>?_)
            ·refine AWP.skip (AWP.seq (AWP.block ?_))
             obtain⟨x,c0,hF⟩:=bindb hF
             obtain⟨c1,hF⟩:=chkb hF
             refine AWP.rg [(5,.idx Za c0),(6,.ixE Za v u c1),(7,.fdE Za v u),(8,.stEd Za c0 (fun c2=>(Arr5.set x c2 ({ (Arr5.get x c2) with Hi:=(IntKind.wrap .u32 j) }:Zb))) 0 2 1 c1)] [(0,(slc 10 Za b)),(1,(slc 10 Za c)),(2,(i64 d)),(3,(i64 a)),(9,(.own 0 (List.length v))),(10,(slc 10 Za o)),(11,(slc 1 Zc f)),(12,(i64 g)),(13,(u64 j)),(15,(i64 u))] [bf 10 59 Za (List.set v (Int.toNat u) (Arr5.set x a ({ (Arr5.get x a) with Hi:=(IntKind.wrap .u32 j) }:Zb))) false] ?_
             rw [show ([(0,(slc 10 Za b)),(1,(slc 10 Za c)),(2,(i64 d)),(3,(i64 a)),(9,(.own 0 (List.length v))),(10,(slc 10 Za o)),(11,(slc 1 Zc f)),(12,(i64 g)),(13,(u64 j)),(15,(i64 u))]:St)=[(0,(slc 10 Za b)),(1,(slc 10 Za c)),(2,(i64 d)),(3,(i64 a)),(9,(.own 0 (List.length (List.set v (Int.toNat u) (Arr5.set x a ({ (Arr5.get x a) with Hi:=(IntKind.wrap .u32 j) }:Zb)))))),(10,(slc 10 Za o)),(11,(slc 1 Zc f)),(12,(i64 g)),(13,(u64 j)),(15,(i64 u))] by simp only [List.length_set]]
             refine AWP.rg0 [] [(0,(slc 10 Za b)),(1,(slc 10 Za c)),(2,(i64 d)),(3,(i64 a)),(9,(.own 0 (List.length (List.set v (Int.toNat u) (Arr5.set x a ({ (Arr5.get x a) with Hi:=(IntKind.wrap .u32 j) }:Zb)))))),(10,(slc 10 Za o)),(11,(slc 1 Zc f)),(12,(i64 g)),(13,(u64 j)),(15,(i64 (ZI (u + (1:Int)))))] (LeQ.start (LeQ.pk [0,1,2,3,9,10,11,12,13,15] 1 ?_))
             exact⟨b2,Nat.lt_succ_self _,(List.set v (Int.toNat u) (Arr5.set x a ({ (Arr5.get x a) with Hi:=(IntKind.wrap .u32 j) }:Zb))),(ZI (u + (1:Int))),hF,by kernel_rfl,by kernel_rfl⟩
            ·refine AWP.exit (LeQ.start (LeQ.pk [0,1,2,3,9,10,11,12] 1 ?_))
             have hr:=someb hF
             subst hr
             exact⟨rfl,by kernel_rfl,by kernel_rfl⟩
          ·rintro _ _ _ ⟨rfl,rfl,rfl⟩
           refine AWP.exit (LeQ.start (LeQ.pk [0,1,2,3,9,10,11,12] 1 ?_))
           exact⟨rfl,a7,o,(someb hF).symm,by kernel_rfl,by kernel_rfl⟩
         ·refine AWP.skip (AWP.seq (AWP.rg0 [] [(0,(slc 10 Za b)),(1,(slc 10 Za c)),(2,(i64 d)),(3,(i64 a)),(9,(.own 0 (List.length m))),(10,(slc 10 Za k)),(11,(slc 1 Zc f)),(12,(i64 g)),(13,(u64 j)),(14,(slc 10 Za k))] (AWP.seq (AWP.rg0 [] [(0,(slc 10 Za b)),(1,(slc 10 Za c)),(2,(i64 d)),(3,(i64 a)),(9,(.own 0 (List.length m))),(10,(slc 10 Za k)),(11,(slc 1 Zc f)),(12,(i64 g)),(13,(u64 j)),(14,(slc 10 Za k)),(16,(i64 (0:Int)))] ?_))))
          obtain⟨a8,g0,hF⟩:=bindb hF
          refine AWP.mid (fun e st H=>e=.normal∧st=[(0,(slc 10 Za b)),(1,(slc 10 Za c)),(2,(i64 d)),(3,(i64 a)),(9,(.own 0 (List.length a8))),(10,(slc 10 Za k)),(11,(slc 1 Zc f)),(12,(i64 g))]∧H=[bf 10 59 Za a8 false]) ?_ ?_
          ·clear hF
           refine AWP.kp [0,1,2,3,9,10,11,12,13,14,16] 1 ?_
           refine AWP.bround (fun n st H=>∃ w,∃ y,Zb1 a f g j k n w y=some a8∧st=[(0,(slc 10 Za b)),(1,(slc 10 Za c)),(2,(i64 d)),(3,(i64 a)),(9,(.own 0 (List.length w))),(10,(slc 10 Za k)),(11,(slc 1 Zc f)),(12,(i64 g)),(13,(u64 j)),(14,(slc 10 Za k)),(16,(i64 y))]∧H=[bf 10 59 Za w false]) fuel ⟨m,(0:Int),g0,by kernel_rfl,by kernel_rfl⟩ ?_
           rintro b3 st H ⟨w,y,hF,rfl,rfl⟩
           cases b3 with
           | zero=>exact noneb hF
           | succ b3=>
            rw [Zb1] at hF
            refine AWP.seq (AWP.seq (AWP.rg0 [(2,.len Za k)] [(0,(slc 10 Za b)),(1,(slc 10 Za c)),(2,(i64 d)),(3,(i64 a)),(9,(.own 0 (List.length w))),(10,(slc 10 Za k)),(11,(slc 1 Zc f)),(12,(i64 g)),(13,(u64 j)),(14,(slc 10 Za k)),(16,(i64 y)),(118,(vb (decide (y<(List.length k:Int)))))] ?_))
            refine AWP.cif hF (fun g1 hF=>?_) (fun g1 hF=>?_)
            ·refine AWP.skip (AWP.seq (AWP.block (AWP.seq ?_)))
             obtain⟨z,g2,hF⟩:=bindb hF
             refine AWP.rg [(2,.idx Za g2)] [(0,(slc 10 Za b)),(1,(slc 10 Za c)),(2,(i64 d)),(3,(i64 a)),(9,(.own 0 (List.length w))),(10,(slc 10 Za k)),(11,(slc 1 Zc f)),(12,(i64 g)),(13,(u64 j)),(14,(slc 10 Za k)),(16,(i64 y)),(17,(.ptr 1 0))] [bf 10 59 Za w false,.cells (Za z)] (AWP.seq ?_)
             obtain⟨a0,g3,hF⟩:=bindb hF
             obtain⟨c3,hF⟩:=chkb hF
             refine AWP.rg [(3,.idx Zc g3),(9,.ixd c3),(10,.stA (fun g4=>Za (Arr5.set z g4 (Zb.mk (IntKind.wrap .u32 a0) (IntKind.wrap .u32 j)))) 0 2 0 c3)] [(0,(slc 10 Za b)),(1,(slc 10 Za c)),(2,(i64 d)),(3,(i64 a)),(9,(.own 0 (List.length w))),(10,(slc 10 Za k)),(11,(slc 1 Zc f)),(12,(i64 g)),(13,(u64 j)),(14,(slc 10 Za k)),(16,(i64 y)),(17,(.ptr 1 0))] [bf 10 59 Za w false,.cells (Za (Arr5.set z a (Zb.mk (IntKind.wrap .u32 a0) (IntKind.wrap .u32 j))))] ?_
             obtain⟨g5,hF⟩:=chkb hF
             refine AWP.rg [(3,.app Za (fun _=>by kernel_rfl) g5)] [(0,(slc 10 Za b)),(1,(slc 10 Za c)),(2,(i64 d)),(3,(i64 a)),(9,(.own 0 (List.length (w++[(Arr5.set z a (Zb.mk (IntKind.wrap .u32 a0) (IntKind.wrap .u32 j)))])))),(10,(slc 10 Za k)),(11,(slc 1 Zc f)),(12,(i64 g)),(13,(u64 j)),(14,(slc 10 Za k)),(16,(i64 y))] [bf 10 59 Za (w++[(Arr5.set z a (Zb.mk (IntKind.wrap .u32 a0) (IntKind.wrap .u32 j)))]) false,.cells (Za (Arr5.set z a (Zb.mk (IntKind.wrap .u32 a0) (IntKind.wrap .u32 j))))] (AWP.rg0 [] [(0,(slc 10 Za b)),(1,(slc 10 Za c)),(2,(i64 d)),(3,(i64 a)),(9,(.own 0 (List.length (w++[(Arr5.set z a (Zb.mk (IntKind.wrap .u32 a0) (IntKind.wrap .u32 j)))])))),(10,(slc 10 Za k)),(11,(slc 1 Zc f)),(12,(i64 g)),(13,(u64 j)),(14,(slc 10 Za k)),(16,(i64 (ZI (y + (1:Int)))))] (LeQ.start (LeQ.pk [0,1,2,3,9,10,11,12,13,14,16] 1 ?_)))
             exact⟨b3,Nat.lt_succ_self _,(w++[(Arr5.set z a (Zb.mk (IntKind.wrap .u32 a0) (IntKind.wrap .u32 j)))]),(ZI (y + (1:Int))),hF,by kernel_rfl,by kernel_rfl⟩
            ·refine AWP.exit (LeQ.start (LeQ.pk [0,1,2,3,9,10,11,12] 1 ?_))
             have hr:=someb hF
             subst hr
             exact⟨rfl,by kernel_rfl,by kernel_rfl⟩
          ·rintro _ _ _ ⟨rfl,rfl,rfl⟩
           refine LeQ.start (LeQ.pk [0,1,2,3,9,10,11,12] 1 ?_)
           exact⟨rfl,a8,k,(someb hF).symm,by kernel_rfl,by kernel_rfl⟩
       ·rintro _ _ _ ⟨rfl,a1,a3,rfl,rfl,rfl⟩
        refine AWP.rg0 [] [(0,(slc 10 Za b)),(1,(slc 10 Za c)),(2,(i64 d)),(3,(i64 a)),(9,(.own 0 (List.length a1))),(10,(slc 10 Za a3)),(11,(slc 1 Zc f)),(12,(i64 (ZI (g + (1:Int)))))] (LeQ.start (LeQ.pk [0,1,2,3,9,10,11,12] 1 ?_))
        exact⟨a9,Nat.lt_succ_self _,a1,a3,(ZI (g + (1:Int))),hF,by kernel_rfl,by kernel_rfl⟩
      ·refine AWP.exit (LeQ.start (LeQ.pk [9] 1 ?_))
       have hr:=someb hF
       subst hr
       exact⟨rfl,by kernel_rfl,by kernel_rfl⟩
    ·rintro _ _ _ ⟨rfl,rfl,rfl⟩
     refine AWP.seq (AWP.rg0 [] [(8,(.own 0 (List.length a2)))] (AWP.ret ?_))
     have hr:=someb hF
     subst hr
     exact(FnQ.f1 0 (.inr rfl) (.inl (Wk.ownT (i:=0) (s:=10) (t:=59) (l:=a2) (sh:=false) (row:=Za) (by kernel_rfl) (.inl rfl))))
theorem Zih (a:ZL) (b:ZL) (c:Int) (d:Int) (r:ZL) (hF:Zbc fuel a b c d=some r):ACall Tryz.prog glob 44 [(slc 10 Za a),(slc 10 Za b),(i64 c),(i64 d)] [] (Zig r):=Zk4 fuel a b c d r hF
def Zk5 (r:(ZL × Int)):PV→List Blk→Prop:=fun p K=>p=(.tup [(slc 10 Za r.1),(i64 r.2)])∧K=[]
theorem Zho (a:ZL) (r:(ZL × Int)) (hF:Zc7 a=some r):ACall Tryz.prog glob 43 [(slc 10 Za a)] [] (Zk5 r):=by
 refine ACall.body Tryz.func43 rfl (by kernel_rfl) ?_
 unfold Zc7 at hF
 refine AWP.seq (AWP.rg0 [] [(0,(slc 10 Za a))] (AWP.seq (AWP.seq (AWP.rg0 [(1,.len Za a)] [(0,(slc 10 Za a)),(6,(vb (decide ((List.length a:Int) > (4096:Int)))))] ?_))))
 refine AWP.cif hF (fun b hF=>?_) (fun b hF=>?_)
 ·refine AWP.seq (AWP.rg0 [] [(2,nils),(3,(i64 (3:Int)))] (AWP.ret ?_))
  have hr:=someb hF
  subst hr
  exact(FnQ.f1 0 (.inr rfl) (.inr ⟨_,_,rfl,rfl,(.cons _ _ _ _ (.nil 10) (.cons _ _ _ _ (.refl _) .nil))⟩))
 ·refine AWP.skip (AWP.seq (AWP.rg0 [] [(2,(slc 10 Za a)),(3,(i64 (0:Int)))] (AWP.ret ?_)))
  have hr:=someb hF
  subst hr
  exact(FnQ.f0 0 (.inr rfl))
def Zi9 (r:(ZL × Int)):PV→List Blk→Prop:=fun p K=>p=(.tup [(slc 10 Za r.1),(i64 r.2)])∧K=[]
abbrev Zja (r:(ZL × Int)):Exit→St→List Blk→Prop:=FnQ Tryz.prog Tryz.f20.results 0 (Zi9 r)
theorem Zjb (a:ZL) (r:(ZL × Int)) (hF:Zea a=some r):ACall Tryz.prog glob 20 [(slc 10 Za a)] [] (Zi9 r):=by
 refine ACall.body Tryz.func20 rfl (by kernel_rfl) ?_
 unfold Zea at hF
 refine AWP.seq (AWP.rg0 [] [(0,(slc 10 Za a))] (AWP.seq (AWP.rg0 [] [(0,(slc 10 Za a)),(4,nils)] (AWP.seq (AWP.seq (AWP.rg0 [] [(0,(slc 10 Za a)),(4,nils),(5,(i64 (0:Int)))] ?_))))))
 obtain⟨i,o,hF⟩:=bindb hF
 refine AWP.mid (fun e st H=>(e=.normal∧∃ g,i=(.inl g)∧st=[(4,(slc 10 Za g))]∧H=[])∨(e=.ret∧∃ r,i=(.inr r)∧Zja r e st H)) ?_ ?_
 ·clear hF
  refine AWP.wk (p:=nils) (q:=(slc 10 Za ([]:ZL))) (st':=[(4,(slc 10 Za ([]:ZL))),(0,(slc 10 Za a)),(5,(i64 (0:Int)))]) 4 (by kernel_rfl) (.nil 10) (by kernel_rfl) ?_
  refine AWP.kp [0,4,5] 0 ?_
  refine AWP.bround (fun n st H=>∃ d,∃ b,Zcp a n d b=some i∧st=[(0,(slc 10 Za a)),(4,(slc 10 Za d)),(5,(i64 b))]∧H=[]) fuel ⟨([]:ZL),(0:Int),o,by kernel_rfl,by kernel_rfl⟩ ?_
  rintro j st H ⟨d,b,hF,rfl,rfl⟩
  cases j with
  | zero=>exact noneb hF
  | succ j=>
   rw [Zcp] at hF
   refine AWP.seq (AWP.seq (AWP.rg0 [(2,.len Za a)] [(0,(slc 10 Za a)),(4,(slc 10 Za d)),(5,(i64 b)),(11,(vb (decide (b<(List.length a:Int)))))] ?_))
   refine AWP.cif hF (fun s hF=>?_) (fun s hF=>?_)
   ·refine AWP.skip ?_
    obtain⟨k,t,hF⟩:=bindb hF
    refine AWP.seq ?_
    refine AWP.mid (fun e st H=>(e=.normal∧∃ f,k=(.inl f)∧st=[(0,(slc 10 Za a)),(4,(slc 10 Za f)),(5,(i64 b))]∧H=[])∨(e=.ret∧∃ r,k=(.inr r)∧Zja r e st H)) ?_ ?_
    ·clear hF
     have hF:=t
     refine AWP.block (AWP.seq (AWP.seq ?_))
     obtain⟨u,v,hF⟩:=bindb hF
     obtain⟨l,w,hF⟩:=bindb hF
     refine AWP.rg0 [(2,.idx Za v),(4,.call Tryz.func42 [] (Zif u l w))] [(0,(slc 10 Za a)),(4,(slc 10 Za d)),(5,(i64 b)),(19,(vb (!l)))] ?_
     refine AWP.cif hF (fun x hF=>?_) (fun x hF=>?_)
     ·refine AWP.exit (LeQ.start (LeQ.pk [0,4,5] 0 ?_))
      exact(.inl ⟨rfl,d,(someb hF).symm,by kernel_rfl,by kernel_rfl⟩)
     ·refine AWP.skip (AWP.seq ?_)
      obtain⟨y,hF⟩:=chkb hF
      obtain⟨m,z,hF⟩:=bindb hF
      obtain⟨c,a0,hF⟩:=bindb hF
      refine AWP.rg0 [(5,.slice Za a y),(6,.call Tryz.func44 [] (Zih d (List.drop (Int.toNat b) (List.take (Int.toNat (ZI (b + (1:Int)))) a)) (0:Int) (0:Int) m z)),(7,.call Tryz.func43 [] (Zho m c a0))] [(0,(slc 10 Za a)),(5,(i64 b)),(6,(slc 10 Za c.1)),(7,(i64 c.2))] (AWP.seq (AWP.seq (AWP.rg0 [] [(0,(slc 10 Za a)),(5,(i64 b)),(6,(slc 10 Za c.1)),(7,(i64 c.2)),(32,(vb (c.2 != (0:Int))))] ?_)))
      refine AWP.cif hF (fun a1 hF=>?_) (fun a1 hF=>?_)
      ·refine AWP.seq (AWP.rg0 [] [(2,nils),(3,(i64 c.2))] (AWP.ret ?_))
       exact LeQ.of (.inr ⟨rfl,(([]:ZL),c.2),(someb hF).symm,(FnQ.f1 0 (.inr rfl) (.inr ⟨_,_,rfl,rfl,(.cons _ _ _ _ (.nil 10) (.cons _ _ _ _ (.refl _) .nil))⟩))⟩)
      ·refine AWP.skip (AWP.rg0 [] [(0,(slc 10 Za a)),(4,(slc 10 Za c.1)),(5,(i64 b))] (LeQ.start (LeQ.pk [0,4,5] 0 ?_)))
       exact(.inl ⟨rfl,c.1,(someb hF).symm,by kernel_rfl,by kernel_rfl⟩)
    ·rintro _ _ _ (⟨rfl,f,rfl,rfl,rfl⟩ | ⟨rfl,a2,rfl,hq⟩)
     ·refine AWP.rg0 [] [(0,(slc 10 Za a)),(4,(slc 10 Za f)),(5,(i64 (ZI (b + (1:Int)))))] (LeQ.start (LeQ.pk [0,4,5] 0 ?_))
      exact⟨j,Nat.lt_succ_self _,f,(ZI (b + (1:Int))),hF,by kernel_rfl,by kernel_rfl⟩
     ·exact LeQ.of (.inr ⟨rfl,a2,(someb hF).symm,hq⟩)
   ·refine AWP.exit (LeQ.start (LeQ.pk [4] 0 ?_))
    exact(.inl ⟨rfl,d,(someb hF).symm,by kernel_rfl,by kernel_rfl⟩)
 ·rintro _ _ _ (⟨rfl,g,rfl,rfl,rfl⟩ | ⟨rfl,a3,rfl,hq⟩)
  ·refine AWP.seq (AWP.rg0 [] [(2,(slc 10 Za g)),(3,(i64 (0:Int)))] (AWP.ret ?_))
   have hr:=someb hF
   subst hr
   exact(FnQ.f0 0 (.inr rfl))
  ·have hr:=someb hF
   subst hr
   exact hq
def Zk6 (r:(ZL × Zd)):PV→List Blk→Prop:=fun p K=>p=(slc 10 Za r.1)∧K=[.cells (Ze r.2)]
theorem Zhp (b:Zd) (a:Int) (r:(ZL × Zd)) (hF:Zc8 b a=some r):ACall Tryz.prog glob 6 [(.ptr 0 0),(i64 a)] [.cells (Ze b)] (Zk6 r):=by
 refine ACall.body Tryz.func6 rfl (by kernel_rfl) ?_
 unfold Zc8 at hF
 refine AWP.seq (AWP.rg0 [] [(0,(.ptr 0 0)),(1,(i64 a))] (AWP.seq ?_))
 obtain⟨c,f,hF⟩:=bindb hF
 obtain⟨d,g,hF⟩:=bindb hF
 refine AWP.rg [(2,.call Tryz.func12 [] (Zj1 b a false c f)),(3,.call Tryz.func20 [] (Zjb c.1 d g))] [(5,(slc 10 Za d.1))] [.cells (Ze c.2)] (AWP.seq (AWP.rg0 [] [(4,(slc 10 Za d.1))] (AWP.ret ?_)))
 have hr:=someb hF
 subst hr
 exact(FnQ.f0 1 (.inr rfl))
def Znk (r:ZL):PV→List Blk→Prop:=fun p K=>p=(slc 10 Za r)∧K=[]
theorem Zii (a:ZL) (r:ZL) (hF:Zes a=some r):ACall Tryz.prog glob 93 [(slc 10 Za a)] [] (Znk r):=by
 refine ACall.body Tryz.func93 rfl (by kernel_rfl) ?_
 unfold Zes at hF
 refine AWP.seq (AWP.rg0 [] [(0,(slc 10 Za a))] (AWP.seq (AWP.rg0 [] [(0,(slc 10 Za a)),(3,nils)] ?_)))
 refine AWP.own (H':=[bf 10 59 Za ([]:ZL) false]) (st':=[(3,(.own 0 (List.length ([]:ZL)))),(0,(slc 10 Za a))]) 3 10 59 (by kernel_rfl) (by kernel_rfl) (by kernel_rfl) ?_
 refine AWP.pick (st':=[(0,(slc 10 Za a)),(3,(.own 0 (List.length ([]:ZL))))]) (ks:=[0,3]) (by kernel_rfl) ?_
 refine AWP.seq (AWP.seq (AWP.rg0 [] [(0,(slc 10 Za a)),(3,(.own 0 (List.length ([]:ZL)))),(4,(i64 (0:Int)))] ?_))
 obtain⟨d,m,hF⟩:=bindb hF
 refine AWP.mid (fun e st H=>e=.normal∧st=[(3,(.own 0 (List.length d)))]∧H=[bf 10 59 Za d false]) ?_ ?_
 ·clear hF
  refine AWP.kp [0,3,4] 1 ?_
  refine AWP.bround (fun n st H=>∃ c,∃ b,Zci a n c b=some d∧st=[(0,(slc 10 Za a)),(3,(.own 0 (List.length c))),(4,(i64 b))]∧H=[bf 10 59 Za c false]) fuel ⟨([]:ZL),(0:Int),m,by kernel_rfl,by kernel_rfl⟩ ?_
  rintro g st H ⟨c,b,hF,rfl,rfl⟩
  cases g with
  | zero=>exact noneb hF
  | succ g=>
   rw [Zci] at hF
   refine AWP.seq (AWP.seq (AWP.rg0 [(2,.len Za a)] [(0,(slc 10 Za a)),(3,(.own 0 (List.length c))),(4,(i64 b)),(8,(vb (decide (b<(List.length a:Int)))))] ?_))
   refine AWP.cif hF (fun o hF=>?_) (fun o hF=>?_)
   ·refine AWP.skip ?_
    obtain⟨f,p,hF⟩:=bindb hF
    refine AWP.seq ?_
    refine AWP.mid (fun e st H=>e=.normal∧st=[(0,(slc 10 Za a)),(3,(.own 0 (List.length f))),(4,(i64 b))]∧H=[bf 10 59 Za f false]) ?_ ?_
    ·clear hF
     have hF:=p
     refine AWP.block (AWP.seq ?_)
     obtain⟨q,u,hF⟩:=bindb hF
     obtain⟨j,v,hF⟩:=bindb hF
     refine AWP.rg0 [(2,.idx Za u),(4,.call Tryz.func42 [] (Zif q j v))] [(0,(slc 10 Za a)),(3,(.own 0 (List.length c))),(4,(i64 b)),(15,(vb j))] ?_
     refine AWP.cif hF (fun w hF=>?_) (fun w hF=>?_)
     ·obtain⟨k,x,hF⟩:=bindb hF
      obtain⟨y,hF⟩:=chkb hF
      refine AWP.rg [(3,.idx Za x),(6,.app Za (fun _=>by kernel_rfl) y)] [(0,(slc 10 Za a)),(3,(.own 0 (List.length (c++[k])))),(4,(i64 b))] [bf 10 59 Za (c++[k]) false] (LeQ.start (LeQ.pk [0,3,4] 1 ?_))
      have hr:=someb hF
      subst hr
      exact⟨rfl,by kernel_rfl,by kernel_rfl⟩
     ·refine AWP.skip (LeQ.start (LeQ.pk [0,3,4] 1 ?_))
      have hr:=someb hF
      subst hr
      exact⟨rfl,by kernel_rfl,by kernel_rfl⟩
    ·rintro _ _ _ ⟨rfl,rfl,rfl⟩
     refine AWP.rg0 [] [(0,(slc 10 Za a)),(3,(.own 0 (List.length f))),(4,(i64 (ZI (b + (1:Int)))))] (LeQ.start (LeQ.pk [0,3,4] 1 ?_))
     exact⟨g,Nat.lt_succ_self _,f,(ZI (b + (1:Int))),hF,by kernel_rfl,by kernel_rfl⟩
   ·refine AWP.exit (LeQ.start (LeQ.pk [3] 1 ?_))
    have hr:=someb hF
    subst hr
    exact⟨rfl,by kernel_rfl,by kernel_rfl⟩
 ·rintro _ _ _ ⟨rfl,rfl,rfl⟩
  refine AWP.seq (AWP.rg0 [] [(2,(.own 0 (List.length d)))] (AWP.ret ?_))
  have hr:=someb hF
  subst hr
  exact(FnQ.f1 0 (.inr rfl) (.inl (Wk.ownT (i:=0) (s:=10) (t:=59) (l:=d) (sh:=false) (row:=Za) (by kernel_rfl) (.inl rfl))))
def Zij (r:Bool):PV→List Blk→Prop:=fun p K=>p=(vb r)∧K=[]
abbrev Zik (r:Bool):Exit→St→List Blk→Prop:=FnQ Tryz.prog Tryz.f104.results 0 (Zij r)
theorem Znl (a:ZL) (b:ZL) (c:Int) (r:Bool) (hF:Zdt a b c=some r):ACall Tryz.prog glob 104 [(slc 10 Za a),(slc 10 Za b),(i64 c)] [] (Zij r):=by
 refine ACall.body Tryz.func104 rfl (by kernel_rfl) ?_
 unfold Zdt at hF
 refine AWP.seq (AWP.rg0 [] [(0,(slc 10 Za a)),(1,(slc 10 Za b)),(2,(i64 c))] (AWP.seq (AWP.seq (AWP.rg0 [(1,.len Za a),(3,.len Za b)] [(0,(slc 10 Za a)),(1,(slc 10 Za b)),(2,(i64 c)),(13,(vb ((List.length a:Int) != (List.length b:Int))))] ?_))))
 refine AWP.cif hF (fun q hF=>?_) (fun q hF=>?_)
 ·refine AWP.seq (AWP.rg0 [] [(6,(vb false))] (AWP.ret ?_))
  have hr:=someb hF
  subst hr
  exact(FnQ.f0 0 (.inr rfl))
 ·refine AWP.skip (AWP.seq (AWP.seq (AWP.rg0 [] [(0,(slc 10 Za a)),(1,(slc 10 Za b)),(2,(i64 c)),(7,(i64 (0:Int)))] ?_)))
  obtain⟨g,s,hF⟩:=bindb hF
  refine AWP.mid (fun e st H=>(e=.normal∧g=(.inl ())∧st=[]∧H=[])∨(e=.ret∧∃ r,g=(.inr r)∧Zik r e st H)) ?_ ?_
  ·clear hF
   refine AWP.kp [0,1,2,7] 0 ?_
   refine AWP.bround (fun n st H=>∃ d,Zck a b c n d=some g∧st=[(0,(slc 10 Za a)),(1,(slc 10 Za b)),(2,(i64 c)),(7,(i64 d))]∧H=[]) fuel ⟨(0:Int),s,by kernel_rfl,by kernel_rfl⟩ ?_
   rintro i st H ⟨d,hF,rfl,rfl⟩
   cases i with
   | zero=>exact noneb hF
   | succ i=>
    rw [Zck] at hF
    refine AWP.seq (AWP.seq (AWP.rg0 [(2,.len Za a)] [(0,(slc 10 Za a)),(1,(slc 10 Za b)),(2,(i64 c)),(7,(i64 d)),(17,(vb (decide (d<(List.length a:Int)))))] ?_))
    refine AWP.cif hF (fun t hF=>?_) (fun t hF=>?_)
    ·refine AWP.skip (AWP.seq (AWP.block (AWP.seq (AWP.rg0 [] [(0,(slc 10 Za a)),(1,(slc 10 Za b)),(2,(i64 c)),(7,(i64 d)),(8,(i64 c))] ?_))))
     obtain⟨j,u,hF⟩:=bindb hF
     refine AWP.mid (fun e st H=>(e=.normal∧j=(.inl ())∧st=[(0,(slc 10 Za a)),(1,(slc 10 Za b)),(2,(i64 c)),(7,(i64 d))]∧H=[])∨(e=.ret∧∃ r,j=(.inr r)∧Zik r e st H)) ?_ ?_
     ·clear hF
      refine AWP.kp [0,1,2,7,8] 0 ?_
      refine AWP.bround (fun n st H=>∃ f,Zcj a b d n f=some j∧st=[(0,(slc 10 Za a)),(1,(slc 10 Za b)),(2,(i64 c)),(7,(i64 d)),(8,(i64 f))]∧H=[]) fuel ⟨c,u,by kernel_rfl,by kernel_rfl⟩ ?_
      rintro k st H ⟨f,hF,rfl,rfl⟩
      cases k with
      | zero=>exact noneb hF
      | succ k=>
       rw [Zcj] at hF
       refine AWP.seq (AWP.seq (AWP.rg0 [] [(0,(slc 10 Za a)),(1,(slc 10 Za b)),(2,(i64 c)),(7,(i64 d)),(8,(i64 f)),(22,(vb (decide (f<(5:Int)))))] ?_))
       refine AWP.cif hF (fun v hF=>?_) (fun v hF=>?_)
       ·refine AWP.skip (AWP.seq (AWP.block (AWP.seq ?_)))
        obtain⟨l,w,hF⟩:=bindb hF
        obtain⟨m,hF⟩:=chkb hF
        obtain⟨o,x,hF⟩:=bindb hF
        obtain⟨p,hF⟩:=chkb hF
        refine AWP.dr [(3,.idx Za w),(4,.ixd m),(5,.ldA Zf (Arr5.get l) 0 2 0 m),(9,.idx Za x),(10,.ixd p),(11,.ldA Zf (Arr5.get o) 0 2 0 p)] 13 [] [] [] [(0,(slc 10 Za a)),(1,(slc 10 Za b)),(2,(i64 c)),(7,(i64 d)),(8,(i64 f)),(37,(vb (!(Zb7 (Arr5.get l f) (Arr5.get o f)))))] [] ?_
        refine AWP.cif hF (fun y hF=>?_) (fun y hF=>?_)
        ·refine AWP.seq (AWP.rg0 [] [(6,(vb false))] (AWP.ret ?_))
         exact LeQ.of (.inr ⟨rfl,false,(someb hF).symm,(FnQ.f0 0 (.inr rfl))⟩)
        ·refine AWP.skip (AWP.rg0 [] [(0,(slc 10 Za a)),(1,(slc 10 Za b)),(2,(i64 c)),(7,(i64 d)),(8,(i64 (ZI (f + (1:Int)))))] (LeQ.start (LeQ.pk [0,1,2,7,8] 0 ?_)))
         exact⟨k,Nat.lt_succ_self _,(ZI (f + (1:Int))),hF,by kernel_rfl,by kernel_rfl⟩
       ·refine AWP.exit (LeQ.start (LeQ.pk [0,1,2,7] 0 ?_))
        exact(.inl ⟨rfl,(someb hF).symm,by kernel_rfl,by kernel_rfl⟩)
     ·rintro _ _ _ (⟨rfl,rfl,rfl,rfl⟩ | ⟨rfl,z,rfl,hq⟩)
      ·refine AWP.rg0 [] [(0,(slc 10 Za a)),(1,(slc 10 Za b)),(2,(i64 c)),(7,(i64 (ZI (d + (1:Int)))))] (LeQ.start (LeQ.pk [0,1,2,7] 0 ?_))
       exact⟨i,Nat.lt_succ_self _,(ZI (d + (1:Int))),hF,by kernel_rfl,by kernel_rfl⟩
      ·exact LeQ.of (.inr ⟨rfl,z,(someb hF).symm,hq⟩)
    ·refine AWP.exit (LeQ.start (LeQ.pk [] 0 ?_))
     exact(.inl ⟨rfl,(someb hF).symm,by kernel_rfl,by kernel_rfl⟩)
  ·rintro _ _ _ (⟨rfl,rfl,rfl,rfl⟩ | ⟨rfl,a0,rfl,hq⟩)
   ·refine AWP.seq (AWP.rg0 [] [(6,(vb true))] (AWP.ret ?_))
    have hr:=someb hF
    subst hr
    exact(FnQ.f0 0 (.inr rfl))
   ·have hr:=someb hF
    subst hr
    exact hq
def Zff (r:Bool):PV→List Blk→Prop:=fun p K=>p=(vb r)∧K=[]
abbrev Zfg (r:Bool):Exit→St→List Blk→Prop:=FnQ Tryz.prog Tryz.f94.results 0 (Zff r)
theorem Zjc:∀(nr:Nat) (a:ZL) (b:Int) (r:Bool) (hF:Za4 nr a b=some r),ACall Tryz.prog glob 94 [(slc 10 Za a),(i64 b)] [] (Zff r):=by
 intro nr
 induction nr with
 | zero=>intro a b r hF; exact noneb (by rw [Za4] at hF; exact hF)
 | succ nr ih=>
  intro a b r hF
  refine ACall.body Tryz.func94 rfl (by kernel_rfl) ?_
  rw [Za4] at hF
  refine AWP.seq (AWP.rg0 [] [(0,(slc 10 Za a)),(1,(i64 b))] (AWP.seq (AWP.seq (AWP.rg0 [] [(0,(slc 10 Za a)),(1,(i64 b)),(12,(vb (b == (5:Int))))] ?_))))
  refine AWP.cif hF (fun b0 hF=>?_) (fun b0 hF=>?_)
  ·refine AWP.seq (AWP.rg0 [(1,.len Za a)] [(4,(vb ((List.length a:Int) == (1:Int))))] (AWP.ret ?_))
   have hr:=someb hF
   subst hr
   exact(FnQ.f0 0 (.inr rfl))
  ·refine AWP.skip (AWP.seq (AWP.rg0 [] [(0,(slc 10 Za a)),(1,(i64 b)),(5,nils)] (AWP.seq (AWP.seq (AWP.rg0 [] [(0,(slc 10 Za a)),(1,(i64 b)),(5,nils),(6,(i64 (0:Int)))] ?_)))))
   obtain⟨x,b1,hF⟩:=bindb hF
   refine AWP.mid (fun e st H=>(e=.normal∧x=(.inl ())∧st=[]∧H=[])∨(e=.ret∧∃ r,x=(.inr r)∧Zfg r e st H)) ?_ ?_
   ·clear hF
    refine AWP.wk (p:=nils) (q:=(slc 10 Za ([]:ZL))) (st':=[(5,(slc 10 Za ([]:ZL))),(0,(slc 10 Za a)),(1,(i64 b)),(6,(i64 (0:Int)))]) 5 (by kernel_rfl) (.nil 10) (by kernel_rfl) ?_
    refine AWP.kp [0,1,5,6] 0 ?_
    refine AWP.bround (fun n st H=>∃ d,∃ c,Zbi a b (Za4 nr) n d c=some x∧st=[(0,(slc 10 Za a)),(1,(i64 b)),(5,(slc 10 Za d)),(6,(i64 c))]∧H=[]) fuel ⟨([]:ZL),(0:Int),b1,by kernel_rfl,by kernel_rfl⟩ ?_
    rintro y st H ⟨d,c,hF,rfl,rfl⟩
    cases y with
    | zero=>exact noneb hF
    | succ y=>
     rw [Zbi] at hF
     refine AWP.seq (AWP.seq (AWP.rg0 [(2,.len Za a)] [(0,(slc 10 Za a)),(1,(i64 b)),(5,(slc 10 Za d)),(6,(i64 c)),(19,(vb (decide (c<(List.length a:Int)))))] ?_))
     refine AWP.cif hF (fun b2 hF=>?_) (fun b2 hF=>?_)
     ·refine AWP.skip ?_
      obtain⟨a0,b3,hF⟩:=bindb hF
      refine AWP.seq ?_
      refine AWP.mid (fun e st H=>(e=.normal∧∃ i,a0=(.inl i)∧st=[(0,(slc 10 Za a)),(1,(i64 b)),(5,(slc 10 Za i)),(6,(i64 c))]∧H=[])∨(e=.ret∧∃ r,a0=(.inr r)∧Zfg r e st H)) ?_ ?_
      ·clear hF
       have hF:=b3
       refine AWP.block (AWP.seq (AWP.rg0 [] [(0,(slc 10 Za a)),(1,(i64 b)),(5,(slc 10 Za d)),(6,(i64 c)),(7,(i64 c))] (AWP.seq ?_)))
       obtain⟨f,b4,hF⟩:=bindb hF
       refine AWP.mid (fun e st H=>e=.normal∧st=[(0,(slc 10 Za a)),(1,(i64 b)),(5,(slc 10 Za d)),(6,(i64 c)),(7,(i64 f))]∧H=[]) ?_ ?_
       ·clear hF
        refine AWP.kp [0,1,5,6,7] 0 ?_
        refine AWP.bround (fun n st H=>∃ k,Zbu a b c n k=some f∧st=[(0,(slc 10 Za a)),(1,(i64 b)),(5,(slc 10 Za d)),(6,(i64 c)),(7,(i64 k))]∧H=[]) fuel ⟨c,b4,by kernel_rfl,by kernel_rfl⟩ ?_
        rintro z st H ⟨k,hF,rfl,rfl⟩
        cases z with
        | zero=>exact noneb hF
        | succ z=>
         rw [Zbu] at hF
         refine AWP.seq (AWP.seq ?_)
         obtain⟨b5,o,hF⟩:=bindb hF
         replace o:=someb o
         obtain⟨b6,a1,hF⟩:=bindb hF
         refine AWP.to [(0,(slc 10 Za a)),(1,(i64 b)),(5,(slc 10 Za d)),(6,(i64 c)),(7,(i64 k)),(43,(vb b6))] [] ?_ ?_
         ·cases b5 with
          | false=>
           have b7:=someb (ifF a1 rfl)
           subst b7
           exact AWP.drT [(2,.len Za a),(4,.bool o)] 19 [] [] []
          | true=>
           have g:=ifT a1 rfl
           obtain⟨b8,b9,g⟩:=bindb g
           obtain⟨a2,g⟩:=chkb g
           obtain⟨c0,c1,g⟩:=bindb g
           obtain⟨a3,g⟩:=chkb g
           replace g:=someb g
           subst g
           exact AWP.drT [(2,.len Za a),(4,.bool o),(8,.idx Za b9),(9,.ixd a2),(10,.ldA Zf (Arr5.get b8) 0 2 0 a2),(14,.idx Za c1),(15,.ixd a3),(16,.ldA Zf (Arr5.get c0) 0 2 0 a3)] 19 [] [] []
         refine AWP.cif hF (fun c2 hF=>?_) (fun c2 hF=>?_)
         ·refine AWP.skip (AWP.block (AWP.rg0 [] [(0,(slc 10 Za a)),(1,(i64 b)),(5,(slc 10 Za d)),(6,(i64 c)),(7,(i64 (ZI (k + (1:Int)))))] (LeQ.start (LeQ.pk [0,1,5,6,7] 0 ?_))))
          exact⟨z,Nat.lt_succ_self _,(ZI (k + (1:Int))),hF,by kernel_rfl,by kernel_rfl⟩
         ·refine AWP.exit (LeQ.start (LeQ.pk [0,1,5,6,7] 0 ?_))
          have hr:=someb hF
          subst hr
          exact⟨rfl,by kernel_rfl,by kernel_rfl⟩
       ·rintro _ _ _ ⟨rfl,rfl,rfl⟩
        refine AWP.seq ?_
        obtain⟨c3,hF⟩:=chkb hF
        refine AWP.rg0 [(3,.slice Za a c3)] [(0,(slc 10 Za a)),(1,(i64 b)),(5,(slc 10 Za d)),(6,(i64 c)),(8,(slc 10 Za (List.drop (Int.toNat c) (List.take (Int.toNat f) a))))] ?_
        obtain⟨a4,c4,hF⟩:=bindb hF
        refine AWP.seq ?_
        refine AWP.mid (fun e st H=>(e=.normal∧a4=(.inl ())∧st=[(0,(slc 10 Za a)),(1,(i64 b)),(6,(i64 c)),(8,(slc 10 Za (List.drop (Int.toNat c) (List.take (Int.toNat f) a))))]∧H=[])∨(e=.ret∧∃ r,a4=(.inr r)∧Zfg r e st H)) ?_ ?_
        ·clear hF
         have hF:=c4
         refine AWP.seq (AWP.rg0 [] [(0,(slc 10 Za a)),(1,(i64 b)),(5,(slc 10 Za d)),(6,(i64 c)),(8,(slc 10 Za (List.drop (Int.toNat c) (List.take (Int.toNat f) a)))),(51,(vb (decide (c > (0:Int)))))] ?_)
         refine AWP.cif hF (fun c5 hF=>?_) (fun c5 hF=>?_)
         ·refine AWP.seq ?_
          obtain⟨s,a5,hF⟩:=bindb hF
          obtain⟨t,hF⟩:=chkb hF
          obtain⟨u,a6,hF⟩:=bindb hF
          obtain⟨v,hF⟩:=chkb hF
          refine AWP.to [(0,(slc 10 Za a)),(1,(i64 b)),(5,(slc 10 Za d)),(6,(i64 c)),(8,(slc 10 Za (List.drop (Int.toNat c) (List.take (Int.toNat f) a)))),(9,(.ptr 0 0)),(10,(.ptr 1 0))] [.cells (Zf (Arr5.get s b)),.cells (Zf (Arr5.get u b))] ?_ ?_
          ·refine AWP.of_draw (by kernel_rfl) ?_
           refine ADraw.either 14 13 (by kernel_rfl) ?_ ?_
           ·exact ADraw.drT [(4,.idx Za a5),(5,.ixd t),(6,.ldA Zf (Arr5.get s) 0 2 0 t),(10,.idx Za a6),(11,.ixd v),(12,.ldA Zf (Arr5.get u) 0 2 0 v)] 16 [] [13,14,15] []
           ·exact ADraw.drT [(4,.idx Za a5),(5,.ixd t),(6,.ldA Zf (Arr5.get s) 0 2 0 t),(10,.idx Za a6),(11,.ixd v),(12,.ldA Zf (Arr5.get u) 0 2 0 v)] 16 [0,1,2,3,4,5,6,7,8,9,10,11,12,14,13,15] [14,13,15] [(0,1)]
          refine AWP.seq ?_
          obtain⟨c6,l,hF⟩:=bindb hF
          replace l:=someb l
          obtain⟨c7,a7,hF⟩:=bindb hF
          refine AWP.to [(0,(slc 10 Za a)),(1,(i64 b)),(6,(i64 c)),(8,(slc 10 Za (List.drop (Int.toNat c) (List.take (Int.toNat f) a)))),(84,(vb c7))] [.cells (Zf (Arr5.get s b)),.cells (Zf (Arr5.get u b))] ?_ ?_
          ·cases c6 with
           | false=>
            have j:=ifF a7 rfl
            obtain⟨c8,w,j⟩:=bindb j
            replace w:=someb w
            obtain⟨d8,a8,j⟩:=bindb j
            replace j:=someb j
            subst j
            cases c8 with
            | false=>
             have c9:=someb (ifF a8 rfl)
             subst c9
             exact AWP.rgT [(5,.bool l),(12,.bool w)]
            | true=>
             have m:=ifT a8 rfl
             obtain⟨d0,d1,m⟩:=bindb m
             replace m:=someb m
             subst m
             exact AWP.rgT [(5,.bool l),(12,.bool w),(17,.call Tryz.func104 [] (Znl d (List.drop (Int.toNat c) (List.take (Int.toNat f) a)) (ZI (b + (1:Int))) d0 d1))]
           | true=>
            have d2:=someb (ifT a7 rfl)
            subst d2
            exact AWP.rgT [(5,.bool l)]
          refine AWP.cif hF (fun d3 hF=>?_) (fun d3 hF=>?_)
          ·refine AWP.seq (AWP.rg0 [] [(4,(vb false))] (AWP.ret ?_))
           exact LeQ.of (.inr ⟨rfl,false,(someb hF).symm,(FnQ.f0 0 (.inr rfl))⟩)
          ·refine AWP.skip (LeQ.start (LeQ.pk [0,1,6,8] 0 ?_))
           exact(.inl ⟨rfl,(someb hF).symm,by kernel_rfl,by kernel_rfl⟩)
         ·refine AWP.skip (LeQ.start (LeQ.pk [0,1,6,8] 0 ?_))
          exact(.inl ⟨rfl,(someb hF).symm,by kernel_rfl,by kernel_rfl⟩)
        ·rintro _ _ _ (⟨rfl,rfl,rfl,rfl⟩ | ⟨rfl,d4,rfl,hq⟩)
         ·refine AWP.seq (AWP.seq ?_)
          obtain⟨a9,d5,hF⟩:=bindb hF
          refine AWP.rg0 [(3,.call Tryz.func94 [] (ih (List.drop (Int.toNat c) (List.take (Int.toNat f) a)) (ZI (b + (1:Int))) a9 d5))] [(0,(slc 10 Za a)),(1,(i64 b)),(6,(i64 c)),(8,(slc 10 Za (List.drop (Int.toNat c) (List.take (Int.toNat f) a)))),(89,(vb (!a9)))] ?_
          refine AWP.cif hF (fun d6 hF=>?_) (fun d6 hF=>?_)
          ·refine AWP.seq (AWP.rg0 [] [(4,(vb false))] (AWP.ret ?_))
           exact LeQ.of (.inr ⟨rfl,false,(someb hF).symm,(FnQ.f0 0 (.inr rfl))⟩)
          ·refine AWP.skip (AWP.rg0 [] [(0,(slc 10 Za a)),(1,(i64 b)),(5,(slc 10 Za (List.drop (Int.toNat c) (List.take (Int.toNat f) a)))),(6,(i64 c))] (LeQ.start (LeQ.pk [0,1,5,6] 0 ?_)))
           exact(.inl ⟨rfl,(List.drop (Int.toNat c) (List.take (Int.toNat f) a)),(someb hF).symm,by kernel_rfl,by kernel_rfl⟩)
         ·exact LeQ.of (.inr ⟨rfl,d4,(someb hF).symm,hq⟩)
      ·rintro _ _ _ (⟨rfl,i,rfl,rfl,rfl⟩ | ⟨rfl,d7,rfl,hq⟩)
       ·refine AWP.rg0 [(2,.len Za i)] [(0,(slc 10 Za a)),(1,(i64 b)),(5,(slc 10 Za i)),(6,(i64 (ZI (c + (List.length i:Int)))))] (LeQ.start (LeQ.pk [0,1,5,6] 0 ?_))
        exact⟨y,Nat.lt_succ_self _,i,(ZI (c + (List.length i:Int))),hF,by kernel_rfl,by kernel_rfl⟩
       ·exact LeQ.of (.inr ⟨rfl,d7,(someb hF).symm,hq⟩)
     ·refine AWP.exit (LeQ.start (LeQ.pk [] 0 ?_))
      exact(.inl ⟨rfl,(someb hF).symm,by kernel_rfl,by kernel_rfl⟩)
   ·rintro _ _ _ (⟨rfl,rfl,rfl,rfl⟩ | ⟨rfl,d9,rfl,hq⟩)
    ·refine AWP.seq (AWP.rg0 [] [(4,(vb true))] (AWP.ret ?_))
     have hr:=someb hF
     subst hr
     exact(FnQ.f0 0 (.inr rfl))
    ·have hr:=someb hF
     subst hr
     exact hq
theorem Zj2 (a:ZL) (b:Int) (r:Bool) (hF:Za4 fuel a b=some r):ACall Tryz.prog glob 94 [(slc 10 Za a),(i64 b)] [] (Zff r):=Zjc fuel a b r hF
def Znm (r:Bool):PV→List Blk→Prop:=fun p K=>p=(vb r)∧K=[]
theorem Znn (a:ZL) (r:Bool) (hF:Zdu a=some r):ACall Tryz.prog glob 77 [(slc 10 Za a)] [] (Znm r):=by
 refine ACall.body Tryz.func77 rfl (by kernel_rfl) ?_
 unfold Zdu at hF
 refine AWP.seq (AWP.rg0 [] [(0,(slc 10 Za a))] (AWP.seq ?_))
 obtain⟨b1,b,hF⟩:=bindb hF
 replace b:=someb b
 obtain⟨t,j,hF⟩:=bindb hF
 obtain⟨l,c,hF⟩:=bindb hF
 replace c:=someb c
 obtain⟨m,i,hF⟩:=bindb hF
 refine AWP.to [(2,(vb m))] [] ?_ ?_
 ·cases b1 with
  | false=>
   have n:=someb (ifF j rfl)
   subst n
   subst c
   have o:=someb (ifF i rfl)
   subst o
   exact AWP.rgT [(1,.len Za a),(3,.bool b)]
  | true=>
   have d:=ifT j rfl
   obtain⟨g,k,d⟩:=bindb d
   replace d:=someb d
   subst d
   cases l with
   | false=>
    have p:=someb (ifF i rfl)
    subst p
    exact AWP.rgT [(1,.len Za a),(3,.bool b),(5,.call Tryz.func93 [] (Zii a g k)),(6,.len Za g),(8,.len Za a),(11,.bool c)]
   | true=>
    have f:=ifT i rfl
    obtain⟨q,s,f⟩:=bindb f
    replace f:=someb f
    subst f
    exact AWP.rgT [(1,.len Za a),(3,.bool b),(5,.call Tryz.func93 [] (Zii a g k)),(6,.len Za g),(8,.len Za a),(11,.bool c),(13,.call Tryz.func94 [] (Zj2 a (0:Int) q s))]
 refine AWP.ret ?_
 have hr:=someb hF
 subst hr
 exact(FnQ.f0 0 (.inr rfl))
def Zno (r:(ZL × Int)):PV→List Blk→Prop:=fun p K=>p=(.tup [(slc 10 Za r.1),(i64 r.2)])∧K=[]
theorem Zil (a:ZL) (r:(ZL × Int)) (hF:Zdv a=some r):ACall Tryz.prog glob 45 [(slc 10 Za a)] [] (Zno r):=by
 refine ACall.body Tryz.func45 rfl (by kernel_rfl) ?_
 unfold Zdv at hF
 refine AWP.seq (AWP.rg0 [] [(0,(slc 10 Za a))] (AWP.seq (AWP.seq ?_)))
 obtain⟨c,d,hF⟩:=bindb hF
 refine AWP.rg0 [(1,.call Tryz.func77 [] (Znn a c d))] [(0,(slc 10 Za a)),(5,(vb c))] ?_
 refine AWP.cif hF (fun f hF=>?_) (fun f hF=>?_)
 ·refine AWP.seq (AWP.rg0 [] [(2,(slc 10 Za a)),(3,(i64 (0:Int)))] (AWP.ret ?_))
  have hr:=someb hF
  subst hr
  exact(FnQ.f0 0 (.inr rfl))
 ·refine AWP.skip (AWP.seq ?_)
  obtain⟨b,g,hF⟩:=bindb hF
  refine AWP.rg0 [(1,.call Tryz.func20 [] (Zjb a b g))] [(2,(slc 10 Za b.1)),(3,(i64 b.2))] (AWP.ret ?_)
  have hr:=someb hF
  subst hr
  exact(FnQ.f0 0 (.inr rfl))
def Zk7 (r:(ZL × Int)):PV→List Blk→Prop:=fun p K=>p=(.tup [(slc 10 Za r.1),(i64 r.2)])∧K=[]
theorem Zhq (f:ZL) (d:ZL) (b:Int) (r:(ZL × Int)) (hF:Zc9 f d b=some r):ACall Tryz.prog glob 21 [(slc 10 Za f),(slc 10 Za d),(i64 b)] [] (Zk7 r):=by
 refine ACall.body Tryz.func21 rfl (by kernel_rfl) ?_
 unfold Zc9 at hF
 refine AWP.seq (AWP.rg0 [] [(0,(slc 10 Za f)),(1,(slc 10 Za d)),(2,(i64 b))] (AWP.seq ?_))
 obtain⟨a,j,hF⟩:=bindb hF
 refine AWP.rg0 [(1,.call Tryz.func45 [] (Zil f a j))] [(1,(slc 10 Za d)),(2,(i64 b)),(8,(slc 10 Za a.1)),(9,(i64 a.2))] (AWP.seq (AWP.seq (AWP.rg0 [] [(1,(slc 10 Za d)),(2,(i64 b)),(8,(slc 10 Za a.1)),(9,(i64 a.2)),(17,(vb (a.2 != (0:Int))))] ?_)))
 refine AWP.cif hF (fun k hF=>?_) (fun k hF=>?_)
 ·refine AWP.seq (AWP.rg0 [] [(6,nils),(7,(i64 a.2))] (AWP.ret ?_))
  have hr:=someb hF
  subst hr
  exact(FnQ.f1 0 (.inr rfl) (.inr ⟨_,_,rfl,rfl,(.cons _ _ _ _ (.nil 10) (.cons _ _ _ _ (.refl _) .nil))⟩))
 ·refine AWP.skip (AWP.seq ?_)
  obtain⟨c,l,hF⟩:=bindb hF
  refine AWP.rg0 [(1,.call Tryz.func45 [] (Zil d c l))] [(2,(i64 b)),(8,(slc 10 Za a.1)),(9,(i64 c.2)),(10,(slc 10 Za c.1))] (AWP.seq (AWP.seq (AWP.rg0 [] [(2,(i64 b)),(8,(slc 10 Za a.1)),(9,(i64 c.2)),(10,(slc 10 Za c.1)),(25,(vb (c.2 != (0:Int))))] ?_)))
  refine AWP.cif hF (fun m hF=>?_) (fun m hF=>?_)
  ·refine AWP.seq (AWP.rg0 [] [(6,nils),(7,(i64 c.2))] (AWP.ret ?_))
   have hr:=someb hF
   subst hr
   exact(FnQ.f1 0 (.inr rfl) (.inr ⟨_,_,rfl,rfl,(.cons _ _ _ _ (.nil 10) (.cons _ _ _ _ (.refl _) .nil))⟩))
  ·refine AWP.skip (AWP.seq ?_)
   obtain⟨i,n,hF⟩:=bindb hF
   obtain⟨g,o,hF⟩:=bindb hF
   refine AWP.rg0 [(3,.call Tryz.func44 [] (Zih a.1 c.1 b (0:Int) i n)),(4,.call Tryz.func43 [] (Zho i g o))] [(6,(slc 10 Za g.1)),(7,(i64 g.2))] (AWP.ret ?_)
   have hr:=someb hF
   subst hr
   exact(FnQ.f0 0 (.inr rfl))
def Znp (r:(ZL × Int)):PV→List Blk→Prop:=fun p K=>p=(.tup [(slc 10 Za r.1),(i64 r.2)])∧K=[]
theorem Znq (a:ZL) (b:ZL) (r:(ZL × Int)) (hF:Zet a b=some r):ACall Tryz.prog glob 7 [(slc 10 Za a),(slc 10 Za b)] [] (Znp r):=by
 refine ACall.body Tryz.func7 rfl (by kernel_rfl) ?_
 unfold Zet at hF
 refine AWP.seq (AWP.rg0 [] [(0,(slc 10 Za a)),(1,(slc 10 Za b))] (AWP.seq ?_))
 obtain⟨c,d,hF⟩:=bindb hF
 refine AWP.rg0 [(2,.call Tryz.func21 [] (Zhq a b (0:Int) c d))] [(4,(slc 10 Za c.1)),(5,(i64 c.2))] (AWP.ret ?_)
 have hr:=someb hF
 subst hr
 exact(FnQ.f0 0 (.inr rfl))
def Zj3 (r:(ZL × Int)):PV→List Blk→Prop:=fun p K=>p=(.tup [(slc 10 Za r.1),(i64 r.2)])∧K=[]
theorem Zj4 (a:ZL) (b:ZL) (r:(ZL × Int)) (hF:Zdi a b=some r):ACall Tryz.prog glob 8 [(slc 10 Za a),(slc 10 Za b)] [] (Zj3 r):=by
 refine ACall.body Tryz.func8 rfl (by kernel_rfl) ?_
 unfold Zdi at hF
 refine AWP.seq (AWP.rg0 [] [(0,(slc 10 Za a)),(1,(slc 10 Za b))] (AWP.seq ?_))
 obtain⟨c,d,hF⟩:=bindb hF
 refine AWP.rg0 [(2,.call Tryz.func21 [] (Zhq a b (1:Int) c d))] [(4,(slc 10 Za c.1)),(5,(i64 c.2))] (AWP.ret ?_)
 have hr:=someb hF
 subst hr
 exact(FnQ.f0 0 (.inr rfl))
def Zlt (r:Bool):PV→List Blk→Prop:=fun p K=>p=(vb r)∧K=[]
abbrev Zq1 (r:Bool):Exit→St→List Blk→Prop:=FnQ Tryz.prog Tryz.f100.results 0 (Zlt r)
theorem Zq2 (a:ZB) (r:Bool) (hF:Zf9 a=some r):ACall Tryz.prog glob 100 [(Za6 a)] [] (Zlt r):=by
 refine ACall.body Tryz.func100 rfl (by kernel_rfl) ?_
 unfold Zf9 at hF
 refine AWP.seq (AWP.rg [] [(1,(.ptr 0 0))] [.cells (Za a)] (AWP.seq (AWP.seq (AWP.rg0 [] [(5,(Za6 a)),(6,(i64 (0:Int)))] ?_))))
 obtain⟨f,k,hF⟩:=bindb hF
 refine AWP.mid (fun e st H=>(e=.normal∧f=(.inl ())∧st=[]∧H=[.cells (Za a)])∨(e=.ret∧∃ r,f=(.inr r)∧Zq1 r e st H)) ?_ ?_
 ·clear hF
  refine AWP.kp [5,6] 1 ?_
  refine AWP.bround (fun n st H=>∃ b,Zaf a n b=some f∧st=[(5,(Za6 a)),(6,(i64 b))]∧H=[.cells (Za a)]) fuel ⟨(0:Int),k,by kernel_rfl,by kernel_rfl⟩ ?_
  rintro g st H ⟨b,hF,rfl,rfl⟩
  cases g with
  | zero=>exact noneb hF
  | succ g=>
   rw [Zaf] at hF
   refine AWP.seq (AWP.rg0 [] [(5,(Za6 a)),(6,(i64 b)),(7,(vb (decide (b<(5:Int)))))] (AWP.seq ?_))
   refine AWP.cif hF (fun l hF=>?_) (fun l hF=>?_)
   ·refine AWP.skip (AWP.seq (AWP.block (AWP.seq ?_)))
    obtain⟨m,hF⟩:=chkb hF
    refine AWP.rg [(1,.ixA Zf (Arr5.get a) m)] [(3,(i64 b)),(4,(.ptr 1 0)),(5,(Za6 a)),(6,(i64 b))] [.cells (Za a),.cells (Zf (Arr5.get a b))] (AWP.seq ?_)
    obtain⟨o,d,hF⟩:=bindb hF
    replace d:=someb d
    obtain⟨p,i,hF⟩:=bindb hF
    refine AWP.to [(5,(Za6 a)),(6,(i64 b)),(22,(vb p))] [.cells (Za a),.cells (Zf (Arr5.get a b))] ?_ ?_
    ·cases o with
     | false=>
      have c:=ifF i rfl
      obtain⟨j,c⟩:=chkb c
      replace c:=someb c
      subst c
      exact AWP.drT [(5,.bool d),(9,.ixd j),(10,.ldA Zht (Arr5.get Zdz) 0 1 0 j)] 13 [] [] []
     | true=>
      have q:=someb (ifT i rfl)
      subst q
      exact AWP.drT [(5,.bool d)] 13 [] [] []
    refine AWP.cif hF (fun s hF=>?_) (fun s hF=>?_)
    ·refine AWP.seq (AWP.rg0 [] [(2,(vb false))] (AWP.ret ?_))
     exact LeQ.of (.inr ⟨rfl,false,(someb hF).symm,(FnQ.f0 0 (.inr rfl))⟩)
    ·refine AWP.skip (AWP.rg0 [] [(5,(Za6 a)),(6,(i64 (ZI (b + (1:Int)))))] (LeQ.start (LeQ.pk [5,6] 1 ?_)))
     exact⟨g,Nat.lt_succ_self _,(ZI (b + (1:Int))),hF,by kernel_rfl,by kernel_rfl⟩
   ·refine AWP.exit (LeQ.start (LeQ.pk [] 1 ?_))
    exact(.inl ⟨rfl,(someb hF).symm,by kernel_rfl,by kernel_rfl⟩)
 ·rintro _ _ _ (⟨rfl,rfl,rfl,rfl⟩ | ⟨rfl,t,rfl,hq⟩)
  ·refine AWP.seq (AWP.rg0 [] [(2,(vb true))] (AWP.ret ?_))
   have hr:=someb hF
   subst hr
   exact(FnQ.f0 0 (.inr rfl))
  ·have hr:=someb hF
   subst hr
   exact hq
def Zj5 (r:Bool):PV→List Blk→Prop:=fun p K=>p=(vb r)∧K=[]
theorem Zei (a:ZB) (r:Bool) (hF:Zbw a=some r):ACall Tryz.prog glob 99 [(Za6 a)] [] (Zj5 r):=by
 refine ACall.body Tryz.func99 rfl (by kernel_rfl) ?_
 unfold Zbw at hF
 refine AWP.seq (AWP.rg [] [(1,(.ptr 0 0))] [.cells (Za a)] (AWP.seq ?_))
 obtain⟨b,c,hF⟩:=bindb hF
 refine AWP.rg0 [(1,.call Tryz.func100 [] (Zq2 a b c))] [(2,(vb (!b)))] (AWP.ret ?_)
 have hr:=someb hF
 subst hr
 exact(FnQ.f0 0 (.inr rfl))
def Zcq (a:ZL) (b:List Value) (r:Int):PV→List Blk→Prop:=fun p K=>p=(i64 r)∧K=[.cells (cel Za a b)]
abbrev Zeu (a:ZL) (b:List Value) (r:Int):Exit→St→List Blk→Prop:=FnQ Tryz.prog Tryz.f105.results 1 (Zcq a b r)
theorem Zev (a:Nat) (c:ZL) (d:List Value) (r:Int) (hF:Za7 a c=some r):ACall Tryz.prog glob 105 [(.vw 0 0 a),(.sc (.func (.func 99) #[] #[]))] [.cells (cel Za c d)] (Zcq c d r):=by
 refine ACall.body Tryz.func105 rfl (by kernel_rfl) ?_
 unfold Za7 at hF
 refine AWP.seq (AWP.rg0 [] [(0,(.vw 0 0 a)),(1,(.sc (.func (.func 99) #[] #[])))] (AWP.seq (AWP.seq (AWP.rg0 [(1,.lenV a)] [(0,(.vw 0 0 a)),(1,(.sc (.func (.func 99) #[] #[]))),(7,(i64 (a:Int))),(8,(i64 (0:Int)))] ?_))))
 obtain⟨f,k,hF⟩:=bindb hF
 refine AWP.mid (fun e st H=>(e=.normal∧f=(.inl ())∧st=[]∧H=[.cells (cel Za c d)])∨(e=.ret∧∃ r,f=(.inr r)∧Zeu c d r e st H)) ?_ ?_
 ·clear hF
  refine AWP.kp [0,1,7,8] 1 ?_
  refine AWP.bround (fun n st H=>∃ b,Zu a c n b=some f∧st=[(0,(.vw 0 0 a)),(1,(.sc (.func (.func 99) #[] #[]))),(7,(i64 (a:Int))),(8,(i64 b))]∧H=[.cells (cel Za c d)]) fuel ⟨(0:Int),k,by kernel_rfl,by kernel_rfl⟩ ?_
  rintro g st H ⟨b,hF,rfl,rfl⟩
  cases g with
  | zero=>exact noneb hF
  | succ g=>
   rw [Zu] at hF
   refine AWP.seq (AWP.rg0 [] [(0,(.vw 0 0 a)),(1,(.sc (.func (.func 99) #[] #[]))),(7,(i64 (a:Int))),(8,(i64 b)),(9,(vb (decide (b<(a:Int)))))] (AWP.seq ?_))
   refine AWP.cif hF (fun l hF=>?_) (fun l hF=>?_)
   ·refine AWP.skip (AWP.seq (AWP.block (AWP.seq (AWP.rg0 [] [(0,(.vw 0 0 a)),(1,(.sc (.func (.func 99) #[] #[]))),(5,(i64 b)),(7,(i64 (a:Int))),(8,(i64 b))] (AWP.seq ?_)))))
    obtain⟨m,i,hF⟩:=bindb hF
    obtain⟨j,o,hF⟩:=bindb hF
    refine AWP.rg0 [(3,.idxV (Zk i)),(4,.ldV Za (s:=10) (fun _=>rfl) d (Zi i) (0 + Int.toNat b * 10) (Nat.zero_add _) []),(5,.call Tryz.func99 [] (Zei m j o))] [(0,(.vw 0 0 a)),(1,(.sc (.func (.func 99) #[] #[]))),(5,(i64 b)),(7,(i64 (a:Int))),(8,(i64 b)),(16,(vb j))] ?_
    refine AWP.cif hF (fun p hF=>?_) (fun p hF=>?_)
    ·refine AWP.seq (AWP.rg0 [] [(4,(i64 b))] (AWP.ret ?_))
     exact LeQ.of (.inr ⟨rfl,b,(someb hF).symm,(FnQ.f0 1 (.inr rfl))⟩)
    ·refine AWP.skip (AWP.rg0 [] [(0,(.vw 0 0 a)),(1,(.sc (.func (.func 99) #[] #[]))),(7,(i64 (a:Int))),(8,(i64 (ZI (b + (1:Int)))))] (LeQ.start (LeQ.pk [0,1,7,8] 1 ?_)))
     exact⟨g,Nat.lt_succ_self _,(ZI (b + (1:Int))),hF,by kernel_rfl,by kernel_rfl⟩
   ·refine AWP.exit (LeQ.start (LeQ.pk [] 1 ?_))
    exact(.inl ⟨rfl,(someb hF).symm,by kernel_rfl,by kernel_rfl⟩)
 ·rintro _ _ _ (⟨rfl,rfl,rfl,rfl⟩ | ⟨rfl,q,rfl,hq⟩)
  ·refine AWP.seq (AWP.rg0 [] [(4,(i64 (-1:Int)))] (AWP.ret ?_))
   have hr:=someb hF
   subst hr
   exact(FnQ.f0 1 (.inr rfl))
  ·have hr:=someb hF
   subst hr
   exact hq
def Zeo (a:List Value) (r:(Nat × ZL)):PV→List Blk→Prop:=fun p K=>p=(.vw 0 0 r.1)∧K=[.cells (cel Za r.2 a)]
theorem Zep (a:Nat) (k:ZL) (b:List Value) (r:(Nat × ZL)) (hF:Zaj a k=some r):ACall Tryz.prog glob 97 [(.vw 0 0 a),(.sc (.func (.func 99) #[] #[]))] [.cells (cel Za k b)] (Zeo b r):=by
 refine ACall.body Tryz.func97 rfl (by kernel_rfl) ?_
 unfold Zaj at hF
 refine AWP.seq (AWP.rg0 [] [(0,(.vw 0 0 a)),(1,(.sc (.func (.func 99) #[] #[])))] (AWP.seq ?_))
 obtain⟨i,x,hF⟩:=bindb hF
 refine AWP.rg0 [(2,.callC Tryz.func105 [] (closedH.c (Zn (row:=Za) (fun _=>rfl) k b) closedH.n) (closedH.c (Zn (row:=Za) (fun _=>rfl) k b) closedH.n) (Zev a k b i x))] [(0,(.vw 0 0 a)),(1,(.sc (.func (.func 99) #[] #[]))),(5,(i64 i))] (AWP.seq (AWP.seq (AWP.rg0 [] [(0,(.vw 0 0 a)),(1,(.sc (.func (.func 99) #[] #[]))),(5,(i64 i)),(12,(vb (i == (-1:Int))))] ?_)))
 refine AWP.cif hF (fun y hF=>?_) (fun y hF=>?_)
 ·refine AWP.seq (AWP.rg0 [] [(4,(.vw 0 0 a))] (AWP.ret ?_))
  have hr:=someb hF
  subst hr
  exact(FnQ.f0 1 (.inr rfl))
 ·refine AWP.skip (AWP.seq (AWP.seq (AWP.rg0 [] [(0,(.vw 0 0 a)),(1,(.sc (.func (.func 99) #[] #[]))),(5,(i64 i)),(6,(i64 (ZI (i + (1:Int)))))] ?_)))
  obtain⟨t,z,hF⟩:=bindb hF
  refine AWP.mid (fun e st H=>(e=.normal∧∃ l,∃ g,t=(l,g)∧st=[(0,(.vw 0 0 a)),(5,(i64 g))]∧H=[.cells (cel Za l b)])) ?_ ?_
  ·clear hF
   refine AWP.kp [0,1,5,6] 1 ?_
   refine AWP.bround (fun n st H=>∃ j,∃ d,∃ f,Zs a n j d f=some t∧st=[(0,(.vw 0 0 a)),(1,(.sc (.func (.func 99) #[] #[]))),(5,(i64 d)),(6,(i64 f))]∧H=[.cells (cel Za j b)]) fuel ⟨k,i,(ZI (i + (1:Int))),z,by kernel_rfl,by kernel_rfl⟩ ?_
   rintro q st H ⟨j,d,f,hF,rfl,rfl⟩
   cases q with
   | zero=>exact noneb hF
   | succ q=>
    rw [Zs] at hF
    refine AWP.seq (AWP.seq (AWP.rg0 [(2,.lenV a)] [(0,(.vw 0 0 a)),(1,(.sc (.func (.func 99) #[] #[]))),(5,(i64 d)),(6,(i64 f)),(19,(vb (decide (f<(a:Int)))))] ?_))
    refine AWP.cif hF (fun a0 hF=>?_) (fun a0 hF=>?_)
    ·refine AWP.skip ?_
     obtain⟨a1,a2,hF⟩:=bindb hF
     refine AWP.seq ?_
     refine AWP.mid (fun e st H=>(e=.normal∧∃ p,∃ o,a1=(p,o)∧st=[(0,(.vw 0 0 a)),(1,(.sc (.func (.func 99) #[] #[]))),(5,(i64 o)),(6,(i64 f))]∧H=[.cells (cel Za p b)])) ?_ ?_
     ·clear hF
      have hF:=a2
      refine AWP.block (AWP.seq ?_)
      obtain⟨m,u,hF⟩:=bindb hF
      refine AWP.rg [(2,.idxV (Zk u)),(3,.ldV Za (s:=10) (fun _=>rfl) b (Zi u) (0 + Int.toNat f * 10) (Nat.zero_add _) [])] [(0,(.vw 0 0 a)),(1,(.sc (.func (.func 99) #[] #[]))),(5,(i64 d)),(6,(i64 f)),(7,(.ptr 1 0))] [.cells (cel Za j b),.cells (Za m)] (AWP.seq ?_)
      obtain⟨v,a3,hF⟩:=bindb hF
      refine AWP.rg0 [(2,.call Tryz.func99 [] (Zei m v a3))] [(0,(.vw 0 0 a)),(1,(.sc (.func (.func 99) #[] #[]))),(5,(i64 d)),(6,(i64 f)),(7,(.ptr 1 0)),(29,(vb (!v)))] ?_
      refine AWP.cif hF (fun a4 hF=>?_) (fun a4 hF=>?_)
      ·refine AWP.seq ?_
       obtain⟨a8,w,hF⟩:=bindb hF
       refine AWP.rg [(3,.idxV (Zk w)),(4,.stV Za (s:=10) (fun _=>rfl) b (Zi w) m (0 + Int.toNat d * 10) (Nat.zero_add _) [])] [(0,(.vw 0 0 a)),(1,(.sc (.func (.func 99) #[] #[]))),(5,(i64 d)),(6,(i64 f))] [.cells (cel Za (List.set j (Int.toNat d) m) b),.cells (Za m)] (AWP.rg0 [] [(0,(.vw 0 0 a)),(1,(.sc (.func (.func 99) #[] #[]))),(5,(i64 (ZI (d + (1:Int))))),(6,(i64 f))] (LeQ.start (LeQ.pk [0,1,5,6] 1 ?_)))
       exact⟨rfl,(List.set j (Int.toNat d) m),(ZI (d + (1:Int))),(someb hF).symm,by kernel_rfl,by kernel_rfl⟩
      ·refine AWP.skip (LeQ.start (LeQ.pk [0,1,5,6] 1 ?_))
       exact⟨rfl,j,d,(someb hF).symm,by kernel_rfl,by kernel_rfl⟩
     ·rintro _ _ _ ⟨rfl,p,o,rfl,rfl,rfl⟩
      refine AWP.rg0 [] [(0,(.vw 0 0 a)),(1,(.sc (.func (.func 99) #[] #[]))),(5,(i64 o)),(6,(i64 (ZI (f + (1:Int)))))] (LeQ.start (LeQ.pk [0,1,5,6] 1 ?_))
      exact⟨q,Nat.lt_succ_self _,p,o,(ZI (f + (1:Int))),hF,by kernel_rfl,by kernel_rfl⟩
    ·refine AWP.exit (LeQ.start (LeQ.pk [0,5] 1 ?_))
     exact⟨rfl,j,d,(someb hF).symm,by kernel_rfl,by kernel_rfl⟩
  ·rintro _ _ _ ⟨rfl,l,g,rfl,rfl,rfl⟩
   refine AWP.seq ?_
   obtain⟨a5,hF⟩:=chkb hF
   obtain⟨a6,hF⟩:=chkb hF
   refine AWP.rg [(2,.sliceV a5),(3,.clrV Za (s:=10) (fun _=>rfl) (fun _=>rfl) b l Zo (lo:=Int.toNat g) (n:=(Int.toNat (a:Int) - Int.toNat g)) a6 (0 + Int.toNat g * 10) (Nat.zero_add _))] [(0,(.vw 0 0 a)),(5,(i64 g))] [.cells (cel Za (List.take (Int.toNat g) l++List.replicate (Int.toNat (a:Int) - Int.toNat g) Zo++List.drop (Int.toNat g + (Int.toNat (a:Int) - Int.toNat g)) l) b)] (AWP.seq ?_)
   obtain⟨a7,hF⟩:=chkb hF
   refine AWP.rg0 [(2,.sliceV a7)] [(4,(.vw 0 0 (Int.toNat g)))] (AWP.ret ?_)
   have hr:=someb hF
   subst hr
   exact(FnQ.f0 1 (.inr rfl))
def Zcl (r:Int):PV→List Blk→Prop:=fun p K=>p=(i64 r)∧K=[]
abbrev Zej (r:Int):Exit→St→List Blk→Prop:=FnQ Tryz.prog Tryz.f105.results 0 (Zcl r)
theorem Zek (a:ZL) (r:Int) (hF:Zbn a=some r):ACall Tryz.prog glob 105 [(slc 10 Za a),(.sc (.func (.func 99) #[] #[]))] [] (Zcl r):=by
 refine ACall.body Tryz.func105 rfl (by kernel_rfl) ?_
 unfold Zbn at hF
 refine AWP.seq (AWP.rg0 [] [(0,(slc 10 Za a)),(1,(.sc (.func (.func 99) #[] #[])))] (AWP.seq (AWP.seq (AWP.rg0 [(1,.len Za a)] [(0,(slc 10 Za a)),(1,(.sc (.func (.func 99) #[] #[]))),(7,(i64 (List.length a:Int))),(8,(i64 (0:Int)))] ?_))))
 obtain⟨c,g,hF⟩:=bindb hF
 refine AWP.mid (fun e st H=>(e=.normal∧c=(.inl ())∧st=[]∧H=[])∨(e=.ret∧∃ r,c=(.inr r)∧Zej r e st H)) ?_ ?_
 ·clear hF
  refine AWP.kp [0,1,7,8] 0 ?_
  refine AWP.bround (fun n st H=>∃ b,Zau a n b=some c∧st=[(0,(slc 10 Za a)),(1,(.sc (.func (.func 99) #[] #[]))),(7,(i64 (List.length a:Int))),(8,(i64 b))]∧H=[]) fuel ⟨(0:Int),g,by kernel_rfl,by kernel_rfl⟩ ?_
  rintro d st H ⟨b,hF,rfl,rfl⟩
  cases d with
  | zero=>exact noneb hF
  | succ d=>
   rw [Zau] at hF
   refine AWP.seq (AWP.rg0 [] [(0,(slc 10 Za a)),(1,(.sc (.func (.func 99) #[] #[]))),(7,(i64 (List.length a:Int))),(8,(i64 b)),(9,(vb (decide (b<(List.length a:Int)))))] (AWP.seq ?_))
   refine AWP.cif hF (fun i hF=>?_) (fun i hF=>?_)
   ·refine AWP.skip (AWP.seq (AWP.block (AWP.seq (AWP.rg0 [] [(0,(slc 10 Za a)),(1,(.sc (.func (.func 99) #[] #[]))),(5,(i64 b)),(7,(i64 (List.length a:Int))),(8,(i64 b))] (AWP.seq ?_)))))
    obtain⟨j,k,hF⟩:=bindb hF
    obtain⟨f,l,hF⟩:=bindb hF
    refine AWP.rg0 [(3,.idx Za k),(5,.call Tryz.func99 [] (Zei j f l))] [(0,(slc 10 Za a)),(1,(.sc (.func (.func 99) #[] #[]))),(5,(i64 b)),(7,(i64 (List.length a:Int))),(8,(i64 b)),(16,(vb f))] ?_
    refine AWP.cif hF (fun m hF=>?_) (fun m hF=>?_)
    ·refine AWP.seq (AWP.rg0 [] [(4,(i64 b))] (AWP.ret ?_))
     exact LeQ.of (.inr ⟨rfl,b,(someb hF).symm,(FnQ.f0 0 (.inr rfl))⟩)
    ·refine AWP.skip (AWP.rg0 [] [(0,(slc 10 Za a)),(1,(.sc (.func (.func 99) #[] #[]))),(7,(i64 (List.length a:Int))),(8,(i64 (ZI (b + (1:Int)))))] (LeQ.start (LeQ.pk [0,1,7,8] 0 ?_)))
     exact⟨d,Nat.lt_succ_self _,(ZI (b + (1:Int))),hF,by kernel_rfl,by kernel_rfl⟩
   ·refine AWP.exit (LeQ.start (LeQ.pk [] 0 ?_))
    exact(.inl ⟨rfl,(someb hF).symm,by kernel_rfl,by kernel_rfl⟩)
 ·rintro _ _ _ (⟨rfl,rfl,rfl,rfl⟩ | ⟨rfl,o,rfl,hq⟩)
  ·refine AWP.seq (AWP.rg0 [] [(4,(i64 (-1:Int)))] (AWP.ret ?_))
   have hr:=someb hF
   subst hr
   exact(FnQ.f0 0 (.inr rfl))
  ·have hr:=someb hF
   subst hr
   exact hq
def Zd1 (r:ZL):PV→List Blk→Prop:=fun p K=>p=(slc 10 Za r)∧K=[]
theorem Zd2 (r:ZL) (hF:Zbd=some r):ACall Tryz.prog glob 97 [(slc 10 Za ([]:ZL)),(.sc (.func (.func 99) #[] #[]))] [] (Zd1 r):=by
 refine ACall.body Tryz.func97 rfl (by kernel_rfl) ?_
 unfold Zbd at hF
 refine AWP.seq (AWP.rg0 [] [(0,(slc 10 Za ([]:ZL))),(1,(.sc (.func (.func 99) #[] #[])))] (AWP.seq ?_))
 obtain⟨c,j,hF⟩:=bindb hF
 refine AWP.rg0 [(2,.call Tryz.func105 [] (Zek ([]:ZL) c j))] [(0,(slc 10 Za ([]:ZL))),(1,(.sc (.func (.func 99) #[] #[]))),(5,(i64 c))] (AWP.seq (AWP.seq (AWP.rg0 [] [(0,(slc 10 Za ([]:ZL))),(1,(.sc (.func (.func 99) #[] #[]))),(5,(i64 c)),(12,(vb (c == (-1:Int))))] ?_)))
 refine AWP.cif hF (fun k hF=>?_) (fun k hF=>?_)
 ·refine AWP.seq (AWP.rg0 [] [(4,(slc 10 Za ([]:ZL)))] (AWP.ret ?_))
  have hr:=someb hF
  subst hr
  exact(FnQ.f0 0 (.inr rfl))
 ·refine AWP.skip (AWP.seq (AWP.seq (AWP.rg0 [] [(0,(slc 10 Za ([]:ZL))),(1,(.sc (.func (.func 99) #[] #[]))),(5,(i64 c)),(6,(i64 (ZI (c + (1:Int)))))] ?_)))
  obtain⟨f,l,hF⟩:=bindb hF
  refine AWP.mid (fun e st H=>e=.normal∧st=[(0,(slc 10 Za ([]:ZL))),(5,(i64 f))]∧H=[]) ?_ ?_
  ·clear hF
   refine AWP.kp [0,1,5,6] 0 ?_
   refine AWP.bround (fun n st H=>∃ b,∃ a,Zak n b a=some f∧st=[(0,(slc 10 Za ([]:ZL))),(1,(.sc (.func (.func 99) #[] #[]))),(5,(i64 b)),(6,(i64 a))]∧H=[]) fuel ⟨c,(ZI (c + (1:Int))),l,by kernel_rfl,by kernel_rfl⟩ ?_
   rintro d st H ⟨b,a,hF,rfl,rfl⟩
   cases d with
   | zero=>exact noneb hF
   | succ d=>
    rw [Zak] at hF
    refine AWP.seq (AWP.seq (AWP.rg0 [(2,.len Za ([]:ZL))] [(0,(slc 10 Za ([]:ZL))),(1,(.sc (.func (.func 99) #[] #[]))),(5,(i64 b)),(6,(i64 a)),(19,(vb (decide (a<(List.length ([]:ZL):Int)))))] ?_))
    refine AWP.cif hF (fun m hF=>?_) (fun m hF=>?_)
    ·refine AWP.skip ?_
     obtain⟨o,p,hF⟩:=bindb hF
     refine AWP.seq ?_
     refine AWP.mid (fun e st H=>(e=.normal∧o=()∧st=[(0,(slc 10 Za ([]:ZL))),(1,(.sc (.func (.func 99) #[] #[]))),(5,(i64 b)),(6,(i64 a))]∧H=[])) ?_ ?_
     ·clear hF
      have hF:=p
      refine AWP.block (AWP.seq ?_)
      obtain⟨g,q,hF⟩:=bindb hF
      refine AWP.rg [(2,.idx Za q)] [(0,(slc 10 Za ([]:ZL))),(1,(.sc (.func (.func 99) #[] #[]))),(5,(i64 b)),(6,(i64 a)),(7,(.ptr 0 0))] [.cells (Za g)] (AWP.seq ?_)
      obtain⟨i,s,hF⟩:=bindb hF
      refine AWP.rg0 [(2,.call Tryz.func99 [] (Zei g i s))] [(0,(slc 10 Za ([]:ZL))),(1,(.sc (.func (.func 99) #[] #[]))),(5,(i64 b)),(6,(i64 a)),(7,(.ptr 0 0)),(29,(vb (!i)))] ?_
      refine AWP.cif hF (fun t hF=>?_) (fun t hF=>?_)
      ·refine AWP.seq ?_
       exact noneb hF
      ·refine AWP.skip (LeQ.start (LeQ.pk [0,1,5,6] 0 ?_))
       exact⟨rfl,(someb hF).symm,by kernel_rfl,by kernel_rfl⟩
     ·rintro _ _ _ ⟨rfl,rfl,rfl,rfl⟩
      refine AWP.rg0 [] [(0,(slc 10 Za ([]:ZL))),(1,(.sc (.func (.func 99) #[] #[]))),(5,(i64 b)),(6,(i64 (ZI (a + (1:Int)))))] (LeQ.start (LeQ.pk [0,1,5,6] 0 ?_))
      exact⟨d,Nat.lt_succ_self _,b,(ZI (a + (1:Int))),hF,by kernel_rfl,by kernel_rfl⟩
    ·refine AWP.exit (LeQ.start (LeQ.pk [0,5] 0 ?_))
     have hr:=someb hF
     subst hr
     exact⟨rfl,by kernel_rfl,by kernel_rfl⟩
  ·rintro _ _ _ ⟨rfl,rfl,rfl⟩
   refine AWP.seq ?_
   exact noneb hF
def Zk8 (r:ZL):PV→List Blk→Prop:=fun p K=>p=(slc 10 Za r)∧K=[]
theorem Zf4 (a:ZL) (r:ZL) (hF:Zda a=some r):ACall Tryz.prog glob 85 [(slc 10 Za a)] [] (Zk8 r):=by
 refine ACall.body Tryz.func85 rfl (by kernel_rfl) ?_
 unfold Zda at hF
 refine AWP.seq (AWP.rg0 [] [(0,(slc 10 Za a))] (AWP.seq ?_))
 obtain⟨c,hF⟩:=chkb hF
 obtain⟨b,d,hF⟩:=bindb hF
 refine AWP.rg [(1,.clone Tryz.func98 Za (fun _=>by kernel_rfl) c),(2,.callBE (s:=10) Za Tryz.func97 (fun _=>rfl) d (fun h sp_=>Zep (List.length a) a sp_ _ h) (fun h=>Zd2 _ h))] [(2,(slc 10 Za (List.take b.1 b.2)))] [bf 10 59 Za b.2 true] (AWP.ret ?_)
 have hr:=someb hF
 subst hr
 exact(FnQ.f0 0 (.inr rfl))
def Zk9 (r:ZL):PV→List Blk→Prop:=fun p K=>p=(slc 10 Za r)∧K=[]
theorem Zla (c:Int) (b:ZL) (r:ZL) (hF:Zd5 c b=some r):ACall Tryz.prog glob 101 [(i64 c),(slc 10 Za b)] [] (Zk9 r):=by
 refine ACall.body Tryz.func101 rfl (by kernel_rfl) ?_
 unfold Zd5 at hF
 refine AWP.seq (AWP.rg0 [] [(0,(i64 c)),(1,(slc 10 Za b))] (AWP.seq ?_))
 obtain⟨v,hF⟩:=chkb hF
 refine AWP.rg [(1,.clone Tryz.func98 Za (fun _=>by kernel_rfl) v)] [(0,(i64 c)),(5,(.own 0 (List.length b)))] [bf 10 59 Za b false] (AWP.seq (AWP.seq (AWP.rg0 [(1,.len Za b)] [(0,(i64 c)),(5,(.own 0 (List.length b))),(11,(i64 (List.length b:Int))),(12,(i64 (0:Int)))] ?_)))
 obtain⟨j,w,hF⟩:=bindb hF
 refine AWP.mid (fun e st H=>e=.normal∧st=[(5,(.own 0 (List.length j)))]∧H=[bf 10 59 Za j false]) ?_ ?_
 ·clear hF
  refine AWP.kp [0,5,11,12] 1 ?_
  refine AWP.bround (fun n st H=>∃ g,∃ a,Zb5 c b n g a=some j∧st=[(0,(i64 c)),(5,(.own 0 (List.length g))),(11,(i64 (List.length b:Int))),(12,(i64 a))]∧H=[bf 10 59 Za g false]) fuel ⟨b,(0:Int),w,by kernel_rfl,by kernel_rfl⟩ ?_
  rintro o st H ⟨g,a,hF,rfl,rfl⟩
  cases o with
  | zero=>exact noneb hF
  | succ o=>
   rw [Zb5] at hF
   refine AWP.seq (AWP.rg0 [] [(0,(i64 c)),(5,(.own 0 (List.length g))),(11,(i64 (List.length b:Int))),(12,(i64 a)),(13,(vb (decide (a<(List.length b:Int)))))] (AWP.seq ?_))
   refine AWP.cif hF (fun x hF=>?_) (fun x hF=>?_)
   ·refine AWP.skip (AWP.seq (AWP.block (AWP.seq (AWP.rg0 [] [(0,(i64 c)),(5,(.own 0 (List.length g))),(6,(i64 a)),(11,(i64 (List.length b:Int))),(12,(i64 a))] (AWP.seq (AWP.rg0 [] [(0,(i64 c)),(5,(.own 0 (List.length g))),(6,(i64 a)),(7,(i64 (0:Int))),(11,(i64 (List.length b:Int))),(12,(i64 a))] ?_))))))
    obtain⟨k,y,hF⟩:=bindb hF
    refine AWP.mid (fun e st H=>e=.normal∧st=[(0,(i64 c)),(5,(.own 0 (List.length k))),(11,(i64 (List.length b:Int))),(12,(i64 a))]∧H=[bf 10 59 Za k false]) ?_ ?_
    ·clear hF
     refine AWP.kp [0,5,6,7,11,12] 1 ?_
     refine AWP.bround (fun n st H=>∃ f,∃ d,Za9 c a n f d=some k∧st=[(0,(i64 c)),(5,(.own 0 (List.length f))),(6,(i64 a)),(7,(i64 d)),(11,(i64 (List.length b:Int))),(12,(i64 a))]∧H=[bf 10 59 Za f false]) fuel ⟨g,(0:Int),y,by kernel_rfl,by kernel_rfl⟩ ?_
     rintro p st H ⟨f,d,hF,rfl,rfl⟩
     cases p with
     | zero=>exact noneb hF
     | succ p=>
      rw [Za9] at hF
      refine AWP.seq (AWP.seq (AWP.rg0 [] [(0,(i64 c)),(5,(.own 0 (List.length f))),(6,(i64 a)),(7,(i64 d)),(11,(i64 (List.length b:Int))),(12,(i64 a)),(17,(vb (decide (d≤c))))] ?_))
      refine AWP.cif hF (fun z hF=>?_) (fun z hF=>?_)
      ·refine AWP.skip (AWP.seq (AWP.block ?_))
       obtain⟨m,q,hF⟩:=bindb hF
       obtain⟨u,hF⟩:=chkb hF
       refine AWP.rg [(4,.idx Za q),(5,.ixE Za f a u),(6,.stEd Za q (fun a0=>(Arr5.set m a0 (Zb.mk (0:Int) (0:Int)))) 0 2 0 u)] [(0,(i64 c)),(5,(.own 0 (List.length f))),(6,(i64 a)),(7,(i64 d)),(11,(i64 (List.length b:Int))),(12,(i64 a))] [bf 10 59 Za (List.set f (Int.toNat a) (Arr5.set m d (Zb.mk (0:Int) (0:Int)))) false] ?_
       rw [show ([(0,(i64 c)),(5,(.own 0 (List.length f))),(6,(i64 a)),(7,(i64 d)),(11,(i64 (List.length b:Int))),(12,(i64 a))]:St)=[(0,(i64 c)),(5,(.own 0 (List.length (List.set f (Int.toNat a) (Arr5.set m d (Zb.mk (0:Int) (0:Int))))))),(6,(i64 a)),(7,(i64 d)),(11,(i64 (List.length b:Int))),(12,(i64 a))] by simp only [List.length_set]]
       refine AWP.rg0 [] [(0,(i64 c)),(5,(.own 0 (List.length (List.set f (Int.toNat a) (Arr5.set m d (Zb.mk (0:Int) (0:Int))))))),(6,(i64 a)),(7,(i64 (ZI (d + (1:Int))))),(11,(i64 (List.length b:Int))),(12,(i64 a))] (LeQ.start (LeQ.pk [0,5,6,7,11,12] 1 ?_))
       exact⟨p,Nat.lt_succ_self _,(List.set f (Int.toNat a) (Arr5.set m d (Zb.mk (0:Int) (0:Int)))),(ZI (d + (1:Int))),hF,by kernel_rfl,by kernel_rfl⟩
      ·refine AWP.exit (LeQ.start (LeQ.pk [0,5,11,12] 1 ?_))
       have hr:=someb hF
       subst hr
       exact⟨rfl,by kernel_rfl,by kernel_rfl⟩
    ·rintro _ _ _ ⟨rfl,rfl,rfl⟩
     refine AWP.rg0 [] [(0,(i64 c)),(5,(.own 0 (List.length k))),(11,(i64 (List.length b:Int))),(12,(i64 (ZI (a + (1:Int)))))] (LeQ.start (LeQ.pk [0,5,11,12] 1 ?_))
     exact⟨o,Nat.lt_succ_self _,k,(ZI (a + (1:Int))),hF,by kernel_rfl,by kernel_rfl⟩
   ·refine AWP.exit (LeQ.start (LeQ.pk [5] 1 ?_))
    have hr:=someb hF
    subst hr
    exact⟨rfl,by kernel_rfl,by kernel_rfl⟩
 ·rintro _ _ _ ⟨rfl,rfl,rfl⟩
  refine AWP.seq (AWP.rg0 [] [(4,(.own 0 (List.length j)))] (AWP.ret ?_))
  have hr:=someb hF
  subst hr
  exact(FnQ.f1 0 (.inr rfl) (.inl (Wk.ownT (i:=0) (s:=10) (t:=59) (l:=j) (sh:=false) (row:=Za) (by kernel_rfl) (.inl rfl))))
def Zew (r:Bool):PV→List Blk→Prop:=fun p K=>p=(vb r)∧K=[]
abbrev Zgv (r:Bool):Exit→St→List Blk→Prop:=FnQ Tryz.prog Tryz.f102.results 0 (Zew r)
theorem Zex (a:ZL) (b:ZL) (r:Bool) (hF:Za1 a b=some r):ACall Tryz.prog glob 102 [(slc 10 Za a),(slc 10 Za b)] [] (Zew r):=by
 refine ACall.body Tryz.func102 rfl (by kernel_rfl) ?_
 unfold Za1 at hF
 refine AWP.seq (AWP.rg0 [] [(0,(slc 10 Za a)),(1,(slc 10 Za b))] (AWP.seq (AWP.seq (AWP.rg0 [(1,.len Za a),(3,.len Za b)] [(0,(slc 10 Za a)),(1,(slc 10 Za b)),(10,(vb ((List.length a:Int) != (List.length b:Int))))] ?_))))
 refine AWP.cif hF (fun g hF=>?_) (fun g hF=>?_)
 ·refine AWP.seq (AWP.rg0 [] [(4,(vb false))] (AWP.ret ?_))
  have hr:=someb hF
  subst hr
  exact(FnQ.f0 0 (.inr rfl))
 ·refine AWP.skip (AWP.seq (AWP.seq (AWP.rg0 [(1,.len Za a)] [(0,(slc 10 Za a)),(1,(slc 10 Za b)),(12,(i64 (List.length a:Int))),(13,(i64 (0:Int)))] ?_)))
  obtain⟨d,i,hF⟩:=bindb hF
  refine AWP.mid (fun e st H=>(e=.normal∧d=(.inl ())∧st=[]∧H=[])∨(e=.ret∧∃ r,d=(.inr r)∧Zgv r e st H)) ?_ ?_
  ·clear hF
   refine AWP.kp [0,1,12,13] 0 ?_
   refine AWP.bround (fun n st H=>∃ c,Zap a b n c=some d∧st=[(0,(slc 10 Za a)),(1,(slc 10 Za b)),(12,(i64 (List.length a:Int))),(13,(i64 c))]∧H=[]) fuel ⟨(0:Int),i,by kernel_rfl,by kernel_rfl⟩ ?_
   rintro f st H ⟨c,hF,rfl,rfl⟩
   cases f with
   | zero=>exact noneb hF
   | succ f=>
    rw [Zap] at hF
    refine AWP.seq (AWP.rg0 [] [(0,(slc 10 Za a)),(1,(slc 10 Za b)),(12,(i64 (List.length a:Int))),(13,(i64 c)),(14,(vb (decide (c<(List.length a:Int)))))] (AWP.seq ?_))
    refine AWP.cif hF (fun j hF=>?_) (fun j hF=>?_)
    ·refine AWP.skip (AWP.seq (AWP.block (AWP.seq (AWP.rg0 [] [(0,(slc 10 Za a)),(1,(slc 10 Za b)),(5,(i64 c)),(12,(i64 (List.length a:Int))),(13,(i64 c))] (AWP.seq ?_)))))
     obtain⟨k,l,hF⟩:=bindb hF
     obtain⟨m,o,hF⟩:=bindb hF
     refine AWP.dr [(2,.idx Za l),(6,.idx Za o)] 9 [] [] [] [(0,(slc 10 Za a)),(1,(slc 10 Za b)),(12,(i64 (List.length a:Int))),(13,(i64 c)),(24,(vb (!(Zdq k m))))] [] ?_
     refine AWP.cif hF (fun p hF=>?_) (fun p hF=>?_)
     ·refine AWP.seq (AWP.rg0 [] [(4,(vb false))] (AWP.ret ?_))
      exact LeQ.of (.inr ⟨rfl,false,(someb hF).symm,(FnQ.f0 0 (.inr rfl))⟩)
     ·refine AWP.skip (AWP.rg0 [] [(0,(slc 10 Za a)),(1,(slc 10 Za b)),(12,(i64 (List.length a:Int))),(13,(i64 (ZI (c + (1:Int)))))] (LeQ.start (LeQ.pk [0,1,12,13] 0 ?_)))
      exact⟨f,Nat.lt_succ_self _,(ZI (c + (1:Int))),hF,by kernel_rfl,by kernel_rfl⟩
    ·refine AWP.exit (LeQ.start (LeQ.pk [] 0 ?_))
     exact(.inl ⟨rfl,(someb hF).symm,by kernel_rfl,by kernel_rfl⟩)
  ·rintro _ _ _ (⟨rfl,rfl,rfl,rfl⟩ | ⟨rfl,q,rfl,hq⟩)
   ·refine AWP.seq (AWP.rg0 [] [(4,(vb true))] (AWP.ret ?_))
    have hr:=someb hF
    subst hr
    exact(FnQ.f0 0 (.inr rfl))
   ·have hr:=someb hF
    subst hr
    exact hq
def Zfh (r:Bool):PV→List Blk→Prop:=fun p K=>p=(vb r)∧K=[]
abbrev Zg9 (r:Bool):Exit→St→List Blk→Prop:=FnQ Tryz.prog Tryz.f86.results 0 (Zfh r)
theorem Zjd:∀(nr:Nat) (a:Int) (g:ZL) (r:Bool) (hF:Za5 nr a g=some r),ACall Tryz.prog glob 86 [(i64 a),(slc 10 Za g)] [] (Zfh r):=by
 intro nr
 induction nr with
 | zero=>intro a g r hF; exact noneb (by rw [Za5] at hF; exact hF)
 | succ nr ih=>
  intro a g r hF
  refine ACall.body Tryz.func86 rfl (by kernel_rfl) ?_
  rw [Za5] at hF
  refine AWP.seq (AWP.rg0 [] [(0,(i64 a)),(1,(slc 10 Za g))] (AWP.seq (AWP.seq (AWP.rg0 [] [(0,(i64 a)),(1,(slc 10 Za g)),(9,(vb (a == (5:Int))))] ?_))))
  refine AWP.cif hF (fun a4 hF=>?_) (fun a4 hF=>?_)
  ·refine AWP.seq (AWP.rg0 [(1,.len Za g)] [(4,(vb (decide ((List.length g:Int)≤(1:Int)))))] (AWP.ret ?_))
   have hr:=someb hF
   subst hr
   exact(FnQ.f0 0 (.inr rfl))
  ·refine AWP.skip (AWP.seq (AWP.rg [] [(0,(i64 a)),(1,(slc 10 Za g)),(5,(.ptr 0 0))] [.cells (Zg Zd3)] (AWP.seq ?_)))
   obtain⟨s,a5,hF⟩:=bindb hF
   refine AWP.mid (fun e st H=>(e=.normal∧∃ t,s=(.inl t)∧st=[]∧H=[.cells (Zg t)])∨(e=.ret∧∃ r,s=(.inr r)∧Zg9 r e st H)) ?_ ?_
   ·clear hF
    refine AWP.kp [0,1,5] 1 ?_
    refine AWP.bround (fun n st H=>∃ c,∃ b,Zbj a (Za5 nr) n c b=some s∧st=[(0,(i64 a)),(1,(slc 10 Za b)),(5,(.ptr 0 0))]∧H=[.cells (Zg c)]) fuel ⟨Zd3,g,a5,by kernel_rfl,by kernel_rfl⟩ ?_
    rintro u st H ⟨c,b,hF,rfl,rfl⟩
    cases u with
    | zero=>exact noneb hF
    | succ u=>
     rw [Zbj] at hF
     refine AWP.seq (AWP.seq (AWP.rg0 [(1,.len Za b)] [(0,(i64 a)),(1,(slc 10 Za b)),(5,(.ptr 0 0)),(15,(vb (decide ((List.length b:Int) > (0:Int)))))] ?_))
     refine AWP.cif hF (fun a6 hF=>?_) (fun a6 hF=>?_)
     ·refine AWP.skip (AWP.block (AWP.seq (AWP.rg0 [] [(0,(i64 a)),(1,(slc 10 Za b)),(5,(.ptr 0 0)),(6,(i64 (1:Int)))] (AWP.seq ?_))))
      obtain⟨d,a7,hF⟩:=bindb hF
      refine AWP.mid (fun e st H=>e=.normal∧st=[(0,(i64 a)),(1,(slc 10 Za b)),(5,(.ptr 0 0)),(6,(i64 d))]∧H=[.cells (Zg c)]) ?_ ?_
      ·clear hF
       refine AWP.kp [0,1,5,6] 1 ?_
       refine AWP.bround (fun n st H=>∃ l,Zbv a b n l=some d∧st=[(0,(i64 a)),(1,(slc 10 Za b)),(5,(.ptr 0 0)),(6,(i64 l))]∧H=[.cells (Zg c)]) fuel ⟨(1:Int),a7,by kernel_rfl,by kernel_rfl⟩ ?_
       rintro v st H ⟨l,hF,rfl,rfl⟩
       cases v with
       | zero=>exact noneb hF
       | succ v=>
        rw [Zbv] at hF
        refine AWP.seq (AWP.seq ?_)
        obtain⟨a8,p,hF⟩:=bindb hF
        replace p:=someb p
        obtain⟨a9,w,hF⟩:=bindb hF
        refine AWP.to [(0,(i64 a)),(1,(slc 10 Za b)),(5,(.ptr 0 0)),(6,(i64 l)),(33,(vb a9))] [.cells (Zg c)] ?_ ?_
        ·cases a8 with
         | false=>
          have b0:=someb (ifF w rfl)
          subst b0
          exact AWP.drT [(2,.len Za b),(4,.bool p)] 18 [] [] []
         | true=>
          have f:=ifT w rfl
          obtain⟨b1,b2,f⟩:=bindb f
          obtain⟨x,f⟩:=chkb f
          obtain⟨b3,b4,f⟩:=bindb f
          obtain⟨y,f⟩:=chkb f
          replace f:=someb f
          subst f
          exact AWP.drT [(2,.len Za b),(4,.bool p),(8,.idx Za b2),(9,.ixd x),(10,.ldA Zf (Arr5.get b1) 0 2 0 x),(13,.idx Za b4),(14,.ixd y),(15,.ldA Zf (Arr5.get b3) 0 2 0 y)] 18 [] [] []
        refine AWP.cif hF (fun b5 hF=>?_) (fun b5 hF=>?_)
        ·refine AWP.skip (AWP.block (AWP.rg0 [] [(0,(i64 a)),(1,(slc 10 Za b)),(5,(.ptr 0 0)),(6,(i64 (ZI (l + (1:Int)))))] (LeQ.start (LeQ.pk [0,1,5,6] 1 ?_))))
         exact⟨v,Nat.lt_succ_self _,(ZI (l + (1:Int))),hF,by kernel_rfl,by kernel_rfl⟩
        ·refine AWP.exit (LeQ.start (LeQ.pk [0,1,5,6] 1 ?_))
         have hr:=someb hF
         subst hr
         exact⟨rfl,by kernel_rfl,by kernel_rfl⟩
      ·rintro _ _ _ ⟨rfl,rfl,rfl⟩
       refine AWP.seq ?_
       obtain⟨j,b6,hF⟩:=bindb hF
       obtain⟨z,hF⟩:=chkb hF
       obtain⟨b7,hF⟩:=chkb hF
       obtain⟨i,b8,hF⟩:=bindb hF
       refine AWP.dr [(2,.idx Za b6),(3,.ixd z),(4,.ldA Zf (Arr5.get j) 0 2 0 z),(8,.slice Za b b7),(9,.call Tryz.func101 [] (Zla a (List.drop (Int.toNat (0:Int)) (List.take (Int.toNat d) b)) i b8))] 12 [] [11] [] [(0,(i64 a)),(1,(slc 10 Za b)),(5,(.ptr 0 0)),(6,(i64 d)),(7,(.ptr 1 0))] [.cells (Zg c),.cells (Zg (Zh.mk (Arr5.get j a) i))] (AWP.seq (AWP.seq ?_))
       obtain⟨b9,hF⟩:=chkb hF
       obtain⟨a0,c0,hF⟩:=bindb hF
       refine AWP.rg0 [(4,.slice Za b b9),(5,.call Tryz.func86 [] (ih (ZI (a + (1:Int))) (List.drop (Int.toNat (0:Int)) (List.take (Int.toNat d) b)) a0 c0))] [(0,(i64 a)),(1,(slc 10 Za b)),(5,(.ptr 0 0)),(6,(i64 d)),(7,(.ptr 1 0)),(53,(vb (!a0)))] ?_
       refine AWP.cif hF (fun c1 hF=>?_) (fun c1 hF=>?_)
       ·refine AWP.seq (AWP.rg0 [] [(4,(vb false))] (AWP.ret ?_))
        exact LeQ.of (.inr ⟨rfl,false,(someb hF).symm,(FnQ.f0 0 (.inr rfl))⟩)
       ·refine AWP.skip ?_
        obtain⟨a1,c2,hF⟩:=bindb hF
        refine AWP.seq ?_
        refine AWP.mid (fun e st H=>(e=.normal∧a1=(.inl ())∧st=[(0,(i64 a)),(1,(slc 10 Za b)),(5,(.ptr 0 0)),(6,(i64 d)),(7,(.ptr 1 0))]∧H=[.cells (Zg c),.cells (Zg (Zh.mk (Arr5.get j a) i))])∨(e=.ret∧∃ r,a1=(.inr r)∧Zg9 r e st H)) ?_ ?_
        ·clear hF
         have hF:=c2
         refine AWP.seq (AWP.rg0 [(2,.len Za c.f_rest)] [(0,(i64 a)),(1,(slc 10 Za b)),(5,(.ptr 0 0)),(6,(i64 d)),(7,(.ptr 1 0)),(57,(vb (decide ((List.length c.f_rest:Int) > (0:Int)))))] ?_)
         refine AWP.cif hF (fun c3 hF=>?_) (fun c3 hF=>?_)
         ·refine AWP.seq ?_
          obtain⟨c4,m,hF⟩:=bindb hF
          replace m:=someb m
          obtain⟨c5,a2,hF⟩:=bindb hF
          refine AWP.to [(0,(i64 a)),(1,(slc 10 Za b)),(5,(.ptr 0 0)),(6,(i64 d)),(7,(.ptr 1 0)),(81,(vb c5))] [.cells (Zg c),.cells (Zg (Zh.mk (Arr5.get j a) i))] ?_ ?_
          ·cases c4 with
           | false=>
            have k:=ifF a2 rfl
            obtain⟨c6,q,k⟩:=bindb k
            replace q:=someb q
            obtain⟨d4,a3,k⟩:=bindb k
            replace k:=someb k
            subst k
            cases c6 with
            | false=>
             have c7:=someb (ifF a3 rfl)
             subst c7
             exact AWP.rgT [(7,.bool m),(16,.bool q)]
            | true=>
             have o:=ifT a3 rfl
             obtain⟨c8,c9,o⟩:=bindb o
             replace o:=someb o
             subst o
             exact AWP.rgT [(7,.bool m),(16,.bool q),(21,.call Tryz.func102 [] (Zex i c.f_rest c8 c9))]
           | true=>
            have d0:=someb (ifT a2 rfl)
            subst d0
            exact AWP.rgT [(7,.bool m)]
          refine AWP.cif hF (fun d1 hF=>?_) (fun d1 hF=>?_)
          ·refine AWP.seq (AWP.rg0 [] [(4,(vb false))] (AWP.ret ?_))
           exact LeQ.of (.inr ⟨rfl,false,(someb hF).symm,(FnQ.f0 0 (.inr rfl))⟩)
          ·refine AWP.skip (LeQ.start (LeQ.pk [0,1,5,6,7] 2 ?_))
           exact(.inl ⟨rfl,(someb hF).symm,by kernel_rfl,by kernel_rfl⟩)
         ·refine AWP.skip (LeQ.start (LeQ.pk [0,1,5,6,7] 2 ?_))
          exact(.inl ⟨rfl,(someb hF).symm,by kernel_rfl,by kernel_rfl⟩)
        ·rintro _ _ _ (⟨rfl,rfl,rfl,rfl⟩ | ⟨rfl,d2,rfl,hq⟩)
         ·obtain⟨d3,hF⟩:=chkb hF
          refine AWP.dr [(3,.slice Za b d3)] 5 [] [4] [] [(0,(i64 a)),(1,(slc 10 Za (List.drop (Int.toNat d) (List.take (Int.toNat (List.length b:Int)) b)))),(5,(.ptr 0 0))] [.cells (Zg (Zh.mk (Arr5.get j a) i)),.cells (Zg (Zh.mk (Arr5.get j a) i))] (LeQ.start (LeQ.pk [0,1,5] 1 ?_))
          exact⟨u,Nat.lt_succ_self _,(Zh.mk (Arr5.get j a) i),(List.drop (Int.toNat d) (List.take (Int.toNat (List.length b:Int)) b)),hF,by kernel_rfl,by kernel_rfl⟩
         ·exact LeQ.of (.inr ⟨rfl,d2,(someb hF).symm,hq⟩)
     ·refine AWP.exit (LeQ.start (LeQ.pk [] 1 ?_))
      exact(.inl ⟨rfl,c,(someb hF).symm,by kernel_rfl,by kernel_rfl⟩)
   ·rintro _ _ _ (⟨rfl,t,rfl,rfl,rfl⟩ | ⟨rfl,d5,rfl,hq⟩)
    ·refine AWP.seq (AWP.rg0 [] [(4,(vb true))] (AWP.ret ?_))
     have hr:=someb hF
     subst hr
     exact(FnQ.f0 0 (.inr rfl))
    ·have hr:=someb hF
     subst hr
     exact hq
theorem Zj6 (a:Int) (b:ZL) (r:Bool) (hF:Za5 fuel a b=some r):ACall Tryz.prog glob 86 [(i64 a),(slc 10 Za b)] [] (Zfh r):=Zjd fuel a b r hF
def Zlb (r:Bool):PV→List Blk→Prop:=fun p K=>p=(vb r)∧K=[]
theorem Zlc (a:ZL) (r:Bool) (hF:Zdb a=some r):ACall Tryz.prog glob 54 [(slc 10 Za a)] [] (Zlb r):=by
 refine ACall.body Tryz.func54 rfl (by kernel_rfl) ?_
 unfold Zdb at hF
 refine AWP.seq (AWP.rg0 [] [(0,(slc 10 Za a))] (AWP.seq ?_))
 obtain⟨b1,b,hF⟩:=bindb hF
 replace b:=someb b
 obtain⟨t,j,hF⟩:=bindb hF
 obtain⟨l,c,hF⟩:=bindb hF
 replace c:=someb c
 obtain⟨m,i,hF⟩:=bindb hF
 refine AWP.to [(2,(vb m))] [] ?_ ?_
 ·cases b1 with
  | false=>
   have n:=someb (ifF j rfl)
   subst n
   subst c
   have o:=someb (ifF i rfl)
   subst o
   exact AWP.rgT [(1,.len Za a),(3,.bool b)]
  | true=>
   have d:=ifT j rfl
   obtain⟨g,k,d⟩:=bindb d
   replace d:=someb d
   subst d
   cases l with
   | false=>
    have p:=someb (ifF i rfl)
    subst p
    exact AWP.rgT [(1,.len Za a),(3,.bool b),(5,.call Tryz.func85 [] (Zf4 a g k)),(6,.len Za g),(8,.len Za a),(11,.bool c)]
   | true=>
    have f:=ifT i rfl
    obtain⟨q,s,f⟩:=bindb f
    replace f:=someb f
    subst f
    exact AWP.rgT [(1,.len Za a),(3,.bool b),(5,.call Tryz.func85 [] (Zf4 a g k)),(6,.len Za g),(8,.len Za a),(11,.bool c),(13,.call Tryz.func86 [] (Zj6 (0:Int) a q s))]
 refine AWP.ret ?_
 have hr:=someb hF
 subst hr
 exact(FnQ.f0 0 (.inr rfl))
def Zkk (r:Bool):PV→List Blk→Prop:=fun p K=>p=(vb r)∧K=[]
theorem Zhi (c:Bool) (a:Bool) (r:Bool) (hF:Zcy c a=some r):ACall Tryz.prog glob 88 [(vb c),(vb a)] [] (Zkk r):=by
 refine ACall.body Tryz.func88 rfl (by kernel_rfl) ?_
 unfold Zcy at hF
 refine AWP.seq (AWP.rg0 [] [(0,(vb c)),(1,(vb a))] (AWP.seq ?_))
 obtain⟨b1,b,hF⟩:=bindb hF
 replace b:=someb b
 refine AWP.to [(4,(vb (b1 || a)))] [] ?_ ?_
 ·cases b1 with
  | false=>
   exact AWP.rgT [(1,.bool b)]
  | true=>
   exact AWP.rgT [(1,.bool b)]
 refine AWP.ret ?_
 have hr:=someb hF
 subst hr
 exact(FnQ.f0 0 (.inr rfl))
def Zsp (r:Int):PV→List Blk→Prop:=fun p K=>p=(u32 r)∧K=[]
theorem Zsq (a:Int) (r:Int) (hF:Zic a=some r):ACall Tryz.prog glob 108 [(i64 a)] [] (Zsp r):=by
 refine ACall.body Tryz.func108 rfl (by kernel_rfl) ?_
 unfold Zic at hF
 refine AWP.seq (AWP.rg0 [] [(0,(i64 a))] (AWP.seq (AWP.seq ?_)))
 obtain⟨b1,b,hF⟩:=bindb hF
 replace b:=someb b
 refine AWP.to [(0,(i64 a)),(8,(vb (b1 || (decide (a ≥ (5:Int))))))] [] ?_ ?_
 ·cases b1 with
  | false=>
   exact AWP.rgT [(2,.bool b)]
  | true=>
   exact AWP.rgT [(2,.bool b)]
 refine AWP.cif hF (fun d hF=>?_) (fun d hF=>?_)
 ·refine AWP.seq (AWP.rg0 [] [(2,(u32 (0:Int)))] (AWP.ret ?_))
  have hr:=someb hF
  subst hr
  exact(FnQ.f0 0 (.inr rfl))
 ·refine AWP.skip (AWP.seq ?_)
  obtain⟨c,hF⟩:=chkb hF
  refine AWP.rg0 [(1,.ixd c),(2,.ldA Zht (Arr5.get Zdz) 0 1 0 c)] [(2,(u32 (Arr5.get Zdz a)))] (AWP.ret ?_)
  have hr:=someb hF
  subst hr
  exact(FnQ.f0 0 (.inr rfl))
def Zld (r:Int):PV→List Blk→Prop:=fun p K=>p=(i64 r)∧K=[]
theorem Zle (a:Int) (r:Int) (hF:Ze3 a=some r):ACall Tryz.prog glob 96 [(u64 a)] [] (Zld r):=by
 refine ACall.body Tryz.func96 rfl (by kernel_rfl) ?_
 unfold Ze3 at hF
 refine AWP.seq (AWP.rg0 [] [(0,(u64 a)),(2,(i64 (0:Int)))] ?_)
 obtain⟨j,k,hF⟩:=bindb hF
 refine AWP.seq ?_
 refine AWP.mid (fun e st H=>(e=.normal∧∃ b,∃ d,j=(b,d)∧st=[(0,(u64 b)),(2,(i64 d))]∧H=[])) ?_ ?_
 ·clear hF
  have hF:=k
  refine AWP.seq (AWP.rg0 [] [(0,(u64 a)),(2,(i64 (0:Int))),(4,(vb (decide (a ≥ (4294967296:Int)))))] ?_)
  refine AWP.cif hF (fun l hF=>?_) (fun l hF=>?_)
  ·refine AWP.seq (AWP.rg0 [] [(0,(u64 (bShr .u64 a (32:Int))))] (AWP.rg0 [] [(0,(u64 (bShr .u64 a (32:Int)))),(2,(i64 (32:Int)))] (LeQ.start (LeQ.pk [0,2] 0 ?_))))
   exact⟨rfl,(bShr .u64 a (32:Int)),(32:Int),(someb hF).symm,by kernel_rfl,by kernel_rfl⟩
  ·refine AWP.skip (LeQ.start (LeQ.pk [0,2] 0 ?_))
   exact⟨rfl,a,(0:Int),(someb hF).symm,by kernel_rfl,by kernel_rfl⟩
 ·rintro _ _ _ ⟨rfl,b,d,rfl,rfl,rfl⟩
  obtain⟨m,n,hF⟩:=bindb hF
  refine AWP.seq ?_
  refine AWP.mid (fun e st H=>(e=.normal∧∃ c,∃ f,m=(c,f)∧st=[(0,(u64 c)),(2,(i64 f))]∧H=[])) ?_ ?_
  ·clear hF
   have hF:=n
   refine AWP.seq (AWP.rg0 [] [(0,(u64 b)),(2,(i64 d)),(8,(vb (decide (b ≥ (65536:Int)))))] ?_)
   refine AWP.cif hF (fun o hF=>?_) (fun o hF=>?_)
   ·refine AWP.seq (AWP.rg0 [] [(0,(u64 (bShr .u64 b (16:Int)))),(2,(i64 d))] (AWP.rg0 [] [(0,(u64 (bShr .u64 b (16:Int)))),(2,(i64 (ZI (d + (16:Int)))))] (LeQ.start (LeQ.pk [0,2] 0 ?_))))
    exact⟨rfl,(bShr .u64 b (16:Int)),(ZI (d + (16:Int))),(someb hF).symm,by kernel_rfl,by kernel_rfl⟩
   ·refine AWP.skip (LeQ.start (LeQ.pk [0,2] 0 ?_))
    exact⟨rfl,b,d,(someb hF).symm,by kernel_rfl,by kernel_rfl⟩
  ·rintro _ _ _ ⟨rfl,c,f,rfl,rfl,rfl⟩
   obtain⟨p,q,hF⟩:=bindb hF
   refine AWP.seq ?_
   refine AWP.mid (fun e st H=>(e=.normal∧∃ i,∃ g,p=(i,g)∧st=[(0,(u64 i)),(2,(i64 g))]∧H=[])) ?_ ?_
   ·clear hF
    have hF:=q
    refine AWP.seq (AWP.rg0 [] [(0,(u64 c)),(2,(i64 f)),(14,(vb (decide (c ≥ (256:Int)))))] ?_)
    refine AWP.cif hF (fun s hF=>?_) (fun s hF=>?_)
    ·refine AWP.seq (AWP.rg0 [] [(0,(u64 (bShr .u64 c (8:Int)))),(2,(i64 f))] (AWP.rg0 [] [(0,(u64 (bShr .u64 c (8:Int)))),(2,(i64 (ZI (f + (8:Int)))))] (LeQ.start (LeQ.pk [0,2] 0 ?_))))
     exact⟨rfl,(bShr .u64 c (8:Int)),(ZI (f + (8:Int))),(someb hF).symm,by kernel_rfl,by kernel_rfl⟩
    ·refine AWP.skip (LeQ.start (LeQ.pk [0,2] 0 ?_))
     exact⟨rfl,c,f,(someb hF).symm,by kernel_rfl,by kernel_rfl⟩
   ·rintro _ _ _ ⟨rfl,i,g,rfl,rfl,rfl⟩
    refine AWP.seq ?_
    obtain⟨t,u,hF⟩:=bindb hF
    refine AWP.rg0 [(3,.str u)] [(2,(i64 (ZI (g + (ZI t)))))] (AWP.ret ?_)
    have hr:=someb hF
    subst hr
    exact(FnQ.f0 0 (.inr rfl))
def Znr (r:Int):PV→List Blk→Prop:=fun p K=>p=(i64 r)∧K=[]
theorem Zim (a:Int) (r:Int) (hF:Zdw a=some r):ACall Tryz.prog glob 112 [(u64 a)] [] (Znr r):=by
 refine ACall.body Tryz.func112 rfl (by kernel_rfl) ?_
 unfold Zdw at hF
 refine AWP.seq (AWP.rg0 [] [(0,(u64 a))] (AWP.seq ?_))
 refine AWP.cF ?_
 refine AWP.skip (AWP.seq ?_)
 obtain⟨b,c,hF⟩:=bindb hF
 refine AWP.rg0 [(1,.call Tryz.func96 [] (Zle a b c))] [(2,(i64 b))] (AWP.ret ?_)
 have hr:=someb hF
 subst hr
 exact(FnQ.f0 0 (.inr rfl))
def Zkl (r:Bool):PV→List Blk→Prop:=fun p K=>p=(vb r)∧K=[]
theorem Zdo (a:Int) (r:Bool) (hF:Zdn a=some r):ACall Tryz.prog glob 95 [(u64 a)] [] (Zkl r):=by
 refine ACall.body Tryz.func95 rfl (by kernel_rfl) ?_
 unfold Zdn at hF
 refine AWP.seq (AWP.rg0 [] [(0,(u64 a))] (AWP.seq (AWP.rg0 [] [(2,(vb (a != a)))] (AWP.ret ?_))))
 have hr:=someb hF
 subst hr
 exact(FnQ.f0 0 (.inr rfl))
def Zlf (r:Bool):PV→List Blk→Prop:=fun p K=>p=(vb r)∧K=[]
theorem Zas (a:Int) (b:Int) (r:Bool) (hF:Z0 a b=some r):ACall Tryz.prog glob 119 [(u64 a),(u64 b)] [] (Zlf r):=by
 refine ACall.body Tryz.func119 rfl (by kernel_rfl) ?_
 unfold Z0 at hF
 refine AWP.seq (AWP.rg0 [] [(0,(u64 a)),(1,(u64 b))] (AWP.seq ?_))
 obtain⟨g,i,hF⟩:=bindb hF
 obtain⟨n,c,hF⟩:=bindb hF
 replace c:=someb c
 obtain⟨p,j,hF⟩:=bindb hF
 obtain⟨k,d,hF⟩:=bindb hF
 replace d:=someb d
 refine AWP.to [(4,(vb (k || (decide (a<b)))))] [] ?_ ?_
 ·cases n with
  | false=>
   have o:=someb (ifF j rfl)
   subst o
   subst d
   exact AWP.rgT [(1,.call Tryz.func95 [] (Zdo a g i)),(2,.bool c)]
  | true=>
   have f:=ifT j rfl
   obtain⟨l,m,f⟩:=bindb f
   replace f:=someb f
   subst f
   cases k with
   | false=>
    exact AWP.rgT [(1,.call Tryz.func95 [] (Zdo a g i)),(2,.bool c),(4,.call Tryz.func95 [] (Zdo b l m)),(7,.bool d)]
   | true=>
    exact AWP.rgT [(1,.call Tryz.func95 [] (Zdo a g i)),(2,.bool c),(4,.call Tryz.func95 [] (Zdo b l m)),(7,.bool d)]
 refine AWP.ret ?_
 have hr:=someb hF
 subst hr
 exact(FnQ.f0 0 (.inr rfl))
def Zfp (a:List Value) (r:(List Int)):PV→List Blk→Prop:=fun p K=>p=(.tup [])∧K=[.cells (cel Zc r a)]
theorem Zfq (d:Nat) (m:(List Int)) (f:List Value) (b:Int) (g:Int) (r:(List Int)) (hF:Zbb d m b g=some r):ACall Tryz.prog glob 113 [(.vw 0 0 d),(i64 b),(i64 g)] [.cells (cel Zc m f)] (Zfp f r):=by
 refine ACall.body Tryz.func113 rfl (by kernel_rfl) ?_
 unfold Zbb at hF
 refine AWP.seq (AWP.rg0 [] [(0,(.vw 0 0 d)),(1,(i64 b)),(2,(i64 g)),(6,(i64 (ZI (b + (1:Int)))))] ?_)
 obtain⟨v,a3,hF⟩:=bindb hF
 refine AWP.mid (fun e st H=>e=.normal∧st=[]∧H=[.cells (cel Zc v f)]) ?_ ?_
 ·clear hF
  refine AWP.kp [0,1,2,6] 1 ?_
  refine AWP.bround (fun n st H=>∃ k,∃ c,Z8 d b g n k c=some v∧st=[(0,(.vw 0 0 d)),(1,(i64 b)),(2,(i64 g)),(6,(i64 c))]∧H=[.cells (cel Zc k f)]) fuel ⟨m,(ZI (b + (1:Int))),a3,by kernel_rfl,by kernel_rfl⟩ ?_
  rintro o st H ⟨k,c,hF,rfl,rfl⟩
  cases o with
  | zero=>exact noneb hF
  | succ o=>
   rw [Z8] at hF
   refine AWP.seq (AWP.seq (AWP.rg0 [] [(0,(.vw 0 0 d)),(1,(i64 b)),(2,(i64 g)),(6,(i64 c)),(12,(vb (decide (c<g))))] ?_))
   refine AWP.cif hF (fun a4 hF=>?_) (fun a4 hF=>?_)
   ·refine AWP.skip (AWP.seq (AWP.block (AWP.seq (AWP.rg0 [] [(0,(.vw 0 0 d)),(1,(i64 b)),(2,(i64 g)),(6,(i64 c)),(7,(i64 c))] ?_))))
    obtain⟨p,a5,hF⟩:=bindb hF
    refine AWP.mid (fun e st H=>e=.normal∧st=[(0,(.vw 0 0 d)),(1,(i64 b)),(2,(i64 g)),(6,(i64 c))]∧H=[.cells (cel Zc p f)]) ?_ ?_
    ·clear hF
     refine AWP.kp [0,1,2,6,7] 1 ?_
     refine AWP.bround (fun n st H=>∃ j,∃ a,Z7 d b n j a=some p∧st=[(0,(.vw 0 0 d)),(1,(i64 b)),(2,(i64 g)),(6,(i64 c)),(7,(i64 a))]∧H=[.cells (cel Zc j f)]) fuel ⟨k,c,a5,by kernel_rfl,by kernel_rfl⟩ ?_
     rintro q st H ⟨j,a,hF,rfl,rfl⟩
     cases q with
     | zero=>exact noneb hF
     | succ q=>
      rw [Z7] at hF
      refine AWP.seq (AWP.seq ?_)
      obtain⟨a6,l,hF⟩:=bindb hF
      replace l:=someb l
      obtain⟨a7,w,hF⟩:=bindb hF
      refine AWP.to [(0,(.vw 0 0 d)),(1,(i64 b)),(2,(i64 g)),(6,(i64 c)),(7,(i64 a)),(30,(vb a7))] [.cells (cel Zc j f)] ?_ ?_
      ·cases a6 with
       | false=>
        have a8:=someb (ifF w rfl)
        subst a8
        exact AWP.drT [(3,.bool l)] 15 [] [] []
       | true=>
        have i:=ifT w rfl
        obtain⟨a9,x,i⟩:=bindb i
        obtain⟨b0,y,i⟩:=bindb i
        obtain⟨b1,b2,i⟩:=bindb i
        replace i:=someb i
        subst i
        exact AWP.drT [(3,.bool l),(6,.idxV (Zk x)),(7,.ldV Zc (s:=1) (fun _=>rfl) f (Zi x) (0 + Int.toNat a * 1) (Nat.zero_add _) []),(11,.idxV (Zk y)),(12,.ldV Zc (s:=1) (fun _=>rfl) f (Zi y) (0 + Int.toNat (ZI (a - (1:Int))) * 1) (Nat.zero_add _) []),(13,.call Tryz.func119 [] (Zas a9 b0 b1 b2))] 15 [] [] []
      refine AWP.cif hF (fun b3 hF=>?_) (fun b3 hF=>?_)
      ·refine AWP.skip (AWP.seq (AWP.block ?_))
       obtain⟨t,z,hF⟩:=bindb hF
       obtain⟨u,a0,hF⟩:=bindb hF
       obtain⟨b4,a1,hF⟩:=bindb hF
       obtain⟨b5,a2,hF⟩:=bindb hF
       refine AWP.dr [(8,.idxV (Zk z)),(9,.ldV Zc (s:=1) (fun _=>rfl) f (Zi z) (0 + Int.toNat (ZI (a - (1:Int))) * 1) (Nat.zero_add _) []),(12,.idxV (Zk a0)),(13,.ldV Zc (s:=1) (fun _=>rfl) f (Zi a0) (0 + Int.toNat a * 1) (Nat.zero_add _) []),(14,.idxV (Zk a1)),(15,.stV Zc (s:=1) (fun _=>rfl) f (Zi a1) t (0 + Int.toNat a * 1) (Nat.zero_add _) []),(16,.idxV (Zk a2)),(17,.stV Zc (s:=1) (fun _=>rfl) f (Zi a2) u (0 + Int.toNat (ZI (a - (1:Int))) * 1) (Nat.zero_add _) [])] 16 [] [15] [] [(0,(.vw 0 0 d)),(1,(i64 b)),(2,(i64 g)),(6,(i64 c)),(7,(i64 a))] [.cells (cel Zc (List.set (List.set j (Int.toNat a) t) (Int.toNat (ZI (a - (1:Int)))) u) f)] (AWP.rg0 [] [(0,(.vw 0 0 d)),(1,(i64 b)),(2,(i64 g)),(6,(i64 c)),(7,(i64 (ZI (a - (1:Int)))))] (LeQ.start (LeQ.pk [0,1,2,6,7] 1 ?_)))
       exact⟨q,Nat.lt_succ_self _,(List.set (List.set j (Int.toNat a) t) (Int.toNat (ZI (a - (1:Int)))) u),(ZI (a - (1:Int))),hF,by kernel_rfl,by kernel_rfl⟩
      ·refine AWP.exit (LeQ.start (LeQ.pk [0,1,2,6] 1 ?_))
       have hr:=someb hF
       subst hr
       exact⟨rfl,by kernel_rfl,by kernel_rfl⟩
    ·rintro _ _ _ ⟨rfl,rfl,rfl⟩
     refine AWP.rg0 [] [(0,(.vw 0 0 d)),(1,(i64 b)),(2,(i64 g)),(6,(i64 (ZI (c + (1:Int)))))] (LeQ.start (LeQ.pk [0,1,2,6] 1 ?_))
     exact⟨o,Nat.lt_succ_self _,p,(ZI (c + (1:Int))),hF,by kernel_rfl,by kernel_rfl⟩
   ·refine AWP.exit (LeQ.start (LeQ.pk [] 1 ?_))
    have hr:=someb hF
    subst hr
    exact⟨rfl,by kernel_rfl,by kernel_rfl⟩
 ·rintro _ _ _ ⟨rfl,rfl,rfl⟩
  have hr:=someb hF
  subst hr
  exact(FnQ.f0 1 (.inl rfl))
def Zel (a:List Value) (r:(List Int)):PV→List Blk→Prop:=fun p K=>p=(.tup [])∧K=[.cells (cel Zc r a)]
abbrev Zgj (a:List Value) (r:(List Int)):Exit→St→List Blk→Prop:=FnQ Tryz.prog Tryz.f123.results 1 (Zel a r)
theorem Zem (f:Nat) (m:(List Int)) (c:List Value) (k:Int) (d:Int) (a:Int) (r:(List Int)) (hF:Zba f m k d a=some r):ACall Tryz.prog glob 123 [(.vw 0 0 f),(i64 k),(i64 d),(i64 a)] [.cells (cel Zc m c)] (Zel c r):=by
 refine ACall.body Tryz.func123 rfl (by kernel_rfl) ?_
 unfold Zba at hF
 refine AWP.seq (AWP.rg0 [] [(0,(.vw 0 0 f)),(2,(i64 d)),(3,(i64 a)),(8,(i64 k))] ?_)
 obtain⟨o,a5,hF⟩:=bindb hF
 refine AWP.mid (fun e st H=>(e=.normal∧∃ p,o=(.inl p)∧st=[]∧H=[.cells (cel Zc p c)])∨(e=.ret∧∃ r,o=(.inr r)∧Zgj c r e st H)) ?_ ?_
 ·clear hF
  refine AWP.kp [0,2,3,8] 1 ?_
  refine AWP.bround (fun n st H=>∃ g,∃ b,Z2 f d a n g b=some o∧st=[(0,(.vw 0 0 f)),(2,(i64 d)),(3,(i64 a)),(8,(i64 b))]∧H=[.cells (cel Zc g c)]) fuel ⟨m,k,a5,by kernel_rfl,by kernel_rfl⟩ ?_
  rintro q st H ⟨g,b,hF,rfl,rfl⟩
  cases q with
  | zero=>exact noneb hF
  | succ q=>
   rw [Z2] at hF
   refine AWP.block (AWP.seq (AWP.rg0 [] [(0,(.vw 0 0 f)),(2,(i64 d)),(3,(i64 a)),(8,(i64 b)),(9,(i64 (ZI ((ZI ((2:Int) * b)) + (1:Int)))))] (AWP.seq (AWP.seq (AWP.rg0 [] [(0,(.vw 0 0 f)),(2,(i64 d)),(3,(i64 a)),(8,(i64 b)),(9,(i64 (ZI ((ZI ((2:Int) * b)) + (1:Int))))),(16,(vb (decide ((ZI ((ZI ((2:Int) * b)) + (1:Int))) ≥ d))))] ?_)))))
   refine AWP.cif hF (fun a6 hF=>?_) (fun a6 hF=>?_)
   ·refine AWP.exit (LeQ.start (LeQ.pk [] 1 ?_))
    exact(.inl ⟨rfl,g,(someb hF).symm,by kernel_rfl,by kernel_rfl⟩)
   ·refine AWP.skip ?_
    obtain⟨i,a7,hF⟩:=bindb hF
    refine AWP.seq ?_
    refine AWP.mid (fun e st H=>e=.normal∧st=[(0,(.vw 0 0 f)),(2,(i64 d)),(3,(i64 a)),(8,(i64 b)),(9,(i64 i))]∧H=[.cells (cel Zc g c)]) ?_ ?_
    ·clear hF
     have hF:=a7
     refine AWP.seq ?_
     obtain⟨a8,l,hF⟩:=bindb hF
     replace l:=someb l
     obtain⟨a9,v,hF⟩:=bindb hF
     refine AWP.to [(0,(.vw 0 0 f)),(2,(i64 d)),(3,(i64 a)),(8,(i64 b)),(9,(i64 (ZI ((ZI ((2:Int) * b)) + (1:Int))))),(36,(vb a9))] [.cells (cel Zc g c)] ?_ ?_
     ·cases a8 with
      | false=>
       have b0:=someb (ifF v rfl)
       subst b0
       exact AWP.drT [(4,.bool l)] 20 [] [] []
      | true=>
       have j:=ifT v rfl
       obtain⟨b1,w,j⟩:=bindb j
       obtain⟨b2,x,j⟩:=bindb j
       obtain⟨b3,b4,j⟩:=bindb j
       replace j:=someb j
       subst j
       exact AWP.drT [(4,.bool l),(9,.idxV (Zk w)),(10,.ldV Zc (s:=1) (fun _=>rfl) c (Zi w) (0 + Int.toNat (ZI (a + (ZI ((ZI ((2:Int) * b)) + (1:Int))))) * 1) (Nat.zero_add _) []),(16,.idxV (Zk x)),(17,.ldV Zc (s:=1) (fun _=>rfl) c (Zi x) (0 + Int.toNat (ZI ((ZI (a + (ZI ((ZI ((2:Int) * b)) + (1:Int))))) + (1:Int))) * 1) (Nat.zero_add _) []),(18,.call Tryz.func119 [] (Zas b1 b2 b3 b4))] 20 [] [] []
     refine AWP.cif hF (fun b5 hF=>?_) (fun b5 hF=>?_)
     ·refine AWP.rg0 [] [(0,(.vw 0 0 f)),(2,(i64 d)),(3,(i64 a)),(8,(i64 b)),(9,(i64 (ZI ((ZI ((ZI ((2:Int) * b)) + (1:Int))) + (1:Int)))))] (LeQ.start (LeQ.pk [0,2,3,8,9] 1 ?_))
      have hr:=someb hF
      subst hr
      exact⟨rfl,by kernel_rfl,by kernel_rfl⟩
     ·refine AWP.skip (LeQ.start (LeQ.pk [0,2,3,8,9] 1 ?_))
      have hr:=someb hF
      subst hr
      exact⟨rfl,by kernel_rfl,by kernel_rfl⟩
    ·rintro _ _ _ ⟨rfl,rfl,rfl⟩
     refine AWP.seq (AWP.seq ?_)
     obtain⟨b6,y,hF⟩:=bindb hF
     obtain⟨b7,z,hF⟩:=bindb hF
     obtain⟨a0,b8,hF⟩:=bindb hF
     refine AWP.dr [(4,.idxV (Zk y)),(5,.ldV Zc (s:=1) (fun _=>rfl) c (Zi y) (0 + Int.toNat (ZI (a + b)) * 1) (Nat.zero_add _) []),(10,.idxV (Zk z)),(11,.ldV Zc (s:=1) (fun _=>rfl) c (Zi z) (0 + Int.toNat (ZI (a + i)) * 1) (Nat.zero_add _) []),(12,.call Tryz.func119 [] (Zas b6 b7 a0 b8))] 14 [] [] [] [(0,(.vw 0 0 f)),(2,(i64 d)),(3,(i64 a)),(8,(i64 b)),(9,(i64 i)),(52,(vb (!a0)))] [.cells (cel Zc g c)] ?_
     refine AWP.cif hF (fun b9 hF=>?_) (fun b9 hF=>?_)
     ·refine AWP.ret ?_
      exact LeQ.of (.inr ⟨rfl,g,(someb hF).symm,(FnQ.f0 1 (.inr rfl))⟩)
     ·refine AWP.skip (AWP.seq ?_)
      obtain⟨t,a1,hF⟩:=bindb hF
      obtain⟨u,a2,hF⟩:=bindb hF
      obtain⟨c0,a3,hF⟩:=bindb hF
      obtain⟨c1,a4,hF⟩:=bindb hF
      refine AWP.dr [(12,.idxV (Zk a1)),(13,.ldV Zc (s:=1) (fun _=>rfl) c (Zi a1) (0 + Int.toNat (ZI (a + i)) * 1) (Nat.zero_add _) []),(18,.idxV (Zk a2)),(19,.ldV Zc (s:=1) (fun _=>rfl) c (Zi a2) (0 + Int.toNat (ZI (a + b)) * 1) (Nat.zero_add _) []),(20,.idxV (Zk a3)),(21,.stV Zc (s:=1) (fun _=>rfl) c (Zi a3) t (0 + Int.toNat (ZI (a + b)) * 1) (Nat.zero_add _) []),(22,.idxV (Zk a4)),(23,.stV Zc (s:=1) (fun _=>rfl) c (Zi a4) u (0 + Int.toNat (ZI (a + i)) * 1) (Nat.zero_add _) [])] 22 [] [21] [] [(0,(.vw 0 0 f)),(2,(i64 d)),(3,(i64 a)),(9,(i64 i))] [.cells (cel Zc (List.set (List.set g (Int.toNat (ZI (a + b))) t) (Int.toNat (ZI (a + i))) u) c)] (AWP.rg0 [] [(0,(.vw 0 0 f)),(2,(i64 d)),(3,(i64 a)),(8,(i64 i))] (LeQ.start (LeQ.pk [0,2,3,8] 1 ?_)))
      exact⟨q,Nat.lt_succ_self _,(List.set (List.set g (Int.toNat (ZI (a + b))) t) (Int.toNat (ZI (a + i))) u),i,hF,by kernel_rfl,by kernel_rfl⟩
 ·rintro _ _ _ (⟨rfl,p,rfl,rfl,rfl⟩ | ⟨rfl,c2,rfl,hq⟩)
  ·have hr:=someb hF
   subst hr
   exact(FnQ.f0 1 (.inl rfl))
  ·have hr:=someb hF
   subst hr
   exact hq
def Zgk (a:List Value) (r:(List Int)):PV→List Blk→Prop:=fun p K=>p=(.tup [])∧K=[.cells (cel Zc r a)]
theorem Zgl (b:Nat) (q:(List Int)) (d:List Value) (a:Int) (f:Int) (r:(List Int)) (hF:Zbo b q a f=some r):ACall Tryz.prog glob 114 [(.vw 0 0 b),(i64 a),(i64 f)] [.cells (cel Zc q d)] (Zgk d r):=by
 refine ACall.body Tryz.func114 rfl (by kernel_rfl) ?_
 unfold Zbo at hF
 refine AWP.seq (AWP.rg0 [] [(0,(.vw 0 0 b)),(1,(i64 a)),(2,(i64 f)),(6,(i64 a))] (AWP.seq (AWP.rg0 [] [(0,(.vw 0 0 b)),(1,(i64 a)),(2,(i64 f)),(6,(i64 a)),(7,(i64 (0:Int)))] (AWP.seq (AWP.rg0 [] [(0,(.vw 0 0 b)),(6,(i64 a)),(7,(i64 (0:Int))),(8,(i64 (ZI (f - a))))] (AWP.seq ?_))))))
 refine AWP.seq (AWP.rg0 [] [(0,(.vw 0 0 b)),(6,(i64 a)),(7,(i64 (0:Int))),(8,(i64 (ZI (f - a)))),(9,(i64 (ZI (Int.tdiv (ZI ((ZI (f - a)) - (1:Int))) (2:Int)))))] ?_)
 obtain⟨t,a1,hF⟩:=bindb hF
 refine AWP.mid (fun e st H=>e=.normal∧st=[(0,(.vw 0 0 b)),(6,(i64 a)),(7,(i64 (0:Int))),(8,(i64 (ZI (f - a))))]∧H=[.cells (cel Zc t d)]) ?_ ?_
 ·clear hF
  refine AWP.kp [0,6,7,8,9] 1 ?_
  refine AWP.bround (fun n st H=>∃ k,∃ i,Zal b a f n k i=some t∧st=[(0,(.vw 0 0 b)),(6,(i64 a)),(7,(i64 (0:Int))),(8,(i64 (ZI (f - a)))),(9,(i64 i))]∧H=[.cells (cel Zc k d)]) fuel ⟨q,(ZI (Int.tdiv (ZI ((ZI (f - a)) - (1:Int))) (2:Int))),a1,by kernel_rfl,by kernel_rfl⟩ ?_
  rintro u st H ⟨k,i,hF,rfl,rfl⟩
  cases u with
  | zero=>exact noneb hF
  | succ u=>
   rw [Zal] at hF
   refine AWP.seq (AWP.seq (AWP.rg0 [] [(0,(.vw 0 0 b)),(6,(i64 a)),(7,(i64 (0:Int))),(8,(i64 (ZI (f - a)))),(9,(i64 i)),(19,(vb (decide (i ≥ (0:Int)))))] ?_))
   refine AWP.cif hF (fun a2 hF=>?_) (fun a2 hF=>?_)
   ·refine AWP.skip (AWP.seq (AWP.block ?_))
    obtain⟨l,a3,hF⟩:=bindb hF
    refine AWP.rg [(4,.callC Tryz.func123 [] (closedH.c (Zn (row:=Zc) (fun _=>rfl) k d) closedH.n) (closedH.c (Zn (row:=Zc) (fun _=>rfl) l d) closedH.n) (Zem b k d i (ZI (f - a)) a l a3))] [(0,(.vw 0 0 b)),(6,(i64 a)),(7,(i64 (0:Int))),(8,(i64 (ZI (f - a)))),(9,(i64 i))] [.cells (cel Zc l d)] (AWP.rg0 [] [(0,(.vw 0 0 b)),(6,(i64 a)),(7,(i64 (0:Int))),(8,(i64 (ZI (f - a)))),(9,(i64 (ZI (i - (1:Int)))))] (LeQ.start (LeQ.pk [0,6,7,8,9] 1 ?_)))
    exact⟨u,Nat.lt_succ_self _,l,(ZI (i - (1:Int))),hF,by kernel_rfl,by kernel_rfl⟩
   ·refine AWP.exit (LeQ.start (LeQ.pk [0,6,7,8] 1 ?_))
    have hr:=someb hF
    subst hr
    exact⟨rfl,by kernel_rfl,by kernel_rfl⟩
 ·rintro _ _ _ ⟨rfl,rfl,rfl⟩
  refine AWP.seq (AWP.rg0 [] [(0,(.vw 0 0 b)),(6,(i64 a)),(7,(i64 (0:Int))),(10,(i64 (ZI ((ZI (f - a)) - (1:Int)))))] ?_)
  obtain⟨w,a4,hF⟩:=bindb hF
  refine AWP.mid (fun e st H=>e=.normal∧st=[]∧H=[.cells (cel Zc w d)]) ?_ ?_
  ·clear hF
   refine AWP.kp [0,6,7,10] 1 ?_
   refine AWP.bround (fun n st H=>∃ j,∃ g,Zam b a n j g=some w∧st=[(0,(.vw 0 0 b)),(6,(i64 a)),(7,(i64 (0:Int))),(10,(i64 g))]∧H=[.cells (cel Zc j d)]) fuel ⟨t,(ZI ((ZI (f - a)) - (1:Int))),a4,by kernel_rfl,by kernel_rfl⟩ ?_
   rintro v st H ⟨j,g,hF,rfl,rfl⟩
   cases v with
   | zero=>exact noneb hF
   | succ v=>
    rw [Zam] at hF
    refine AWP.seq (AWP.seq (AWP.rg0 [] [(0,(.vw 0 0 b)),(6,(i64 a)),(7,(i64 (0:Int))),(10,(i64 g)),(30,(vb (decide (g ≥ (0:Int)))))] ?_))
    refine AWP.cif hF (fun a5 hF=>?_) (fun a5 hF=>?_)
    ·refine AWP.skip (AWP.seq (AWP.block (AWP.seq ?_)))
     obtain⟨m,x,hF⟩:=bindb hF
     obtain⟨o,y,hF⟩:=bindb hF
     obtain⟨a7,z,hF⟩:=bindb hF
     obtain⟨a8,a0,hF⟩:=bindb hF
     refine AWP.dr [(10,.idxV (Zk x)),(11,.ldV Zc (s:=1) (fun _=>rfl) d (Zi x) (0 + Int.toNat (ZI (a + g)) * 1) (Nat.zero_add _) []),(14,.idxV (Zk y)),(15,.ldV Zc (s:=1) (fun _=>rfl) d (Zi y) (0 + Int.toNat a * 1) (Nat.zero_add _) []),(16,.idxV (Zk z)),(17,.stV Zc (s:=1) (fun _=>rfl) d (Zi z) m (0 + Int.toNat a * 1) (Nat.zero_add _) []),(18,.idxV (Zk a0)),(19,.stV Zc (s:=1) (fun _=>rfl) d (Zi a0) o (0 + Int.toNat (ZI (a + g)) * 1) (Nat.zero_add _) [])] 18 [] [17] [] [(0,(.vw 0 0 b)),(6,(i64 a)),(7,(i64 (0:Int))),(10,(i64 g))] [.cells (cel Zc (List.set (List.set j (Int.toNat a) m) (Int.toNat (ZI (a + g))) o) d)] ?_
     obtain⟨p,a6,hF⟩:=bindb hF
     refine AWP.rg [(4,.callC Tryz.func123 [] (closedH.c (Zn (row:=Zc) (fun _=>rfl) (List.set (List.set j (Int.toNat a) m) (Int.toNat (ZI (a + g))) o) d) closedH.n) (closedH.c (Zn (row:=Zc) (fun _=>rfl) p d) closedH.n) (Zem b (List.set (List.set j (Int.toNat a) m) (Int.toNat (ZI (a + g))) o) d (0:Int) g a p a6))] [(0,(.vw 0 0 b)),(6,(i64 a)),(7,(i64 (0:Int))),(10,(i64 g))] [.cells (cel Zc p d)] (AWP.rg0 [] [(0,(.vw 0 0 b)),(6,(i64 a)),(7,(i64 (0:Int))),(10,(i64 (ZI (g - (1:Int)))))] (LeQ.start (LeQ.pk [0,6,7,10] 1 ?_)))
     exact⟨v,Nat.lt_succ_self _,p,(ZI (g - (1:Int))),hF,by kernel_rfl,by kernel_rfl⟩
    ·refine AWP.exit (LeQ.start (LeQ.pk [] 1 ?_))
     have hr:=someb hF
     subst hr
     exact⟨rfl,by kernel_rfl,by kernel_rfl⟩
  ·rintro _ _ _ ⟨rfl,rfl,rfl⟩
   have hr:=someb hF
   subst hr
   exact(FnQ.f0 1 (.inl rfl))
def Zh6 (r:Int):PV→List Blk→Prop:=fun p K=>p=(u64 r)∧K=[]
theorem Zh7 (a:Int) (r:Int) (hF:Zdg a=some r):ACall Tryz.prog glob 124 [(i64 a)] [] (Zh6 r):=by
 refine ACall.body Tryz.func124 rfl (by kernel_rfl) ?_
 unfold Zdg at hF
 refine AWP.seq (AWP.rg0 [] [(0,(i64 a))] (AWP.seq ?_))
 obtain⟨b,c,hF⟩:=bindb hF
 obtain⟨d,hF⟩:=chkb hF
 refine AWP.rg0 [(2,.call Tryz.func112 [] (Zim (IntKind.wrap .u64 a) b c)),(3,.sh d)] [(2,(u64 (bShl .u64 (1:Int) b)))] (AWP.ret ?_)
 have hr:=someb hF
 subst hr
 exact(FnQ.f0 0 (.inr rfl))
def Zix (r:(Int × Int)):PV→List Blk→Prop:=fun p K=>p=(u64 r.1)∧K=[.cells (Zc r.2)]
theorem Ziy (a:Int) (r:(Int × Int)) (hF:Zct a=some r):ACall Tryz.prog glob 125 [(.ptr 0 0)] [.cells (Zc a)] (Zix r):=by
 refine ACall.body Tryz.func125 rfl (by kernel_rfl) ?_
 unfold Zct at hF
 refine AWP.seq (AWP.rg0 [] [(0,(.ptr 0 0))] (AWP.seq (AWP.dr [] 8 [] [] [] [(0,(.ptr 0 0))] [.cells (Zc (bXor .u64 a (bShl .u64 a (13:Int))))] (AWP.seq (AWP.dr [] 8 [] [] [] [(0,(.ptr 0 0))] [.cells (Zc (bXor .u64 (bXor .u64 a (bShl .u64 a (13:Int))) (bShr .u64 (bXor .u64 a (bShl .u64 a (13:Int))) (7:Int))))] (AWP.seq ?_))))))
 refine AWP.dr [] 8 [] [] [] [(0,(.ptr 0 0))] [.cells (Zc (bXor .u64 (bXor .u64 (bXor .u64 a (bShl .u64 a (13:Int))) (bShr .u64 (bXor .u64 a (bShl .u64 a (13:Int))) (7:Int))) (bShl .u64 (bXor .u64 (bXor .u64 a (bShl .u64 a (13:Int))) (bShr .u64 (bXor .u64 a (bShl .u64 a (13:Int))) (7:Int))) (17:Int))))] (AWP.seq (AWP.rg0 [] [(2,(u64 (bXor .u64 (bXor .u64 (bXor .u64 a (bShl .u64 a (13:Int))) (bShr .u64 (bXor .u64 a (bShl .u64 a (13:Int))) (7:Int))) (bShl .u64 (bXor .u64 (bXor .u64 a (bShl .u64 a (13:Int))) (bShr .u64 (bXor .u64 a (bShl .u64 a (13:Int))) (7:Int))) (17:Int)))))] (AWP.ret ?_)))
 have hr:=someb hF
 subst hr
 exact(FnQ.f0 1 (.inr rfl))
def Zfr (a:List Value) (r:(List Int)):PV→List Blk→Prop:=fun p K=>p=(.tup [])∧K=[.cells (cel Zc r a)]
theorem Zfs (c:Nat) (m:(List Int)) (g:List Value) (a:Int) (b:Int) (r:(List Int)) (hF:Zat c m a b=some r):ACall Tryz.prog glob 115 [(.vw 0 0 c),(i64 a),(i64 b)] [.cells (cel Zc m g)] (Zfr g r):=by
 refine ACall.body Tryz.func115 rfl (by kernel_rfl) ?_
 unfold Zat at hF
 refine AWP.seq (AWP.rg0 [] [(0,(.vw 0 0 c)),(1,(i64 a)),(6,(i64 (ZI (b - a))))] (AWP.seq (AWP.rg0 [] [(0,(.vw 0 0 c)),(1,(i64 a)),(6,(i64 (ZI (b - a)))),(15,(vb (decide ((ZI (b - a)) ≥ (8:Int)))))] ?_)))
 refine AWP.cif hF (fun a2 hF=>?_) (fun a2 hF=>?_)
 ·refine AWP.seq (AWP.rg [] [(0,(.vw 0 0 c)),(1,(i64 a)),(6,(i64 (ZI (b - a)))),(7,(.ptr 1 0))] [.cells (cel Zc m g),.cells (Zc (IntKind.wrap .u64 (ZI (b - a))))] (AWP.seq ?_))
  obtain⟨d,a3,hF⟩:=bindb hF
  refine AWP.rg0 [(1,.call Tryz.func124 [] (Zh7 (ZI (b - a)) d a3))] [(0,(.vw 0 0 c)),(1,(i64 a)),(6,(i64 (ZI (b - a)))),(7,(.ptr 1 0)),(8,(u64 d))] (AWP.seq (AWP.rg0 [] [(0,(.vw 0 0 c)),(1,(i64 a)),(6,(i64 (ZI (b - a)))),(7,(.ptr 1 0)),(8,(u64 d)),(9,(i64 (ZI ((ZI (a + (ZI ((ZI (Int.tdiv (ZI (b - a)) (4:Int))) * (2:Int))))) - (1:Int)))))] ?_))
  obtain⟨x,a4,hF⟩:=bindb hF
  refine AWP.mid (fun e st H=>(e=.normal∧∃ q,∃ t,x=(q,t)∧st=[]∧H=[.cells (cel Zc q g),.cells (Zc t)])) ?_ ?_
  ·clear hF
   refine AWP.kp [0,1,6,7,8,9] 2 ?_
   refine AWP.bround (fun n st H=>∃ j,∃ k,∃ f,Zm c a b d n j k f=some x∧st=[(0,(.vw 0 0 c)),(1,(i64 a)),(6,(i64 (ZI (b - a)))),(7,(.ptr 1 0)),(8,(u64 d)),(9,(i64 f))]∧H=[.cells (cel Zc j g),.cells (Zc k)]) fuel ⟨m,(IntKind.wrap .u64 (ZI (b - a))),(ZI ((ZI (a + (ZI ((ZI (Int.tdiv (ZI (b - a)) (4:Int))) * (2:Int))))) - (1:Int))),a4,by kernel_rfl,by kernel_rfl⟩ ?_
   rintro u st H ⟨j,k,f,hF,rfl,rfl⟩
   cases u with
   | zero=>exact noneb hF
   | succ u=>
    rw [Zm] at hF
    refine AWP.seq (AWP.seq (AWP.rg0 [] [(0,(.vw 0 0 c)),(1,(i64 a)),(6,(i64 (ZI (b - a)))),(7,(.ptr 1 0)),(8,(u64 d)),(9,(i64 f)),(33,(vb (decide (f≤(ZI ((ZI (a + (ZI ((ZI (Int.tdiv (ZI (b - a)) (4:Int))) * (2:Int))))) + (1:Int)))))))] ?_))
    refine AWP.cif hF (fun a5 hF=>?_) (fun a5 hF=>?_)
    ·refine AWP.skip ?_
     obtain⟨a6,a7,hF⟩:=bindb hF
     refine AWP.seq ?_
     refine AWP.mid (fun e st H=>(e=.normal∧∃ o,∃ p,a6=(o,p)∧st=[(0,(.vw 0 0 c)),(1,(i64 a)),(6,(i64 (ZI (b - a)))),(7,(.ptr 1 0)),(8,(u64 d)),(9,(i64 f))]∧H=[.cells (cel Zc o g),.cells (Zc p)])) ?_ ?_
     ·clear hF
      have hF:=a7
      refine AWP.block (AWP.seq ?_)
      obtain⟨i,a8,hF⟩:=bindb hF
      refine AWP.rg [(0,.call Tryz.func125 [] (Ziy k i a8))] [(0,(.vw 0 0 c)),(1,(i64 a)),(6,(i64 (ZI (b - a)))),(7,(.ptr 1 0)),(8,(u64 d)),(9,(i64 f)),(10,(i64 (ZI (bAnd .u64 i.1 (IntKind.wrap .u64 (d - (1:Int)))))))] [.cells (cel Zc j g),.cells (Zc i.2)] ?_
      obtain⟨l,a9,hF⟩:=bindb hF
      refine AWP.seq ?_
      refine AWP.mid (fun e st H=>e=.normal∧st=[(0,(.vw 0 0 c)),(1,(i64 a)),(6,(i64 (ZI (b - a)))),(7,(.ptr 1 0)),(8,(u64 d)),(9,(i64 f)),(10,(i64 l))]∧H=[.cells (cel Zc j g),.cells (Zc i.2)]) ?_ ?_
      ·clear hF
       have hF:=a9
       refine AWP.seq (AWP.rg0 [] [(0,(.vw 0 0 c)),(1,(i64 a)),(6,(i64 (ZI (b - a)))),(7,(.ptr 1 0)),(8,(u64 d)),(9,(i64 f)),(10,(i64 (ZI (bAnd .u64 i.1 (IntKind.wrap .u64 (d - (1:Int))))))),(43,(vb (decide ((ZI (bAnd .u64 i.1 (IntKind.wrap .u64 (d - (1:Int))))) ≥ (ZI (b - a))))))] ?_)
       refine AWP.cif hF (fun b0 hF=>?_) (fun b0 hF=>?_)
       ·refine AWP.rg0 [] [(0,(.vw 0 0 c)),(1,(i64 a)),(6,(i64 (ZI (b - a)))),(7,(.ptr 1 0)),(8,(u64 d)),(9,(i64 f)),(10,(i64 (ZI ((ZI (bAnd .u64 i.1 (IntKind.wrap .u64 (d - (1:Int))))) - (ZI (b - a))))))] (LeQ.start (LeQ.pk [0,1,6,7,8,9,10] 2 ?_))
        have hr:=someb hF
        subst hr
        exact⟨rfl,by kernel_rfl,by kernel_rfl⟩
       ·refine AWP.skip (LeQ.start (LeQ.pk [0,1,6,7,8,9,10] 2 ?_))
        have hr:=someb hF
        subst hr
        exact⟨rfl,by kernel_rfl,by kernel_rfl⟩
      ·rintro _ _ _ ⟨rfl,rfl,rfl⟩
       obtain⟨v,y,hF⟩:=bindb hF
       obtain⟨w,z,hF⟩:=bindb hF
       obtain⟨b1,a0,hF⟩:=bindb hF
       obtain⟨b2,a1,hF⟩:=bindb hF
       refine AWP.dr [(10,.idxV (Zk y)),(11,.ldV Zc (s:=1) (fun _=>rfl) g (Zi y) (0 + Int.toNat (ZI (a + l)) * 1) (Nat.zero_add _) []),(14,.idxV (Zk z)),(15,.ldV Zc (s:=1) (fun _=>rfl) g (Zi z) (0 + Int.toNat f * 1) (Nat.zero_add _) []),(16,.idxV (Zk a0)),(17,.stV Zc (s:=1) (fun _=>rfl) g (Zi a0) v (0 + Int.toNat f * 1) (Nat.zero_add _) []),(18,.idxV (Zk a1)),(19,.stV Zc (s:=1) (fun _=>rfl) g (Zi a1) w (0 + Int.toNat (ZI (a + l)) * 1) (Nat.zero_add _) [])] 18 [] [17] [] [(0,(.vw 0 0 c)),(1,(i64 a)),(6,(i64 (ZI (b - a)))),(7,(.ptr 1 0)),(8,(u64 d)),(9,(i64 f))] [.cells (cel Zc (List.set (List.set j (Int.toNat f) v) (Int.toNat (ZI (a + l))) w) g),.cells (Zc i.2)] (LeQ.start (LeQ.pk [0,1,6,7,8,9] 2 ?_))
       exact⟨rfl,(List.set (List.set j (Int.toNat f) v) (Int.toNat (ZI (a + l))) w),i.2,(someb hF).symm,by kernel_rfl,by kernel_rfl⟩
     ·rintro _ _ _ ⟨rfl,o,p,rfl,rfl,rfl⟩
      refine AWP.rg0 [] [(0,(.vw 0 0 c)),(1,(i64 a)),(6,(i64 (ZI (b - a)))),(7,(.ptr 1 0)),(8,(u64 d)),(9,(i64 (ZI (f + (1:Int)))))] (LeQ.start (LeQ.pk [0,1,6,7,8,9] 2 ?_))
      exact⟨u,Nat.lt_succ_self _,o,p,(ZI (f + (1:Int))),hF,by kernel_rfl,by kernel_rfl⟩
    ·refine AWP.exit (LeQ.start (LeQ.pk [] 2 ?_))
     exact⟨rfl,j,k,(someb hF).symm,by kernel_rfl,by kernel_rfl⟩
  ·rintro _ _ _ ⟨rfl,q,t,rfl,rfl,rfl⟩
   have hr:=someb hF
   subst hr
   exact(FnQ.f0 1 (.inl rfl))
 ·refine AWP.skip ?_
  have hr:=someb hF
  subst hr
  exact(FnQ.f0 1 (.inl rfl))
def Zg4 (a:(List Int)) (b:List Value) (r:(Int × Int × Int)):PV→List Blk→Prop:=fun p K=>p=(.tup [(i64 r.1),(i64 r.2.1)])∧K=[.cells (cel Zc a b),.cells (Z5 r.2.2)]
theorem Zdf (g:Nat) (d:(List Int)) (c:List Value) (a:Int) (b:Int) (f:Int) (r:(Int × Int × Int)) (hF:Za2 g d a b f=some r):ACall Tryz.prog glob 128 [(.vw 0 0 g),(i64 a),(i64 b),(.ptr 1 0)] [.cells (cel Zc d c),.cells (Z5 f)] (Zg4 d c r):=by
 refine ACall.body Tryz.func128 rfl (by kernel_rfl) ?_
 unfold Za2 at hF
 refine AWP.seq (AWP.rg0 [] [(0,(.vw 0 0 g)),(1,(i64 a)),(2,(i64 b)),(3,(.ptr 1 0))] (AWP.seq (AWP.seq ?_)))
 obtain⟨l,i,hF⟩:=bindb hF
 obtain⟨m,j,hF⟩:=bindb hF
 obtain⟨k,n,hF⟩:=bindb hF
 refine AWP.dr [(2,.idxV (Zk i)),(3,.ldV Zc (s:=1) (fun _=>rfl) c (Zi i) (0 + Int.toNat b * 1) (Nat.zero_add _) []),(6,.idxV (Zk j)),(7,.ldV Zc (s:=1) (fun _=>rfl) c (Zi j) (0 + Int.toNat a * 1) (Nat.zero_add _) []),(8,.call Tryz.func119 [] (Zas l m k n))] 9 [] [] [] [(1,(i64 a)),(2,(i64 b)),(3,(.ptr 1 0)),(18,(vb k))] [.cells (cel Zc d c),.cells (Z5 f)] ?_
 refine AWP.cif hF (fun o hF=>?_) (fun o hF=>?_)
 ·refine AWP.seq (AWP.rg [] [(1,(i64 a)),(2,(i64 b))] [.cells (cel Zc d c),.cells (Z5 (ZI (f + (1:Int))))] (AWP.seq (AWP.rg0 [] [(8,(i64 b)),(9,(i64 a))] (AWP.ret ?_))))
  have hr:=someb hF
  subst hr
  exact(FnQ.f0 2 (.inr rfl))
 ·refine AWP.skip (AWP.seq (AWP.rg0 [] [(8,(i64 a)),(9,(i64 b))] (AWP.ret ?_)))
  have hr:=someb hF
  subst hr
  exact(FnQ.f0 2 (.inr rfl))
end Go.AM

/- Parts of a proof, printed short. No condition. -/
import Derived.Test.YtkeeaccnnljimaaGreatDoorProg
import Derived.Test.YtkeeaccnnljimaaGreatDoorHiQ2
set_option maxRecDepth 100000
namespace Go.AM
open Go
structure Arr5 (α:Type) where
 x0:α
 x1:α
 x2:α
 x3:α
 x4:α
def Arr5.get {α:Type} (a:Arr5 α) (i:Int):α:=if i=0 then a.x0 else if i=1 then a.x1 else if i=2 then a.x2 else if i=3 then a.x3 else a.x4
def Arr5.set {α:Type} (a:Arr5 α) (i:Int) (v:α):Arr5 α:=if i=0 then { a with x0:=v } else if i=1 then { a with x1:=v } else if i=2 then { a with x2:=v } else if i=3 then { a with x3:=v } else { a with x4:=v }
def Zdm (x:(Arr5 Int)):List PV:=[.sc (.int .u32 x.x0),.sc (.int .u32 x.x1),.sc (.int .u32 x.x2),.sc (.int .u32 x.x3),.sc (.int .u32 x.x4)]
def Z0r (x:(Arr5 Int)):List Value:=[.int .u32 x.x0,.int .u32 x.x1,.int .u32 x.x2,.int .u32 x.x3,.int .u32 x.x4]
def Zco (x:(Arr5 Int)):PV:=.sc (.agg ⟨Z0r x⟩)
def Zxh:(Arr5 Int):=Arr5.mk (0:Int) (0:Int) (0:Int) (0:Int) (0:Int)
def Z0s (x:(List Int)):List PV:=[.sl 1 (List.map Zaj x)]
def Zsj (x:(List Int)):Prop:=x.length≤9223372036854775807∧∀ y∈x,Ztj y
structure Zb where
 Lo:Int
 Hi:Int
abbrev ZB:=Arr5 Zb
abbrev ZL:=List (Arr5 Zb)
def Zk (x:Zb):List PV:=[.sc (.int .u32 x.Lo),.sc (.int .u32 x.Hi)]
def Zge (x:Zb):Prop:=Ziy x.Lo∧Ziy x.Hi∧True
def Zxi (x:Zb):List Value:=[.int .u32 x.Lo,.int .u32 x.Hi]
def Zmb (x:Zb):PV:=.sc (.agg ⟨Zxi x⟩)
def Zdp (x y:Zb):Bool:=((x.Lo == y.Lo) && ((x.Hi == y.Hi) && true))
def Zq:Zb:=Zb.mk (0:Int) (0:Int)
def Za (x:(Arr5 Zb)):List PV:=[.sc (.int .u32 x.x0.Lo),.sc (.int .u32 x.x0.Hi),.sc (.int .u32 x.x1.Lo),.sc (.int .u32 x.x1.Hi),.sc (.int .u32 x.x2.Lo),.sc (.int .u32 x.x2.Hi),.sc (.int .u32 x.x3.Lo),.sc (.int .u32 x.x3.Hi),.sc (.int .u32 x.x4.Lo),.sc (.int .u32 x.x4.Hi)]
def Zis (x:(Arr5 Zb)):Prop:=Zge x.x0∧Zge x.x1∧Zge x.x2∧Zge x.x3∧Zge x.x4∧True
def Ztv (x:(Arr5 Zb)):List Value:=[.int .u32 x.x0.Lo,.int .u32 x.x0.Hi,.int .u32 x.x1.Lo,.int .u32 x.x1.Hi,.int .u32 x.x2.Lo,.int .u32 x.x2.Hi,.int .u32 x.x3.Lo,.int .u32 x.x3.Hi,.int .u32 x.x4.Lo,.int .u32 x.x4.Hi]
def Zag (x:(Arr5 Zb)):PV:=.sc (.agg ⟨Ztv x⟩)
def Zer (x y:(Arr5 Zb)):Bool:=((Zdp x.x0 y.x0) && ((Zdp x.x1 y.x1) && ((Zdp x.x2 y.x2) && ((Zdp x.x3 y.x3) && ((Zdp x.x4 y.x4) && true)))))
def Zm:(Arr5 Zb):=Arr5.mk Zq Zq Zq Zq Zq
structure Zmc where
 From:(Arr5 Zb)
 To:(Arr5 Zb)
structure Zs where
 Src:Int
 Dst:Int
 Proto:Int
 SrcPort:Int
 DstPort:Int
def Zn (x:Zs):List PV:=[.sc (.int .u32 x.Src),.sc (.int .u32 x.Dst),.sc (.int .u8 x.Proto),.sc (.int .u16 x.SrcPort),.sc (.int .u16 x.DstPort)]
def Zci (x:Zs):Prop:=Ziy x.Src∧Ziy x.Dst∧ok_u8 x.Proto∧Zl8 x.SrcPort∧Zl8 x.DstPort∧True
def Zpc (x:Zs):List Value:=[.int .u32 x.Src,.int .u32 x.Dst,.int .u8 x.Proto,.int .u16 x.SrcPort,.int .u16 x.DstPort]
def Zcj (x:Zs):PV:=.sc (.agg ⟨Zpc x⟩)
def Zxj:Zs:=Zs.mk (0:Int) (0:Int) (0:Int) (0:Int) (0:Int)
structure Zf where
 f_l:(List Int)
 f_i:Int
def Zi (x:Zf):List PV:=[.sl 1 (List.map Zaj x.f_l),.sc (.int .i64 x.f_i)]
structure Zbn where
 Addr:Int
 Bits:Int
def Zde (x:Zbn):List PV:=[.sc (.int .u32 x.Addr),.sc (.int .i64 x.Bits)]
def Zwq (x:Zbn):List Value:=[.int .u32 x.Addr,.int .i64 x.Bits]
def Zlq (x:Zbn):PV:=.sc (.agg ⟨Zwq x⟩)
def Zxk:Zbn:=Zbn.mk (0:Int) (0:Int)
def Zo (x:(List (Arr5 Zb))):List PV:=[.sl 10 (List.map Za x)]
def Zls (x:(List (Arr5 Zb))):Prop:=x.length≤9223372036854775807∧∀ y∈x,Zis y
structure Zj where
 f_err:Int
def Zl (x:Zj):List PV:=[.sc (.int .i64 x.f_err)]
def Zd9:Zj:=Zj.mk (0:Int)
structure Zg where
 f_values:Zb
 f_rest:(List (Arr5 Zb))
def Ze (x:Zg):List PV:=[.sc (.int .u32 x.f_values.Lo),.sc (.int .u32 x.f_values.Hi),.sl 10 (List.map Za x.f_rest)]
def Zgy:Zg:=Zg.mk Zq ([]:(List (Arr5 Zb)))
structure Zr where
 f_failed:Bool
def Zu (x:Zr):List PV:=[.sc (.bool x.f_failed)]
structure Zh where
 Match:(Arr5 Zb)
 Addr:Int
 Ports:Zb
def Zc (x:Zh):List PV:=[.sc (.int .u32 x.Match.x0.Lo),.sc (.int .u32 x.Match.x0.Hi),.sc (.int .u32 x.Match.x1.Lo),.sc (.int .u32 x.Match.x1.Hi),.sc (.int .u32 x.Match.x2.Lo),.sc (.int .u32 x.Match.x2.Hi),.sc (.int .u32 x.Match.x3.Lo),.sc (.int .u32 x.Match.x3.Hi),.sc (.int .u32 x.Match.x4.Lo),.sc (.int .u32 x.Match.x4.Hi),.sc (.int .u32 x.Addr),.sc (.int .u32 x.Ports.Lo),.sc (.int .u32 x.Ports.Hi)]
def Zne (x:Zh):Prop:=Zis x.Match∧Ziy x.Addr∧Zge x.Ports∧True
def Zyr (x:Zh):List Value:=[.int .u32 x.Match.x0.Lo,.int .u32 x.Match.x0.Hi,.int .u32 x.Match.x1.Lo,.int .u32 x.Match.x1.Hi,.int .u32 x.Match.x2.Lo,.int .u32 x.Match.x2.Hi,.int .u32 x.Match.x3.Lo,.int .u32 x.Match.x3.Hi,.int .u32 x.Match.x4.Lo,.int .u32 x.Match.x4.Hi,.int .u32 x.Addr,.int .u32 x.Ports.Lo,.int .u32 x.Ports.Hi]
def Zg7 (x:Zh):PV:=.sc (.agg ⟨Zyr x⟩)
def Zik:Zh:=Zh.mk Zm (0:Int) Zq
def Zu1 (x:(List Zh)):List PV:=[.sl 13 (List.map Zc x)]
def Zpd (x:(List Zh)):Prop:=x.length≤9223372036854775807∧∀ y∈x,Zne y
def Za7:(Arr5 Int):=Arr5.mk 4294967295 4294967295 255 65535 65535
abbrev ZI:Int→Int:=IntKind.wrap .i64
end Go.AM
set_option maxRecDepth 100000
namespace Go.AM
open Go
def Zlb:Option Bool:=
 some true
def Zkf (a:(List Int)):Option Zf:=
 some (Zf.mk a (0:Int))
def Zh9 (b:Int) (a:Int):Option Int:=
 if (IntKind.wrap .u64 a) ≠ 0 then
 some (IntKind.wrap .i64 (Int.tmod (IntKind.wrap .u64 b) (IntKind.wrap .u64 a)))
 else none
def Zw (a:Zf) (b:Int):Option (Int × Zf):=
 (some (decide (b≤(1:Int)))).bind fun c=>
 if (c || (decide (a.f_i ≥ (List.length a.f_l:Int))))=true then
  some ((0:Int),a)
 else
  (idx a.f_l (IntKind.wrap .i64 ((IntKind.wrap .i64 (a.f_i + (1:Int))) - (1:Int)))).bind fun d=>
  (Zh9 d b).bind fun f=>
  some (f,({ a with f_i:=(IntKind.wrap .i64 (a.f_i + (1:Int))) }:Zf))
def Zgv (a:Int):Option Int:=
 ((if (a == (0:Int))=true then
  some (a == (0:Int))
 else
  some (a == (1:Int))).bind fun b=>
  if b=true then
   some (.inr (4294967295:Int))
  else
   if (a == (2:Int))=true then
    some (.inr (255:Int))
   else
    (if (a == (3:Int))=true then
     some (a == (3:Int))
    else
     some (a == (4:Int))).bind fun c=>
     if c=true then
      some (.inr (65535:Int))
     else
      some (.inl ())).bind fun(d:(Unit ⊕ Int))=>
 match d with
 | .inl ()=>
   some (0:Int)
 | .inr f=>
   some f
def Zh7:Nat→ZB→Int→Option ZB
 | 0,_,_=>none
 | c+1,b,a=>
  if (decide (a<(5:Int)))=true then
   (Zgv a).bind fun d=>
   if 0≤a∧a<5 then
   Zh7 c (Arr5.set b a ({ (Arr5.get b a) with Hi:=d }:Zb)) (IntKind.wrap .i64 (a + (1:Int)))
   else none
  else
   some b
def Ze6:Option ZB:=
 (Zh7 fuel Zm (0:Int)).bind fun a=>
  some a
def Zcx (c:Zf) (a:Int):Option (Int × Zf):=
 (Zw c (17:Int)).bind fun b=>
 (idx [(0:Int),(1:Int),(2:Int),(5:Int),(7:Int),(8:Int),(9:Int),(15:Int),(16:Int),(80:Int),(255:Int),(256:Int),(1024:Int),(65535:Int),(IntKind.wrap .u32 (Int.tdiv a (2:Int))),(IntKind.wrap .u32 (a - (1:Int))),a] b.1).bind fun d=>
 some ((iMin d a),b.2)
def Zgk (a:Int):Option Zbn:=
 (Zh9 a (6:Int)).bind fun b=>
 (idx [(Zbn.mk (167772160:Int) (24:Int)),(Zbn.mk (167772416:Int) (24:Int)),(Zbn.mk (167772672:Int) (25:Int)),(Zbn.mk (167772800:Int) (26:Int)),(Zbn.mk (2886729728:Int) (16:Int)),(Zbn.mk (3232237321:Int) (32:Int))] b).bind fun c=>
 some c
def Zjd (a:Int):Option Int:=
 if 0≤(IntKind.wrap .u64 (IntKind.wrap .i64 ((32:Int) - a))) then
 some (bShl .u64 (1:Int) (IntKind.wrap .u64 (IntKind.wrap .i64 ((32:Int) - a))))
 else none
def Zkg (a:Zbn):Option Bool:=
 (some (decide (a.Bits ≥ (0:Int)))).bind fun c=>
 (some (c && (decide (a.Bits≤(32:Int))))).bind fun d=>
 (if d=true then
  (Zjd a.Bits).bind fun b=>
  if b ≠ 0 then
  some ((Int.tmod (IntKind.wrap .u64 a.Addr) b) == (0:Int))
  else none
  else some false).bind fun f=>
 some f
def Zi0 (a:Zbn):Option (Zb × Bool):=
 (Zkg a).bind fun b=>
 if (!b)=true then
  some ((Zb.mk (0:Int) (0:Int)),false)
 else
  (Zjd a.Bits).bind fun c=>
  some ((Zb.mk a.Addr (IntKind.wrap .u32 (IntKind.wrap .u64 ((IntKind.wrap .u64 ((IntKind.wrap .u64 a.Addr) + c)) - (1:Int))))),true)
def Zdr (d:Zf) (b:ZB):Option (ZB × Zf):=
 (Zw d (5:Int)).bind fun a=>
 ((Zw a.2 (3:Int)).bind fun c=>
 if (c.1 == (0:Int))=true then
  if 0≤a.1∧a.1<5 then
  if 0≤a.1∧a.1<5 then
  if 0≤a.1∧a.1<5 then
  if 0≤a.1∧a.1<5 then
  some (c.2,(Arr5.set (Arr5.set b a.1 ({ (Arr5.get b a.1) with Lo:=(Arr5.get b a.1).Hi }:Zb)) a.1 ({ (Arr5.get (Arr5.set b a.1 ({ (Arr5.get b a.1) with Lo:=(Arr5.get b a.1).Hi }:Zb)) a.1) with Hi:=(Arr5.get b a.1).Lo }:Zb)))
  else none
  else none
  else none
  else none
 else
  if (c.1 == (1:Int))=true then
   if 0≤a.1∧a.1<5 then
   some (c.2,(Arr5.set b a.1 ({ (Arr5.get b a.1) with Hi:=(4294967295:Int) }:Zb)))
   else none
  else
   if 0≤a.1∧a.1<5 then
   some (c.2,(Arr5.set b a.1 (Zb.mk (1:Int) (0:Int))))
   else none).bind fun f=>
 match f with
 | (g,i)=>
  some (i,g)
def Zcy (g:Zf):Option (Int × Zf):=
 (Zw g (5:Int)).bind fun b=>
 if (b.1 == (4:Int))=true then
  (Zw b.2 (6:Int)).bind fun c=>
  (idx [(0:Int),(4294967295:Int),(3405803781:Int),(3325256705:Int),(168296448:Int),(2130706433:Int)] c.1).bind fun i=>
  some (i,c.2)
 else
  (Zw b.2 (6:Int)).bind fun d=>
  (Zgk d.1).bind fun j=>
  (Zi0 j).bind fun a=>
  (Zw d.2 (5:Int)).bind fun f=>
  (idx [a.1.Lo,a.1.Hi,(IntKind.wrap .u32 (a.1.Lo + (5:Int))),(IntKind.wrap .u32 (a.1.Hi + (1:Int))),(IntKind.wrap .u32 (a.1.Lo - (1:Int)))] f.1).bind fun k=>
  some (k,f.2)
def Zei (g:Zf):Option (Zs × Zf):=
 (Zcy g).bind fun a=>
 (Zcy a.2).bind fun b=>
 (Zw b.2 (6:Int)).bind fun c=>
 (idx [(6:Int),(17:Int),(1:Int),(0:Int),(7:Int),(255:Int)] c.1).bind fun i=>
 (Zcx c.2 (65535:Int)).bind fun d=>
 (Zcx d.2 (65535:Int)).bind fun f=>
 some ((Zs.mk a.1 b.1 i (IntKind.wrap .u16 d.1) (IntKind.wrap .u16 f.1)),f.2)
def Zat (b:ZB):Nat→Int→Option (Unit ⊕ Bool)
 | 0,_=>none
 | c+1,a=>
  if (decide (a<(5:Int)))=true then
   if 0≤a∧a<5 then
   (some (decide ((Arr5.get b a).Lo > (Arr5.get b a).Hi))).bind fun d=>
   (if d=true then some true else
    if 0≤a∧a<5 then
    some (decide ((Arr5.get b a).Hi > (Arr5.get Za7 a)))
    else none
    ).bind fun f=>
   if f=true then
    some (.inr false)
   else
    Zat b c (IntKind.wrap .i64 (a + (1:Int)))
   else none
  else
   some (.inl ())
def Zg8 (a:ZB):Option Bool:=
 (Zat a fuel (0:Int)).bind fun(b:(Unit ⊕ Bool))=>
 match b with
 | .inl ()=>
   some true
 | .inr c=>
   some c
def Zad (b:ZB):Nat→Int→Option (Unit ⊕ Bool)
 | 0,_=>none
 | c+1,a=>
  if (decide (a<(5:Int)))=true then
   if 0≤a∧a<5 then
   if 0≤a∧a<5 then
   (some (decide ((Arr5.get b a).Lo > (Arr5.get b a).Hi))).bind fun d=>
   (if d=true then some true else
    if 0≤a∧a<5 then
    (Zgv a).bind fun f=>
    some (decide ((Arr5.get b a).Hi > f))
    else none
    ).bind fun g=>
   if g=true then
    some (.inr false)
   else
    Zad b c (IntKind.wrap .i64 (a + (1:Int)))
   else none
   else none
  else
   some (.inl ())
def Zes (a:ZB):Option Bool:=
 (Zad a fuel (0:Int)).bind fun(b:(Unit ⊕ Bool))=>
 match b with
 | .inl ()=>
   some true
 | .inr c=>
   some c
def Zi1 (a:Zs):Option (Arr5 Int):=
 some (Arr5.mk a.Src a.Dst (IntKind.wrap .u32 a.Proto) (IntKind.wrap .u32 a.SrcPort) (IntKind.wrap .u32 a.DstPort))
def Zdu (b:ZB) (c:(Arr5 Int)):Nat→Int→Option (Unit ⊕ Bool)
 | 0,_=>none
 | d+1,a=>
  if (decide (a<(5:Int)))=true then
   if 0≤a∧a<5 then
   if 0≤a∧a<5 then
   (some (decide ((Arr5.get c a)<(Arr5.get b a).Lo))).bind fun f=>
   (if f=true then some true else
    if 0≤a∧a<5 then
    some (decide ((Arr5.get c a) > (Arr5.get b a).Hi))
    else none
    ).bind fun g=>
   if g=true then
    some (.inr false)
   else
    Zdu b c d (IntKind.wrap .i64 (a + (1:Int)))
   else none
   else none
  else
   some (.inl ())
def Zha (a:ZB) (b:Zs):Option Bool:=
 (Zg8 a).bind fun c=>
 if (!c)=true then
  some false
 else
  (Zi1 b).bind fun d=>
  (Zdu a d fuel (0:Int)).bind fun(f:(Unit ⊕ Bool))=>
  match f with
  | .inl ()=>
    some true
  | .inr g=>
    some g
def Zgl (a:Zs):Option (Arr5 Int):=
 some (Arr5.mk a.Src a.Dst (IntKind.wrap .u32 a.Proto) (IntKind.wrap .u32 a.SrcPort) (IntKind.wrap .u32 a.DstPort))
def Zcp (b:ZB) (c:(Arr5 Int)):Nat→Int→Option (Unit ⊕ Bool)
 | 0,_=>none
 | d+1,a=>
  if (decide (a<(5:Int)))=true then
   if 0≤a∧a<5 then
   if 0≤a∧a<5 then
   (some (decide ((Arr5.get c a)<(Arr5.get b a).Lo))).bind fun f=>
   (if f=true then some true else
    if 0≤a∧a<5 then
    if 0≤a∧a<5 then
    some (decide ((Arr5.get c a) > (Arr5.get b a).Hi))
    else none
    else none
    ).bind fun g=>
   if g=true then
    some (.inr false)
   else
    Zcp b c d (IntKind.wrap .i64 (a + (1:Int)))
   else none
   else none
  else
   some (.inl ())
def Ze7 (a:ZB) (b:Zs):Option Bool:=
 (Zgl b).bind fun c=>
 (Zcp a c fuel (0:Int)).bind fun(d:(Unit ⊕ Bool))=>
 match d with
 | .inl ()=>
   (Zes a).bind fun f=>
   some f
 | .inr g=>
   some g
def Zfj (b:(Arr5 Int)):Nat→ZB→Int→Option ZB
 | 0,_,_=>none
 | d+1,c,a=>
  if (decide (a<(5:Int)))=true then
   if 0≤a∧a<5 then
   if 0≤a∧a<5 then
   if 0≤a∧a<5 then
   Zfj b d (Arr5.set c a (Zb.mk (Arr5.get b a) (Arr5.get b a))) (IntKind.wrap .i64 (a + (1:Int)))
   else none
   else none
   else none
  else
   some c
def Zia (a:Zs):Option ZB:=
 (Zgl a).bind fun b=>
 (Zfj b fuel Zm (0:Int)).bind fun c=>
  some c
def Zcs (g:Zf):Option (Zb × Zf):=
 (Zw g (4:Int)).bind fun a=>
 if (a.1 == (0:Int))=true then
  (Zw a.2 (6:Int)).bind fun f=>
  (Zgk f.1).bind fun i=>
  (Zi0 i).bind fun j=>
  some (j.1,f.2)
 else
  if (a.1 == (1:Int))=true then
   (Zcy a.2).bind fun b=>
   (Zcy b.2).bind fun c=>
   some ((Zb.mk (iMin b.1 c.1) (iMax b.1 c.1)),c.2)
  else
   if (a.1 == (2:Int))=true then
    (Zcy a.2).bind fun d=>
    some ((Zb.mk d.1 d.1),d.2)
   else
    some ((Zb.mk (0:Int) (4294967295:Int)),a.2)
def Zdx (d:Zf) (c:Int):Option (Zb × Zf):=
 (Zcx d c).bind fun a=>
 (Zcx a.2 c).bind fun b=>
 some ((Zb.mk (iMin a.1 b.1) (iMax a.1 b.1)),b.2)
def Zcz:Nat→Zf→ZB→Int→Option (Zf × ZB)
 | 0,_,_,_=>none
 | m+1,c,b,d=>
  if (decide (d > (0:Int)))=true then
   ((Zw c (5:Int)).bind fun a=>
   if (a.1 == (0:Int))=true then
    (Zcs a.2).bind fun f=>
    some (f.2,({ b with x0:=f.1 }:ZB))
   else
    if (a.1 == (1:Int))=true then
     (Zcs a.2).bind fun g=>
     some (g.2,({ b with x1:=g.1 }:ZB))
    else
     if (a.1 == (2:Int))=true then
      (Zw a.2 (6:Int)).bind fun i=>
      (idx [(6:Int),(17:Int),(1:Int),(0:Int),(7:Int),(255:Int)] i.1).bind fun j=>
      some (i.2,({ b with x2:=(Zb.mk j j) }:ZB))
     else
      if (a.1 == (3:Int))=true then
       (Zdx a.2 (65535:Int)).bind fun k=>
       some (k.2,({ b with x3:=k.1 }:ZB))
      else
       (Zdx a.2 (65535:Int)).bind fun l=>
       some (l.2,({ b with x4:=l.1 }:ZB))).bind fun n=>
   match n with
   | (o,p)=>
    Zcz m o p (IntKind.wrap .i64 (d - (1:Int)))
  else
   some (c,b)
def Zgz (b:Zf):Option (ZB × Zf):=
 (Ze6).bind fun c=>
 (Zw b (3:Int)).bind fun a=>
 (Zcz fuel a.2 c (IntKind.wrap .i64 ((1:Int) + a.1))).bind fun d=>
 match d with
 | (f,g)=>
  some (g,f)
def Zcc (d:Bool):Nat→Zf→ZL→Int→Option (Zf × ZL)
 | 0,_,_,_=>none
 | l+1,f,b,g=>
  if (decide (g > (0:Int)))=true then
   ((Zgz f).bind fun a=>
   ((some d).bind fun m=>
   (if m=true then
    (Zw a.2 (8:Int)).bind fun i=>
    some ((i.1 == (7:Int)),i.2)
    else some (false,a.2)).bind fun c=>
   if c.1=true then
    (Zdr c.2 a.1).bind fun j=>
    some (j.2,j.1)
   else
    some (c.2,a.1)).bind fun n=>
   match n with
   | (o,k)=>
    if List.length b + List.length [k]≤lim then
    some (o,(b++[k]))
    else none).bind fun p=>
   match p with
   | (q,r)=>
    Zcc d l q r (IntKind.wrap .i64 (g - (1:Int)))
  else
   some (f,b)
def Zeu (b:Zf) (c:Int) (d:Bool):Option (ZL × Zf):=
 (Zw b (IntKind.wrap .i64 (c + (1:Int)))).bind fun a=>
 (Zcc d fuel a.2 ([]:ZL) a.1).bind fun f=>
 match f with
 | (g,i)=>
  some (i,g)
def Zht (c:Int) (a:Bool) (b:Bool):Option Bool:=
 if (c == (0:Int))=true then
  (some a).bind fun d=>
  some (d || b)
 else
  if (c == (1:Int))=true then
   (some a).bind fun f=>
   some (f && b)
  else
   if (c == (2:Int))=true then
    (some a).bind fun g=>
    some (g && (!b))
   else
    some (!(a == b))
def Zib (b:Int) (a:Bool) (c:Bool):Option Bool:=
 if (b == (1:Int))=true then
  (some (!a)).bind fun d=>
  some (d || (!c))
 else
  if (b == (2:Int))=true then
   some (!a)
  else
   (some (!a)).bind fun f=>
   some (f && (!c))
def Zdy (b:ZL) (a:Int):Nat→(List Zb)→Int→Option (List Zb)
 | 0,_,_=>none
 | g+1,c,d=>
  if (decide (d<(List.length b:Int)))=true then
   (idx b d).bind fun f=>
   if 0≤a∧a<5 then
   if List.length c + List.length [(Arr5.get f a)]≤lim then
   Zdy b a g (c++[(Arr5.get f a)]) (IntKind.wrap .i64 (d + (1:Int)))
   else none
   else none
  else
   some c
def Zdz (b:ZL) (a:Int):Nat→(List Zb)→Int→Option (List Zb)
 | 0,_,_=>none
 | g+1,c,d=>
  if (decide (d<(List.length b:Int)))=true then
   (idx b d).bind fun f=>
   if 0≤a∧a<5 then
   if List.length c + List.length [(Arr5.get f a)]≤lim then
   Zdz b a g (c++[(Arr5.get f a)]) (IntKind.wrap .i64 (d + (1:Int)))
   else none
   else none
  else
   some c
def Zhd (b:ZL) (c:ZL) (a:Int):Option (List Zb):=
 (Zdy b a fuel ([]:(List Zb)) (0:Int)).bind fun d=>
  (Zdz c a fuel d (0:Int)).bind fun f=>
   some f
def Zd0 (b:(List Int)) (c:Int):Nat→Int→Option Int
 | 0,_=>none
 | d+1,a=>
  (some (decide (a<(List.length b:Int)))).bind fun f=>
  (if f=true then
   (idx b a).bind fun g=>
   some (decide (g<c))
   else some false).bind fun i=>
  if i=true then
   Zd0 b c d (IntKind.wrap .i64 (a + (1:Int)))
  else
   some a
def Zf5 (a:(List Int)) (c:Int) (d:Int):Option (List Int):=
 if (decide (c > (IntKind.wrap .u64 d)))=true then
  some a
 else
  (Zd0 a c fuel (0:Int)).bind fun b=>
   (some (decide (b<(List.length a:Int)))).bind fun f=>
   (if f=true then
    (idx a b).bind fun g=>
    some (g == c)
    else some false).bind fun i=>
   if i=true then
    some a
   else
    if 0≤(0:Int)∧(0:Int)≤b∧b≤(List.length a:Int) then
    if List.length ([]:(List Int)) + List.length (List.drop (Int.toNat (0:Int)) (List.take (Int.toNat b) a))≤lim then
    if List.length (([]:(List Int))++(List.drop (Int.toNat (0:Int)) (List.take (Int.toNat b) a))) + List.length [c]≤lim then
    if 0≤b∧b≤(List.length a:Int)∧(List.length a:Int)≤(List.length a:Int) then
    if List.length ((([]:(List Int))++(List.drop (Int.toNat (0:Int)) (List.take (Int.toNat b) a)))++[c]) + List.length (List.drop (Int.toNat b) (List.take (Int.toNat (List.length a:Int)) a))≤lim then
    some (((([]:(List Int))++(List.drop (Int.toNat (0:Int)) (List.take (Int.toNat b) a)))++[c])++(List.drop (Int.toNat b) (List.take (Int.toNat (List.length a:Int)) a)))
    else none
    else none
    else none
    else none
    else none
def Zd1 (a:(List Zb)) (c:Int):Nat→(List Int)→Int→Option (List Int)
 | 0,_,_=>none
 | f+1,d,b=>
  if (decide (b<(List.length a:Int)))=true then
   ((idx a b).bind fun g=>
   (idx a b).bind fun i=>
   if (decide (g.Lo≤i.Hi))=true then
    (idx a b).bind fun j=>
    (Zf5 d (IntKind.wrap .u64 j.Lo) c).bind fun k=>
    (idx a b).bind fun l=>
    (Zf5 k (IntKind.wrap .u64 ((IntKind.wrap .u64 l.Hi) + (1:Int))) c).bind fun m=>
    some m
   else
    some d).bind fun n=>
    Zd1 a c f n (IntKind.wrap .i64 (b + (1:Int)))
  else
   some d
def Zhe (a:(List Zb)) (b:Int):Option (List Int):=
 (Zd1 a b fuel [(0:Int)] (0:Int)).bind fun c=>
  some c
def Zfk (b:ZL) (a:Int) (f:Int):Nat→ZL→Int→Option ZL
 | 0,_,_=>none
 | i+1,d,c=>
  if (decide (c<(List.length b:Int)))=true then
   ((idx b c).bind fun j=>
   if 0≤a∧a<5 then
   (some (decide ((IntKind.wrap .u64 (Arr5.get j a).Lo)≤f))).bind fun k=>
   (if k=true then
    (idx b c).bind fun l=>
    if 0≤a∧a<5 then
    some (decide (f≤(IntKind.wrap .u64 (Arr5.get l a).Hi)))
    else none
    else some false).bind fun m=>
   if m=true then
    (idx b c).bind fun g=>
    if List.length d + List.length [g]≤lim then
    some (d++[g])
    else none
   else
    some d
   else none).bind fun n=>
    Zfk b a f i n (IntKind.wrap .i64 (c + (1:Int)))
  else
   some d
def Zic (a:ZL) (b:Int) (c:Int):Option ZL:=
 (Zfk a b c fuel ([]:ZL) (0:Int)).bind fun d=>
  some d
def Zel (b:ZL) (c:ZL):Nat→Int→Option (Unit ⊕ Bool)
 | 0,_=>none
 | d+1,a=>
  if (decide (a<(List.length b:Int)))=true then
   (idx b a).bind fun f=>
   (idx c a).bind fun g=>
   if (!(Zer f g))=true then
    some (.inr false)
   else
    Zel b c d (IntKind.wrap .i64 (a + (1:Int)))
  else
   some (.inl ())
def Zf6 (a:ZL) (b:ZL):Option Bool:=
 if ((List.length a:Int) != (List.length b:Int))=true then
  some false
 else
  (Zel a b fuel (0:Int)).bind fun(c:(Unit ⊕ Bool))=>
  match c with
  | .inl ()=>
    some true
  | .inr d=>
    some d
def Zea (a:Int) (d:Int):Nat→ZL→Int→Option ZL
 | 0,_,_=>none
 | g+1,b,c=>
  if (decide (c<(List.length b:Int)))=true then
   (idx b c).bind fun f=>
   if 0≤a∧a<5 then
   Zea a d g (List.set b (Int.toNat c) (Arr5.set f a ({ (Arr5.get f a) with Hi:=(IntKind.wrap .u32 d) }:Zb))) (IntKind.wrap .i64 (c + (1:Int)))
   else none
  else
   some b
def Zdg (a:Int) (g:(List Int)) (i:Int) (b:Int) (c:ZL):Nat→ZL→Int→Option ZL
 | 0,_,_=>none
 | l+1,d,f=>
  if (decide (f<(List.length c:Int)))=true then
   (idx c f).bind fun j=>
   (idx g i).bind fun k=>
   if 0≤a∧a<5 then
   if List.length d + List.length [(Arr5.set j a (Zb.mk (IntKind.wrap .u32 k) (IntKind.wrap .u32 b)))]≤lim then
   Zdg a g i b c l (d++[(Arr5.set j a (Zb.mk (IntKind.wrap .u32 k) (IntKind.wrap .u32 b)))]) (IntKind.wrap .i64 (f + (1:Int)))
   else none
   else none
  else
   some d
def Zeb (g:ZL) (i:ZL) (j:Int) (b:Int) (k:ZL→ZL→Int→Int→Option ZL) (c:(List Int)):Nat→ZL→ZL→Int→Option ZL
 | 0,_,_,_=>none
 | n+1,f,l,a=>
  if (decide (a<(List.length c:Int)))=true then
   ((Zgv b).bind fun o=>
   (if (decide ((IntKind.wrap .i64 (a + (1:Int)))<(List.length c:Int)))=true then
    (idx c (IntKind.wrap .i64 (a + (1:Int)))).bind fun p=>
    some (IntKind.wrap .u64 (p - (1:Int)))
   else
    some (IntKind.wrap .u64 o)).bind fun m=>
    (idx c a).bind fun q=>
    (Zic g b q).bind fun r=>
    (idx c a).bind fun s=>
    (Zic i b s).bind fun t=>
    (k r t j (IntKind.wrap .i64 (b + (1:Int)))).bind fun d=>
    (some (decide (a > (0:Int)))).bind fun u=>
    (some (u && (decide ((List.length d:Int) > (0:Int))))).bind fun v=>
    (if v=true then
     (Zf6 d l).bind fun w=>
     some w
     else some false).bind fun x=>
    if x=true then
     (Zea b m fuel f (IntKind.wrap .i64 ((List.length f:Int) - (List.length d:Int)))).bind fun y=>
      some (y,l)
    else
     (Zdg b c a m d fuel f (0:Int)).bind fun z=>
      some (z,d)).bind fun a0=>
   match a0 with
   | (a1,a2)=>
    Zeb g i j b k c n a1 a2 (IntKind.wrap .i64 (a + (1:Int)))
  else
   some f
def Zbr:Nat→ZL→ZL→Int→Int→Option ZL
 | 0,_,_,_,_=>none
 | nr+1,a,b,d,c=>
  if (c == (5:Int))=true then
   (Zht d (decide ((List.length a:Int) > (0:Int))) (decide ((List.length b:Int) > (0:Int)))).bind fun f=>
   if f=true then
    some [(Arr5.mk Zq Zq Zq Zq Zq)]
   else
    some ([]:ZL)
  else
   (Zib d (decide ((List.length a:Int) > (0:Int))) (decide ((List.length b:Int) > (0:Int)))).bind fun g=>
   if g=true then
    some ([]:ZL)
   else
    (Zhd a b c).bind fun i=>
    (Zgv c).bind fun j=>
    (Zhe i j).bind fun k=>
    (Zeb a b d c (Zbr nr) k fuel ([]:ZL) ([]:ZL) (0:Int)).bind fun l=>
     some l
def Zem (a:ZL):Option (ZL × Int):=
 if (decide ((List.length a:Int) > (4096:Int)))=true then
  some (([]:ZL),(3:Int))
 else
  some (a,(0:Int))
def Zen (b:ZL):Nat→ZL→Int→Option (ZL ⊕ (ZL × Int))
 | 0,_,_=>none
 | f+1,c,a=>
  if (decide (a<(List.length b:Int)))=true then
   ((idx b a).bind fun g=>
   (Zes g).bind fun i=>
   if (!i)=true then
    some (.inl c)
   else
    if 0≤a∧a≤(IntKind.wrap .i64 (a + (1:Int)))∧(IntKind.wrap .i64 (a + (1:Int)))≤(List.length b:Int) then
    (Zbr fuel c (List.drop (Int.toNat a) (List.take (Int.toNat (IntKind.wrap .i64 (a + (1:Int)))) b)) (0:Int) (0:Int)).bind fun j=>
    (Zem j).bind fun d=>
    if (d.2 != (0:Int))=true then
     some (.inr (([]:ZL),d.2))
    else
     some (.inl d.1)
    else none).bind fun(k:(ZL ⊕ (ZL × Int)))=>
   match k with
   | .inl l=>
     Zen b f l (IntKind.wrap .i64 (a + (1:Int)))
   | .inr m=>
     some (.inr m)
  else
   some (.inl c)
def Zhb (a:ZL):Option (ZL × Int):=
 (Zen a fuel ([]:ZL) (0:Int)).bind fun(b:(ZL ⊕ (ZL × Int)))=>
 match b with
 | .inl c=>
   some (c,(0:Int))
 | .inr d=>
   some d
def Zg0 (b:Zf) (c:Int):Option (ZL × Zf):=
 (Zeu b c false).bind fun a=>
 (Zhb a.1).bind fun d=>
 some (d.1,a.2)
def Zda (a:ZB):Option Bool:=
 (Zg8 a).bind fun b=>
 some (!b)
def Z9 (b:Nat) (c:ZL):Nat→Int→Option (Unit ⊕ Int)
 | 0,_=>none
 | d+1,a=>
  if (decide (a<(b:Int)))=true then
   (idxn b c a).bind fun f=>
   (Zda f).bind fun g=>
   if g=true then
    some (.inr a)
   else
    Z9 b c d (IntKind.wrap .i64 (a + (1:Int)))
  else
   some (.inl ())
def Zbs (a:Nat) (b:ZL):Option Int:=
 (Z9 a b fuel (0:Int)).bind fun(c:(Unit ⊕ Int))=>
 match c with
 | .inl ()=>
   some (-1:Int)
 | .inr d=>
   some d
def Z8 (c:Nat):Nat→ZL→Int→Int→Option (ZL × Int)
 | 0,_,_,_=>none
 | g+1,a,b,d=>
  if (decide (d<(c:Int)))=true then
   ((idxn c a d).bind fun f=>
   (Zda f).bind fun i=>
   if (!i)=true then
    (idxn c a b).bind fun _=>
    some ((List.set a (Int.toNat b) f),(IntKind.wrap .i64 (b + (1:Int))))
   else
    some (a,b)).bind fun j=>
   match j with
   | (k,l)=>
    Z8 c g k l (IntKind.wrap .i64 (d + (1:Int)))
  else
   some (a,b)
def Zax (b:Nat) (c:ZL):Option (Nat × ZL):=
 (Zbs b c).bind fun d=>
 if (d == (-1:Int))=true then
  some (b,c)
 else
  (Z8 b fuel c d (IntKind.wrap .i64 (d + (1:Int)))).bind fun g=>
  match g with
  | (f,a)=>
   if 0≤a∧a≤(b:Int)∧(b:Int)≤(b:Int) then
   if Int.toNat a + (Int.toNat (b:Int) - Int.toNat a)≤List.length f then
   if 0≤(0:Int)∧(0:Int)≤a∧a≤(b:Int) then
   some ((Int.toNat a),(List.take (Int.toNat a) f++List.replicate (Int.toNat (b:Int) - Int.toNat a) Zm++List.drop (Int.toNat a + (Int.toNat (b:Int) - Int.toNat a)) f))
   else none
   else none
   else none
def Zbc (b:ZL):Nat→Int→Option (Unit ⊕ Int)
 | 0,_=>none
 | c+1,a=>
  if (decide (a<(List.length b:Int)))=true then
   (idx b a).bind fun d=>
   (Zda d).bind fun f=>
   if f=true then
    some (.inr a)
   else
    Zbc b c (IntKind.wrap .i64 (a + (1:Int)))
  else
   some (.inl ())
def Zcq (a:ZL):Option Int:=
 (Zbc a fuel (0:Int)).bind fun(b:(Unit ⊕ Int))=>
 match b with
 | .inl ()=>
   some (-1:Int)
 | .inr c=>
   some c
def Zay:Nat→Int→Int→Option Int
 | 0,_,_=>none
 | c+1,b,a=>
  if (decide (a<(List.length ([]:ZL):Int)))=true then
   ((idx ([]:ZL) a).bind fun d=>
   (Zda d).bind fun f=>
   if (!f)=true then
    none
   else
    some ()).bind fun g=>
   match g with
   | ()=>
    Zay c b (IntKind.wrap .i64 (a + (1:Int)))
  else
   some b
def Zb7:Option ZL:=
 (Zcq ([]:ZL)).bind fun a=>
 if (a == (-1:Int))=true then
  some ([]:ZL)
 else
  (Zay fuel a (IntKind.wrap .i64 (a + (1:Int)))).bind fun _=>
   none
def Zft (a:ZL):Option ZL:=
 if List.length a≤lim then
 (handB a (Zax (List.length a) a) (Zb7)).bind fun b=>
 some (List.take b.1 b.2)
 else none
def Zby (d:Int) (b:Int):Nat→ZL→Int→Option ZL
 | 0,_,_=>none
 | f+1,c,a=>
  if (decide (a≤d))=true then
   (idx c b).bind fun g=>
   if 0≤a∧a<5 then
   Zby d b f (List.set c (Int.toNat b) (Arr5.set g a (Zb.mk (0:Int) (0:Int)))) (IntKind.wrap .i64 (a + (1:Int)))
   else none
  else
   some c
def Zdn (b:Int) (c:ZL):Nat→ZL→Int→Option ZL
 | 0,_,_=>none
 | f+1,d,a=>
  if (decide (a<(List.length c:Int)))=true then
   (Zby b a fuel d (0:Int)).bind fun g=>
    Zdn b c f g (IntKind.wrap .i64 (a + (1:Int)))
  else
   some d
def Zg1 (b:Int) (a:ZL):Option ZL:=
 if List.length a≤lim then
 (Zdn b a fuel a (0:Int)).bind fun c=>
  some c
 else none
def Za3 (b:ZL) (c:ZL):Nat→Int→Option (Unit ⊕ Bool)
 | 0,_=>none
 | d+1,a=>
  if (decide (a<(List.length b:Int)))=true then
   (idx b a).bind fun f=>
   (idx c a).bind fun g=>
   if (!(Zer f g))=true then
    some (.inr false)
   else
    Za3 b c d (IntKind.wrap .i64 (a + (1:Int)))
  else
   some (.inl ())
def Zaq (a:ZL) (b:ZL):Option Bool:=
 if ((List.length a:Int) != (List.length b:Int))=true then
  some false
 else
  (Za3 a b fuel (0:Int)).bind fun(c:(Unit ⊕ Bool))=>
  match c with
  | .inl ()=>
    some true
  | .inr d=>
    some d
def Zc4 (a:Int) (b:ZL):Nat→Int→Option Int
 | 0,_=>none
 | d+1,c=>
  (some (decide (c<(List.length b:Int)))).bind fun f=>
  (if f=true then
   (idx b c).bind fun g=>
   if 0≤a∧a<5 then
   (idx b (0:Int)).bind fun i=>
   if 0≤a∧a<5 then
   some (Zdp (Arr5.get g a) (Arr5.get i a))
   else none
   else none
   else some false).bind fun j=>
  if j=true then
   Zc4 a b d (IntKind.wrap .i64 (c + (1:Int)))
  else
   some c
def Zcd (b:Int) (g:Int→ZL→Option Bool):Nat→Zg→ZL→Option (Zg ⊕ Bool)
 | 0,_,_=>none
 | j+1,d,a=>
  if (decide ((List.length a:Int) > (0:Int)))=true then
   (Zc4 b a fuel (1:Int)).bind fun c=>
    (idx a (0:Int)).bind fun f=>
    if 0≤b∧b<5 then
    if 0≤(0:Int)∧(0:Int)≤c∧c≤(List.length a:Int) then
    (Zg1 b (List.drop (Int.toNat (0:Int)) (List.take (Int.toNat c) a))).bind fun i=>
    if 0≤(0:Int)∧(0:Int)≤c∧c≤(List.length a:Int) then
    (g (IntKind.wrap .i64 (b + (1:Int))) (List.drop (Int.toNat (0:Int)) (List.take (Int.toNat c) a))).bind fun k=>
    if (!k)=true then
     some (.inr false)
    else
     (if (decide ((List.length d.f_rest:Int) > (0:Int)))=true then
      (some (decide ((Arr5.get f b).Lo≤d.f_values.Hi))).bind fun l=>
      (if l=true then some true else
       (some ((Arr5.get f b).Lo == (IntKind.wrap .u32 (d.f_values.Hi + (1:Int))))).bind fun m=>
       (if m=true then
        (Zaq i d.f_rest).bind fun n=>
        some n
        else some false).bind fun o=>
       some o
       ).bind fun p=>
      if p=true then
       some (.inr false)
      else
       some (.inl ())
     else
      some (.inl ())).bind fun(q:(Unit ⊕ Bool))=>
     match q with
     | .inl ()=>
       if 0≤c∧c≤(List.length a:Int)∧(List.length a:Int)≤(List.length a:Int) then
       Zcd b g j (Zg.mk (Arr5.get f b) i) (List.drop (Int.toNat c) (List.take (Int.toNat (List.length a:Int)) a))
       else none
     | .inr r=>
       some (.inr r)
    else none
    else none
    else none
  else
   some (.inl d)
def Zbp:Nat→Int→ZL→Option Bool
 | 0,_,_=>none
 | nr+1,a,b=>
  if (a == (5:Int))=true then
   some (decide ((List.length b:Int)≤(1:Int)))
  else
   (Zcd a (Zbp nr) fuel Zgy b).bind fun(c:(Zg ⊕ Bool))=>
   match c with
   | .inl _=>
     some true
   | .inr d=>
     some d
def Zeo (a:ZL):Option Bool:=
 (some (decide ((List.length a:Int)≤(4096:Int)))).bind fun b=>
 (if b=true then
  (Zft a).bind fun c=>
  some ((List.length c:Int) == (List.length a:Int))
  else some false).bind fun d=>
 (some d).bind fun f=>
 (if f=true then
  (Zbp fuel (0:Int) a).bind fun g=>
  some g
  else some false).bind fun i=>
 some i
def Ze8 (a:Bool) (b:Bool):Option Bool:=
 (some a).bind fun c=>
 some (c || b)
def Zi2 (a:Int):Option Int:=
 (some (decide (a<(0:Int)))).bind fun b=>
 if (b || (decide (a ≥ (5:Int))))=true then
  some (0:Int)
 else
  if 0≤a∧a<5 then
  some (Arr5.get Za7 a)
  else none
def Zh8 (a:Int):Option Int:=
 (if (decide (a ≥ (4294967296:Int)))=true then
  some ((bShr .u64 a (32:Int)),(32:Int))
 else
  some (a,(0:Int))).bind fun g=>
 match g with
 | (b,d)=>
  (if (decide (b ≥ (65536:Int)))=true then
   some ((bShr .u64 b (16:Int)),(IntKind.wrap .i64 (d + (16:Int))))
  else
   some (b,d)).bind fun i=>
  match i with
  | (c,f)=>
   (if (decide (c ≥ (256:Int)))=true then
    some ((bShr .u64 c (8:Int)),(IntKind.wrap .i64 (f + (8:Int))))
   else
    some (c,f)).bind fun j=>
   match j with
   | (k,l)=>
    (sidx ⟨#[0,1,2,2,3,3,3,3,4,4,4,4,4,4,4,4,5,5,5,5,5,5,5,5,5,5,5,5,5,5,5,5,6,6,6,6,6,6,6,6,6,6,6,6,6,6,6,6,6,6,6,6,6,6,6,6,6,6,6,6,6,6,6,6,7,7,7,7,7,7,7,7,7,7,7,7,7,7,7,7,7,7,7,7,7,7,7,7,7,7,7,7,7,7,7,7,7,7,7,7,7,7,7,7,7,7,7,7,7,7,7,7,7,7,7,7,7,7,7,7,7,7,7,7,7,7,7,7,8,8,8,8,8,8,8,8,8,8,8,8,8,8,8,8,8,8,8,8,8,8,8,8,8,8,8,8,8,8,8,8,8,8,8,8,8,8,8,8,8,8,8,8,8,8,8,8,8,8,8,8,8,8,8,8,8,8,8,8,8,8,8,8,8,8,8,8,8,8,8,8,8,8,8,8,8,8,8,8,8,8,8,8,8,8,8,8,8,8,8,8,8,8,8,8,8,8,8,8,8,8,8,8,8,8,8,8,8,8,8,8,8,8,8,8,8,8,8,8,8,8,8,8,8,8,8,8]⟩ (IntKind.wrap .u8 k)).bind fun m=>
    some (IntKind.wrap .i64 (l + (IntKind.wrap .i64 m)))
def Zgm (a:Int):Option Int:=
 (Zh8 a).bind fun b=>
 some b
def Zgf (a:Int):Option Bool:=
 some (a != a)
def Zae (a:Int) (b:Int):Option Bool:=
 (Zgf a).bind fun c=>
 (some c).bind fun d=>
 (if d=true then
  (Zgf b).bind fun f=>
  some (!f)
  else some false).bind fun g=>
 (some g).bind fun i=>
 some (i || (decide (a<b)))
def Zam (c:Nat) (d:Int):Nat→(List Int)→Int→Option (List Int)
 | 0,_,_=>none
 | g+1,b,a=>
  (some (decide (a > d))).bind fun i=>
  (if i=true then
   (idxn c b a).bind fun j=>
   (idxn c b (IntKind.wrap .i64 (a - (1:Int)))).bind fun k=>
   (Zae j k).bind fun l=>
   some l
   else some false).bind fun m=>
  if m=true then
   (idxn c b (IntKind.wrap .i64 (a - (1:Int)))).bind fun f=>
   (idxn c b a).bind fun n=>
   (idxn c b a).bind fun _=>
   (idxn c (List.set b (Int.toNat a) f) (IntKind.wrap .i64 (a - (1:Int)))).bind fun _=>
   Zam c d g (List.set (List.set b (Int.toNat a) f) (Int.toNat (IntKind.wrap .i64 (a - (1:Int)))) n) (IntKind.wrap .i64 (a - (1:Int)))
  else
   some b
def Zan (b:Nat) (c:Int) (d:Int):Nat→(List Int)→Int→Option (List Int)
 | 0,_,_=>none
 | g+1,f,a=>
  if (decide (a<d))=true then
   (Zam b c fuel f a).bind fun i=>
    Zan b c d g i (IntKind.wrap .i64 (a + (1:Int)))
  else
   some f
def Zb3 (b:Nat) (c:(List Int)) (a:Int) (d:Int):Option (List Int):=
 (Zan b a d fuel c (IntKind.wrap .i64 (a + (1:Int)))).bind fun f=>
  some f
def Zai (d:Nat) (g:Int) (a:Int):Nat→(List Int)→Int→Option ((List Int) ⊕ (List Int))
 | 0,_,_=>none
 | j+1,b,c=>
  if (decide ((IntKind.wrap .i64 ((IntKind.wrap .i64 ((2:Int) * c)) + (1:Int))) ≥ g))=true then
   some (.inl b)
  else
   ((some (decide ((IntKind.wrap .i64 ((IntKind.wrap .i64 ((IntKind.wrap .i64 ((2:Int) * c)) + (1:Int))) + (1:Int)))<g))).bind fun k=>
   (if k=true then
    (idxn d b (IntKind.wrap .i64 (a + (IntKind.wrap .i64 ((IntKind.wrap .i64 ((2:Int) * c)) + (1:Int)))))).bind fun l=>
    (idxn d b (IntKind.wrap .i64 ((IntKind.wrap .i64 (a + (IntKind.wrap .i64 ((IntKind.wrap .i64 ((2:Int) * c)) + (1:Int))))) + (1:Int)))).bind fun m=>
    (Zae l m).bind fun n=>
    some n
    else some false).bind fun o=>
   if o=true then
    some (IntKind.wrap .i64 ((IntKind.wrap .i64 ((IntKind.wrap .i64 ((2:Int) * c)) + (1:Int))) + (1:Int)))
   else
    some (IntKind.wrap .i64 ((IntKind.wrap .i64 ((2:Int) * c)) + (1:Int)))).bind fun f=>
    (idxn d b (IntKind.wrap .i64 (a + c))).bind fun p=>
    (idxn d b (IntKind.wrap .i64 (a + f))).bind fun q=>
    (Zae p q).bind fun r=>
    if (!r)=true then
     some (.inr b)
    else
     (idxn d b (IntKind.wrap .i64 (a + f))).bind fun i=>
     (idxn d b (IntKind.wrap .i64 (a + c))).bind fun s=>
     (idxn d b (IntKind.wrap .i64 (a + c))).bind fun _=>
     (idxn d (List.set b (Int.toNat (IntKind.wrap .i64 (a + c))) i) (IntKind.wrap .i64 (a + f))).bind fun _=>
     Zai d g a j (List.set (List.set b (Int.toNat (IntKind.wrap .i64 (a + c))) i) (Int.toNat (IntKind.wrap .i64 (a + f))) s) f
def Zb2 (a:Nat) (b:(List Int)) (c:Int) (d:Int) (f:Int):Option (List Int):=
 (Zai a d f fuel b c).bind fun(g:((List Int) ⊕ (List Int)))=>
 match g with
 | .inl i=>
   some i
 | .inr j=>
   some j
def Za0 (c:Nat) (a:Int) (d:Int):Nat→(List Int)→Int→Option (List Int)
 | 0,_,_=>none
 | g+1,f,b=>
  if (decide (b ≥ (0:Int)))=true then
   (Zb2 c f b (IntKind.wrap .i64 (d - a)) a).bind fun i=>
   Za0 c a d g i (IntKind.wrap .i64 (b - (1:Int)))
  else
   some f
def Za1 (b:Nat) (a:Int):Nat→(List Int)→Int→Option (List Int)
 | 0,_,_=>none
 | g+1,c,d=>
  if (decide (d ≥ (0:Int)))=true then
   (idxn b c (IntKind.wrap .i64 (a + d))).bind fun f=>
   (idxn b c a).bind fun i=>
   (idxn b c a).bind fun _=>
   (idxn b (List.set c (Int.toNat a) f) (IntKind.wrap .i64 (a + d))).bind fun _=>
   (Zb2 b (List.set (List.set c (Int.toNat a) f) (Int.toNat (IntKind.wrap .i64 (a + d))) i) (0:Int) d a).bind fun j=>
   Za1 b a g j (IntKind.wrap .i64 (d - (1:Int)))
  else
   some c
def Zcr (c:Nat) (d:(List Int)) (a:Int) (b:Int):Option (List Int):=
 (Za0 c a b fuel d (IntKind.wrap .i64 (Int.tdiv (IntKind.wrap .i64 ((IntKind.wrap .i64 (b - a)) - (1:Int))) (2:Int)))).bind fun f=>
  (Za1 c a fuel f (IntKind.wrap .i64 ((IntKind.wrap .i64 (b - a)) - (1:Int)))).bind fun g=>
   some g
def Zfy (b:Int):Option Int:=
 (Zgm (IntKind.wrap .u64 b)).bind fun a=>
 if 0≤a then
 some (bShl .u64 (1:Int) a)
 else none
def Zex (a:Int):Option (Int × Int):=
 some ((bXor .u64 (bXor .u64 (bXor .u64 a (bShl .u64 a (13:Int))) (bShr .u64 (bXor .u64 a (bShl .u64 a (13:Int))) (7:Int))) (bShl .u64 (bXor .u64 (bXor .u64 a (bShl .u64 a (13:Int))) (bShr .u64 (bXor .u64 a (bShl .u64 a (13:Int))) (7:Int))) (17:Int))),(bXor .u64 (bXor .u64 (bXor .u64 a (bShl .u64 a (13:Int))) (bShr .u64 (bXor .u64 a (bShl .u64 a (13:Int))) (7:Int))) (bShl .u64 (bXor .u64 (bXor .u64 a (bShl .u64 a (13:Int))) (bShr .u64 (bXor .u64 a (bShl .u64 a (13:Int))) (7:Int))) (17:Int))))
def Zy (d:Nat) (a:Int) (f:Int) (g:Int):Nat→(List Int)→Int→Int→Option ((List Int) × Int)
 | 0,_,_,_=>none
 | m+1,b,k,c=>
  if (decide (c≤(IntKind.wrap .i64 ((IntKind.wrap .i64 (a + (IntKind.wrap .i64 ((IntKind.wrap .i64 (Int.tdiv (IntKind.wrap .i64 (f - a)) (4:Int))) * (2:Int))))) + (1:Int)))))=true then
   ((Zex k).bind fun i=>
   (if (decide ((IntKind.wrap .i64 (bAnd .u64 i.1 (IntKind.wrap .u64 (g - (1:Int))))) ≥ (IntKind.wrap .i64 (f - a))))=true then
    some (IntKind.wrap .i64 ((IntKind.wrap .i64 (bAnd .u64 i.1 (IntKind.wrap .u64 (g - (1:Int))))) - (IntKind.wrap .i64 (f - a))))
   else
    some (IntKind.wrap .i64 (bAnd .u64 i.1 (IntKind.wrap .u64 (g - (1:Int)))))).bind fun j=>
    (idxn d b (IntKind.wrap .i64 (a + j))).bind fun l=>
    (idxn d b c).bind fun n=>
    (idxn d b c).bind fun _=>
    (idxn d (List.set b (Int.toNat c) l) (IntKind.wrap .i64 (a + j))).bind fun _=>
    some ((List.set (List.set b (Int.toNat c) l) (Int.toNat (IntKind.wrap .i64 (a + j))) n),i.2)).bind fun o=>
   match o with
   | (p,q)=>
    Zy d a f g m p q (IntKind.wrap .i64 (c + (1:Int)))
  else
   some (b,k)
def Zbb (d:Nat) (c:(List Int)) (a:Int) (b:Int):Option (List Int):=
 if (decide ((IntKind.wrap .i64 (b - a)) ≥ (8:Int)))=true then
  (Zfy (IntKind.wrap .i64 (b - a))).bind fun f=>
  (Zy d a b f fuel c (IntKind.wrap .u64 (IntKind.wrap .i64 (b - a))) (IntKind.wrap .i64 ((IntKind.wrap .i64 (a + (IntKind.wrap .i64 ((IntKind.wrap .i64 (Int.tdiv (IntKind.wrap .i64 (b - a)) (4:Int))) * (2:Int))))) - (1:Int)))).bind fun g=>
  match g with
  | (i,_)=>
   some i
 else
  some c
def Zbo (c:Nat) (d:(List Int)) (a:Int) (b:Int) (f:Int):Option (Int × Int × Int):=
 (idxn c d b).bind fun g=>
 (idxn c d a).bind fun i=>
 (Zae g i).bind fun j=>
 if j=true then
  some (b,a,(IntKind.wrap .i64 (f + (1:Int))))
 else
  some (a,b,f)
def Zcb (a:Nat) (b:(List Int)) (g:Int) (i:Int) (j:Int) (k:Int):Option (Int × Int):=
 (Zbo a b g i k).bind fun c=>
 (Zbo a b c.2.1 j c.2.2).bind fun d=>
 (Zbo a b c.1 d.1 d.2.2).bind fun f=>
 some (f.2.1,f.2.2)
def Zas (c:Nat) (d:(List Int)) (a:Int) (f:Int):Option (Int × Int):=
 (Zcb c d (IntKind.wrap .i64 (a - (1:Int))) a (IntKind.wrap .i64 (a + (1:Int))) f).bind fun b=>
 some (b.1,b.2)
def Zca (c:Nat) (d:(List Int)) (a:Int) (b:Int):Option (Int × Int):=
 (if (decide ((IntKind.wrap .i64 (b - a)) ≥ (8:Int)))=true then
  (if (decide ((IntKind.wrap .i64 (b - a)) ≥ (50:Int)))=true then
   (Zas c d (IntKind.wrap .i64 (a + (IntKind.wrap .i64 ((IntKind.wrap .i64 (Int.tdiv (IntKind.wrap .i64 (b - a)) (4:Int))) * (1:Int))))) (0:Int)).bind fun g=>
   (Zas c d (IntKind.wrap .i64 (a + (IntKind.wrap .i64 ((IntKind.wrap .i64 (Int.tdiv (IntKind.wrap .i64 (b - a)) (4:Int))) * (2:Int))))) g.2).bind fun i=>
   (Zas c d (IntKind.wrap .i64 (a + (IntKind.wrap .i64 ((IntKind.wrap .i64 (Int.tdiv (IntKind.wrap .i64 (b - a)) (4:Int))) * (3:Int))))) i.2).bind fun j=>
   some (j.2,g.1,i.1,j.1)
  else
   some ((0:Int),(IntKind.wrap .i64 (a + (IntKind.wrap .i64 ((IntKind.wrap .i64 (Int.tdiv (IntKind.wrap .i64 (b - a)) (4:Int))) * (1:Int))))),(IntKind.wrap .i64 (a + (IntKind.wrap .i64 ((IntKind.wrap .i64 (Int.tdiv (IntKind.wrap .i64 (b - a)) (4:Int))) * (2:Int))))),(IntKind.wrap .i64 (a + (IntKind.wrap .i64 ((IntKind.wrap .i64 (Int.tdiv (IntKind.wrap .i64 (b - a)) (4:Int))) * (3:Int))))))).bind fun m=>
  match m with
  | (n,o,p,q)=>
   (Zcb c d o p q n).bind fun k=>
   some (k.2,k.1)
 else
  some ((0:Int),(IntKind.wrap .i64 (a + (IntKind.wrap .i64 ((IntKind.wrap .i64 (Int.tdiv (IntKind.wrap .i64 (b - a)) (4:Int))) * (2:Int))))))).bind fun r=>
 match r with
 | (l,f)=>
  if (l == (0:Int))=true then
   some (f,(1:Int))
  else
   if (l == (12:Int))=true then
    some (f,(2:Int))
   else
    some (f,(0:Int))
def Zao (c:Nat):Nat→(List Int)→Int→Int→Option (List Int)
 | 0,_,_,_=>none
 | g+1,a,b,d=>
  if (decide (b<d))=true then
   (idxn c a d).bind fun f=>
   (idxn c a b).bind fun i=>
   (idxn c a b).bind fun _=>
   (idxn c (List.set a (Int.toNat b) f) d).bind fun _=>
   Zao c g (List.set (List.set a (Int.toNat b) f) (Int.toNat d) i) (IntKind.wrap .i64 (b + (1:Int))) (IntKind.wrap .i64 (d - (1:Int)))
  else
   some a
def Zbf (a:Nat) (b:(List Int)) (c:Int) (d:Int):Option (List Int):=
 (Zao a fuel b c (IntKind.wrap .i64 (d - (1:Int)))).bind fun f=>
  some f
def Zaa (b:Nat) (d:Int) (c:(List Int)):Nat→Int→Option Int
 | 0,_=>none
 | f+1,a=>
  (some (decide (a<d))).bind fun g=>
  (if g=true then
   (idxn b c a).bind fun i=>
   (idxn b c (IntKind.wrap .i64 (a - (1:Int)))).bind fun j=>
   (Zae i j).bind fun k=>
   some (!k)
   else some false).bind fun l=>
  if l=true then
   Zaa b d c f (IntKind.wrap .i64 (a + (1:Int)))
  else
   some a
def Z7 (c:Nat):Nat→(List Int)→Int→Option (List Int)
 | 0,_,_=>none
 | f+1,b,a=>
  if (decide (a ≥ (1:Int)))=true then
   (idxn c b a).bind fun g=>
   (idxn c b (IntKind.wrap .i64 (a - (1:Int)))).bind fun i=>
   (Zae g i).bind fun j=>
   if (!j)=true then
    some b
   else
    (idxn c b (IntKind.wrap .i64 (a - (1:Int)))).bind fun d=>
    (idxn c b a).bind fun k=>
    (idxn c b a).bind fun _=>
    (idxn c (List.set b (Int.toNat a) d) (IntKind.wrap .i64 (a - (1:Int)))).bind fun _=>
    Z7 c f (List.set (List.set b (Int.toNat a) d) (Int.toNat (IntKind.wrap .i64 (a - (1:Int)))) k) (IntKind.wrap .i64 (a - (1:Int)))
  else
   some b
def Zab (c:Nat) (d:Int):Nat→(List Int)→Int→Option (List Int)
 | 0,_,_=>none
 | g+1,b,a=>
  if (decide (a<d))=true then
   (idxn c b a).bind fun i=>
   (idxn c b (IntKind.wrap .i64 (a - (1:Int)))).bind fun j=>
   (Zae i j).bind fun k=>
   if (!k)=true then
    some b
   else
    (idxn c b (IntKind.wrap .i64 (a - (1:Int)))).bind fun f=>
    (idxn c b a).bind fun l=>
    (idxn c b a).bind fun _=>
    (idxn c (List.set b (Int.toNat a) f) (IntKind.wrap .i64 (a - (1:Int)))).bind fun _=>
    Zab c d g (List.set (List.set b (Int.toNat a) f) (Int.toNat (IntKind.wrap .i64 (a - (1:Int)))) l) (IntKind.wrap .i64 (a + (1:Int)))
  else
   some b
def Zac (c:Nat) (f:Int) (d:Int):Nat→(List Int)→Int→Int→Option ((List Int) ⊕ (Bool × (List Int)))
 | 0,_,_,_=>none
 | l+1,b,m,i=>
  if (decide (i<(5:Int)))=true then
   ((Zaa c d b fuel m).bind fun a=>
    if (a == d)=true then
     some (.inr (true,b))
    else
     if (decide ((IntKind.wrap .i64 (d - f))<(50:Int)))=true then
      some (.inr (false,b))
     else
      (idxn c b (IntKind.wrap .i64 (a - (1:Int)))).bind fun g=>
      (idxn c b a).bind fun j=>
      (idxn c b a).bind fun _=>
      (idxn c (List.set b (Int.toNat a) g) (IntKind.wrap .i64 (a - (1:Int)))).bind fun _=>
      (if (decide ((IntKind.wrap .i64 (a - f)) ≥ (2:Int)))=true then
       (Z7 c fuel (List.set (List.set b (Int.toNat a) g) (Int.toNat (IntKind.wrap .i64 (a - (1:Int)))) j) (IntKind.wrap .i64 (a - (1:Int)))).bind fun n=>
        some n
      else
       some (List.set (List.set b (Int.toNat a) g) (Int.toNat (IntKind.wrap .i64 (a - (1:Int)))) j)).bind fun k=>
       if (decide ((IntKind.wrap .i64 (d - a)) ≥ (2:Int)))=true then
        (Zab c d fuel k (IntKind.wrap .i64 (a + (1:Int)))).bind fun o=>
         some (.inl (o,a))
       else
        some (.inl (k,a))).bind fun(p:(((List Int) × Int) ⊕ (Bool × (List Int))))=>
   match p with
   | .inl (q,r)=>
     Zac c f d l q r (IntKind.wrap .i64 (i + (1:Int)))
   | .inr s=>
     some (.inr s)
  else
   some (.inl b)
def Zap (b:Nat) (c:(List Int)) (a:Int) (d:Int):Option (Bool × (List Int)):=
 (Zac b a d fuel c (IntKind.wrap .i64 (a + (1:Int))) (0:Int)).bind fun(f:((List Int) ⊕ (Bool × (List Int))))=>
 match f with
 | .inl g=>
   some (false,g)
 | .inr i=>
   some i
def Zau (b:Nat) (d:Int) (c:(List Int)) (f:Int):Nat→Int→Option Int
 | 0,_=>none
 | g+1,a=>
  (some (decide (a≤f))).bind fun i=>
  (if i=true then
   (idxn b c d).bind fun j=>
   (idxn b c a).bind fun k=>
   (Zae j k).bind fun l=>
   some (!l)
   else some false).bind fun m=>
  if m=true then
   Zau b d c f g (IntKind.wrap .i64 (a + (1:Int)))
  else
   some a
def Zav (b:Nat) (d:Int) (c:(List Int)) (f:Int):Nat→Int→Option Int
 | 0,_=>none
 | g+1,a=>
  (some (decide (f≤a))).bind fun i=>
  (if i=true then
   (idxn b c d).bind fun j=>
   (idxn b c a).bind fun k=>
   (Zae j k).bind fun l=>
   some l
   else some false).bind fun m=>
  if m=true then
   Zav b d c f g (IntKind.wrap .i64 (a - (1:Int)))
  else
   some a
def Zak (c:Nat) (f:Int):Nat→(List Int)→Int→Int→Option ((List Int) × Int)
 | 0,_,_,_=>none
 | j+1,a,k,g=>
  (Zau c f a g fuel k).bind fun b=>
   (Zav c f a b fuel g).bind fun d=>
    if (decide (b > d))=true then
     some (a,b)
    else
     (idxn c a d).bind fun i=>
     (idxn c a b).bind fun l=>
     (idxn c a b).bind fun _=>
     (idxn c (List.set a (Int.toNat b) i) d).bind fun _=>
     Zak c f j (List.set (List.set a (Int.toNat b) i) (Int.toNat d) l) (IntKind.wrap .i64 (b + (1:Int))) (IntKind.wrap .i64 (d - (1:Int)))
def Zbx (b:Nat) (c:(List Int)) (a:Int) (g:Int) (d:Int):Option (Int × (List Int)):=
 (idxn b c d).bind fun f=>
 (idxn b c a).bind fun i=>
 (idxn b c a).bind fun _=>
 (idxn b (List.set c (Int.toNat a) f) d).bind fun _=>
 (Zak b a fuel (List.set (List.set c (Int.toNat a) f) (Int.toNat d) i) (IntKind.wrap .i64 (a + (1:Int))) (IntKind.wrap .i64 (g - (1:Int)))).bind fun j=>
 match j with
 | (k,l)=>
  some (l,k)
def Zbg (c:Nat) (d:(List Int)) (a:Int) (j:Int) (f:Int) (g:Int) (i:Int):Nat→Int→Option Int
 | 0,_=>none
 | k+1,b=>
  (some (decide (b≤(IntKind.wrap .i64 (j - (1:Int)))))).bind fun l=>
  (if l=true then
   (idxn c (List.set (List.set d (Int.toNat a) g) (Int.toNat f) i) b).bind fun m=>
   (idxn c (List.set (List.set d (Int.toNat a) g) (Int.toNat f) i) a).bind fun n=>
   (Zae m n).bind fun o=>
   some o
   else some false).bind fun p=>
  if p=true then
   Zbg c d a j f g i k (IntKind.wrap .i64 (b + (1:Int)))
  else
   some b
def Zbh (c:Nat) (d:(List Int)) (a:Int) (f:Int) (g:Int) (i:Int) (j:Int):Nat→Int→Option Int
 | 0,_=>none
 | k+1,b=>
  (some (decide (j≤b))).bind fun l=>
  (if l=true then
   (idxn c (List.set (List.set d (Int.toNat a) g) (Int.toNat f) i) b).bind fun m=>
   (idxn c (List.set (List.set d (Int.toNat a) g) (Int.toNat f) i) a).bind fun n=>
   (Zae m n).bind fun o=>
   some (!o)
   else some false).bind fun p=>
  if p=true then
   Zbh c d a f g i j k (IntKind.wrap .i64 (b - (1:Int)))
  else
   some b
def Zbi (b:Nat) (d:Int) (c:(List Int)) (f:Int):Nat→Int→Option Int
 | 0,_=>none
 | g+1,a=>
  (some (decide (a≤f))).bind fun i=>
  (if i=true then
   (idxn b c a).bind fun j=>
   (idxn b c d).bind fun k=>
   (Zae j k).bind fun l=>
   some l
   else some false).bind fun m=>
  if m=true then
   Zbi b d c f g (IntKind.wrap .i64 (a + (1:Int)))
  else
   some a
def Zbj (b:Nat) (d:Int) (c:(List Int)) (f:Int):Nat→Int→Option Int
 | 0,_=>none
 | g+1,a=>
  (some (decide (f≤a))).bind fun i=>
  (if i=true then
   (idxn b c a).bind fun j=>
   (idxn b c d).bind fun k=>
   (Zae j k).bind fun l=>
   some (!l)
   else some false).bind fun m=>
  if m=true then
   Zbj b d c f g (IntKind.wrap .i64 (a - (1:Int)))
  else
   some a
def Zaw (b:Nat) (f:Int):Nat→(List Int)→Int→Int→Option ((List Int) × Int)
 | 0,_,_,_=>none
 | j+1,a,k,g=>
  (Zbi b f a g fuel k).bind fun c=>
   (Zbj b f a c fuel g).bind fun d=>
    if (decide (c > d))=true then
     some (a,d)
    else
     (idxn b a d).bind fun i=>
     (idxn b a c).bind fun l=>
     (idxn b a c).bind fun _=>
     (idxn b (List.set a (Int.toNat c) i) d).bind fun _=>
     Zaw b f j (List.set (List.set a (Int.toNat c) i) (Int.toNat d) l) (IntKind.wrap .i64 (c + (1:Int))) (IntKind.wrap .i64 (d - (1:Int)))
def Zcm (b:Nat) (c:(List Int)) (a:Int) (m:Int) (d:Int):Option (Int × Bool × (List Int)):=
 (idxn b c d).bind fun f=>
 (idxn b c a).bind fun g=>
 (idxn b c a).bind fun _=>
 (idxn b (List.set c (Int.toNat a) f) d).bind fun _=>
 (Zbg b c a m d f g fuel (IntKind.wrap .i64 (a + (1:Int)))).bind fun j=>
  (Zbh b c a d f g j fuel (IntKind.wrap .i64 (m - (1:Int)))).bind fun i=>
   if (decide (j > i))=true then
    (idxn b (List.set (List.set c (Int.toNat a) f) (Int.toNat d) g) a).bind fun n=>
    (idxn b (List.set (List.set c (Int.toNat a) f) (Int.toNat d) g) i).bind fun q=>
    (idxn b (List.set (List.set c (Int.toNat a) f) (Int.toNat d) g) i).bind fun _=>
    (idxn b (List.set (List.set (List.set c (Int.toNat a) f) (Int.toNat d) g) (Int.toNat i) n) a).bind fun _=>
    some (i,true,(List.set (List.set (List.set (List.set c (Int.toNat a) f) (Int.toNat d) g) (Int.toNat i) n) (Int.toNat a) q))
   else
    (idxn b (List.set (List.set c (Int.toNat a) f) (Int.toNat d) g) i).bind fun o=>
    (idxn b (List.set (List.set c (Int.toNat a) f) (Int.toNat d) g) j).bind fun r=>
    (idxn b (List.set (List.set c (Int.toNat a) f) (Int.toNat d) g) j).bind fun _=>
    (idxn b (List.set (List.set (List.set c (Int.toNat a) f) (Int.toNat d) g) (Int.toNat j) o) i).bind fun _=>
    (Zaw b a fuel (List.set (List.set (List.set (List.set c (Int.toNat a) f) (Int.toNat d) g) (Int.toNat j) o) (Int.toNat i) r) (IntKind.wrap .i64 (j + (1:Int))) (IntKind.wrap .i64 (i - (1:Int)))).bind fun s=>
    match s with
    | (k,l)=>
     (idxn b k a).bind fun p=>
     (idxn b k l).bind fun t=>
     (idxn b k l).bind fun _=>
     (idxn b (List.set k (Int.toNat l) p) a).bind fun _=>
     some (l,false,(List.set (List.set k (Int.toNat l) p) (Int.toNat a) t))
def Zar (c:Nat) (f:Nat→(List Int)→Int→Int→Int→Option (List Int)):Nat→(List Int)→Int→Int→Int→Bool→Bool→Option (List Int)
 | 0,_,_,_,_,_,_=>none
 | l+1,i,a,b,m,n,r=>
  if (decide ((IntKind.wrap .i64 (b - a))≤(12:Int)))=true then
   (Zb3 c i a b).bind fun u=>
   some u
  else
   if (m == (0:Int))=true then
    (Zcr c i a b).bind fun v=>
    some v
   else
    (if (!n)=true then
     (Zbb c i a b).bind fun w=>
     some (w,(IntKind.wrap .i64 (m - (1:Int))))
    else
     some (i,m)).bind fun x=>
    match x with
    | (o,g)=>
     (Zca c o a b).bind fun j=>
     (if (j.2 == (2:Int))=true then
      (Zbf c o a b).bind fun y=>
      some (y,(IntKind.wrap .i64 ((IntKind.wrap .i64 (b - (1:Int))) - (IntKind.wrap .i64 (j.1 - a)))),(1:Int))
     else
      some (o,j.1,j.2)).bind fun z=>
     match z with
     | (s,p,a0)=>
      ((some n).bind fun a1=>
      (some (a1 && r)).bind fun a2=>
      if (a2 && (a0 == (1:Int)))=true then
       (Zap c s a b).bind fun q=>
       if q.1=true then
        some (.inr q.2)
       else
        some (.inl q.2)
      else
       some (.inl s)).bind fun(a3:((List Int) ⊕ (List Int)))=>
      match a3 with
      | .inl k=>
        (some (decide (a > (0:Int)))).bind fun a4=>
        (if a4=true then
         (idxn c k (IntKind.wrap .i64 (a - (1:Int)))).bind fun a5=>
         (idxn c k p).bind fun a6=>
         (Zae a5 a6).bind fun a7=>
         some (!a7)
         else some false).bind fun a8=>
        if a8=true then
         (Zbx c k a b p).bind fun t=>
         Zar c f l t.2 t.1 b g n r
        else
         (Zcm c k a b p).bind fun d=>
         if (decide ((IntKind.wrap .i64 (d.1 - a))<(IntKind.wrap .i64 (b - d.1))))=true then
          (f c d.2.2 a d.1 g).bind fun a9=>
          Zar c f l a9 (IntKind.wrap .i64 (d.1 + (1:Int))) b g (decide ((IntKind.wrap .i64 (d.1 - a)) ≥ (IntKind.wrap .i64 (Int.tdiv (IntKind.wrap .i64 (b - a)) (8:Int))))) d.2.1
         else
          (f c d.2.2 (IntKind.wrap .i64 (d.1 + (1:Int))) b g).bind fun b0=>
          Zar c f l b0 a d.1 g (decide ((IntKind.wrap .i64 (b - d.1)) ≥ (IntKind.wrap .i64 (Int.tdiv (IntKind.wrap .i64 (b - a)) (8:Int))))) d.2.1
      | .inr b1=>
        some b1
def Z4:Nat→Nat→(List Int)→Int→Int→Int→Option (List Int)
 | 0,_,_,_,_,_=>none
 | nr+1,a,b,c,d,f=>
  (Zar a (Z4 nr) fuel b c d f true true).bind fun g=>
  match g with
  | i=>
   some i
def Zdh (a:Nat) (b:(List Int)):Option (List Int):=
 (Zgm (IntKind.wrap .u64 (a:Int))).bind fun c=>
 (Z4 fuel a b (0:Int) (a:Int) c).bind fun d=>
 some d
def Za4 (c:Nat) (a:Int):Nat→(List Int)→Int→Int→Option ((List Int) × Int)
 | 0,_,_,_=>none
 | g+1,b,d,f=>
  if (decide (f<(((Int.toNat (c:Int) - Int.toNat a):Nat):Int)))=true then
   ((idxv (Int.toNat (c:Int) - Int.toNat a) b a f).bind fun i=>
   (idxv (Int.toNat (c:Int) - Int.toNat a) b a (IntKind.wrap .i64 (f - (1:Int)))).bind fun j=>
   if (i != j)=true then
    (idxv (Int.toNat (c:Int) - Int.toNat a) b a f).bind fun k=>
    (idxn c b d).bind fun _=>
    some ((List.set b (Int.toNat d) k),(IntKind.wrap .i64 (d + (1:Int))))
   else
    some (b,d)).bind fun l=>
   match l with
   | (m,n)=>
    Za4 c a g m n (IntKind.wrap .i64 (f + (1:Int)))
  else
   some (b,d)
def Za5 (a:Nat) (d:(List Int)):Nat→Int→Option (Unit ⊕ (Nat × (List Int)))
 | 0,_=>none
 | g+1,c=>
  if (decide (c<(a:Int)))=true then
   (idxn a d c).bind fun i=>
   (idxn a d (IntKind.wrap .i64 (c - (1:Int)))).bind fun j=>
   if (i == j)=true then
    if 0≤c∧c≤(a:Int)∧(a:Int)≤(a:Int) then
    (Za4 a c fuel d c (1:Int)).bind fun k=>
    match k with
    | (f,b)=>
     if 0≤b∧b≤(a:Int)∧(a:Int)≤(a:Int) then
     if Int.toNat b + (Int.toNat (a:Int) - Int.toNat b)≤List.length f then
     if 0≤(0:Int)∧(0:Int)≤b∧b≤(a:Int) then
     some (.inr ((Int.toNat b),(List.take (Int.toNat b) f++List.replicate (Int.toNat (a:Int) - Int.toNat b) (0:Int)++List.drop (Int.toNat b + (Int.toNat (a:Int) - Int.toNat b)) f)))
     else none
     else none
     else none
    else none
   else
    Za5 a d g (IntKind.wrap .i64 (c + (1:Int)))
  else
   some (.inl ())
def Zc0 (a:Nat) (b:(List Int)):Option (Nat × (List Int)):=
 if (decide ((a:Int)<(2:Int)))=true then
  some (a,b)
 else
  (Za5 a b fuel (1:Int)).bind fun(c:(Unit ⊕ (Nat × (List Int))))=>
  match c with
  | .inl ()=>
    some (a,b)
  | .inr d=>
    some d
def Zck (a:Int):Nat→Int→Int→Option Int
 | 0,_,_=>none
 | d+1,c,b=>
  if (decide (b<(List.length (List.drop (Int.toNat a) (List.take (Int.toNat (List.length ([]:(List Int)):Int)) ([]:(List Int)))):Int)))=true then
   ((idx (List.drop (Int.toNat a) (List.take (Int.toNat (List.length ([]:(List Int)):Int)) ([]:(List Int)))) b).bind fun f=>
   (idx (List.drop (Int.toNat a) (List.take (Int.toNat (List.length ([]:(List Int)):Int)) ([]:(List Int)))) (IntKind.wrap .i64 (b - (1:Int)))).bind fun g=>
   if (f != g)=true then
    none
   else
    some ()).bind fun i=>
   match i with
   | ()=>
    Zck a d c (IntKind.wrap .i64 (b + (1:Int)))
  else
   some c
def Zcl:Nat→Int→Option (Unit ⊕ (List Int))
 | 0,_=>none
 | b+1,a=>
  if (decide (a<(List.length ([]:(List Int)):Int)))=true then
   (idx ([]:(List Int)) a).bind fun c=>
   (idx ([]:(List Int)) (IntKind.wrap .i64 (a - (1:Int)))).bind fun d=>
   if (c == d)=true then
    if 0≤a∧a≤(List.length ([]:(List Int)):Int)∧(List.length ([]:(List Int)):Int)≤(List.length ([]:(List Int)):Int) then
    (Zck a fuel a (1:Int)).bind fun _=>
     none
    else none
   else
    Zcl b (IntKind.wrap .i64 (a + (1:Int)))
  else
   some (.inl ())
def Zc1:Option (List Int):=
 if (decide ((List.length ([]:(List Int)):Int)<(2:Int)))=true then
  some ([]:(List Int))
 else
  (Zcl fuel (1:Int)).bind fun(a:(Unit ⊕ (List Int)))=>
  match a with
  | .inl ()=>
    some ([]:(List Int))
  | .inr b=>
    some b
def Zdb (a:Int) (c:ZL):Nat→(List Int)→Int→Option (List Int)
 | 0,_,_=>none
 | g+1,d,f=>
  if (decide (f<(List.length c:Int)))=true then
   (idx c f).bind fun b=>
   if 0≤a∧a<5 then
   if 0≤a∧a<5 then
   if List.length d + List.length [(IntKind.wrap .u64 (Arr5.get b a).Lo),(IntKind.wrap .u64 ((IntKind.wrap .u64 (Arr5.get b a).Hi) + (1:Int)))]≤lim then
   Zdb a c g (d++[(IntKind.wrap .u64 (Arr5.get b a).Lo),(IntKind.wrap .u64 ((IntKind.wrap .u64 (Arr5.get b a).Hi) + (1:Int)))]) (IntKind.wrap .i64 (f + (1:Int)))
   else none
   else none
   else none
  else
   some d
def Zdc (c:Int) (a:(List ZL)):Nat→(List Int)→Int→Option (List Int)
 | 0,_,_=>none
 | f+1,d,b=>
  if (decide (b<(List.length a:Int)))=true then
   (idx a b).bind fun g=>
   (Zdb c g fuel d (0:Int)).bind fun i=>
    Zdc c a f i (IntKind.wrap .i64 (b + (1:Int)))
  else
   some d
def Zec (c:Int) (f:(List ZL)):Option (List Int):=
 (Zi2 c).bind fun g=>
 (Zdc c f fuel [(0:Int),(IntKind.wrap .u64 ((IntKind.wrap .u64 g) + (1:Int)))] (0:Int)).bind fun a=>
  if a ≠ [] then
  (Zdh (List.length a) a).bind fun b=>
  if List.length b=List.length a then
  (handB b (Zc0 (List.length b) b) (Zc1)).bind fun d=>
  some (List.take d.1 d.2)
  else none
  else none
def Zct (d:ZL) (a:Int) (f:Int):Nat→ZL→Int→Option ZL
 | 0,_,_=>none
 | i+1,b,g=>
  if (decide (g<(List.length d:Int)))=true then
   ((idx d g).bind fun c=>
   if 0≤a∧a<5 then
   (some (decide ((Arr5.get c a).Lo≤f))).bind fun j=>
   (if j=true then
    if 0≤a∧a<5 then
    some (decide (f≤(Arr5.get c a).Hi))
    else none
    else some false).bind fun k=>
   if k=true then
    if List.length b + List.length [c]≤lim then
    some (b++[c])
    else none
   else
    some b
   else none).bind fun l=>
    Zct d a f i l (IntKind.wrap .i64 (g + (1:Int)))
  else
   some b
def Zbz (a:ZL) (b:Int) (c:Int):Option ZL:=
 (Zct a b c fuel ([]:ZL) (0:Int)).bind fun d=>
  some d
def Z0 (f:Int) (l:ZL) (m:ZL) (j:Int) (n:Int→ZL→ZL→Int→Option (ZL × Bool)) (g:(List Int)):Nat→(List Zg)→Int→Int→Option (((List Zg) × Int) ⊕ (ZL × Bool))
 | 0,_,_,_=>none
 | p+1,a,c,i=>
  if (decide ((IntKind.wrap .i64 (i + (1:Int)))<(List.length g:Int)))=true then
   ((idx g i).bind fun d=>
   (idx g (IntKind.wrap .i64 (i + (1:Int)))).bind fun k=>
   (Zbz l f (IntKind.wrap .u32 d)).bind fun q=>
   (Zbz m f (IntKind.wrap .u32 d)).bind fun r=>
   (n (IntKind.wrap .i64 (f + (1:Int))) q r j).bind fun b=>
   if (!b.2)=true then
    some (.inr (([]:ZL),false))
   else
    if ((List.length b.1:Int) == (0:Int))=true then
     some (.inl (a,c))
    else
     (some (decide ((List.length a:Int) > (0:Int)))).bind fun s=>
     (if s=true then
      (idx a (IntKind.wrap .i64 ((List.length a:Int) - (1:Int)))).bind fun t=>
      some ((IntKind.wrap .u32 (t.f_values.Hi + (1:Int))) == (IntKind.wrap .u32 d))
      else some false).bind fun u=>
     (some u).bind fun v=>
     (if v=true then
      (idx a (IntKind.wrap .i64 ((List.length a:Int) - (1:Int)))).bind fun w=>
      (Zaq w.f_rest b.1).bind fun x=>
      some x
      else some false).bind fun y=>
     if y=true then
      (idx a (IntKind.wrap .i64 ((List.length a:Int) - (1:Int)))).bind fun o=>
      some (.inl ((List.set a (Int.toNat (IntKind.wrap .i64 ((List.length a:Int) - (1:Int)))) ({ o with f_values:=({ o.f_values with Hi:=(IntKind.wrap .u32 (IntKind.wrap .u64 (k - (1:Int)))) }:Zb) }:Zg)),c))
     else
      if List.length a + List.length [(Zg.mk (Zb.mk (IntKind.wrap .u32 d) (IntKind.wrap .u32 (IntKind.wrap .u64 (k - (1:Int))))) b.1)]≤lim then
      if (decide ((IntKind.wrap .i64 (c + (List.length b.1:Int))) > j))=true then
       some (.inr (([]:ZL),false))
      else
       some (.inl ((a++[(Zg.mk (Zb.mk (IntKind.wrap .u32 d) (IntKind.wrap .u32 (IntKind.wrap .u64 (k - (1:Int))))) b.1)]),(IntKind.wrap .i64 (c + (List.length b.1:Int)))))
      else none).bind fun(z:(((List Zg) × Int) ⊕ (ZL × Bool)))=>
   match z with
   | .inl (a0,a1)=>
     Z0 f l m j n g p a0 a1 (IntKind.wrap .i64 (i + (1:Int)))
   | .inr a2=>
     some (.inr a2)
  else
   some (.inl (a,c))
def Z1 (a:Int) (b:Zg):Nat→ZL→Int→Option ZL
 | 0,_,_=>none
 | g+1,c,d=>
  if (decide (d<(List.length b.f_rest:Int)))=true then
   (idx b.f_rest d).bind fun f=>
   if 0≤a∧a<5 then
   if List.length c + List.length [(Arr5.set f a b.f_values)]≤lim then
   Z1 a b g (c++[(Arr5.set f a b.f_values)]) (IntKind.wrap .i64 (d + (1:Int)))
   else none
   else none
  else
   some c
def Zx (c:Int) (a:(List Zg)):Nat→ZL→Int→Option ZL
 | 0,_,_=>none
 | f+1,d,b=>
  if (decide (b<(List.length a:Int)))=true then
   (idx a b).bind fun g=>
   (Z1 c g fuel d (0:Int)).bind fun i=>
    Zx c a f i (IntKind.wrap .i64 (b + (1:Int)))
  else
   some d
def Zah:Nat→Int→ZL→ZL→Int→Option (ZL × Bool)
 | 0,_,_,_,_=>none
 | nr+1,a,b,c,f=>
  if (a == (5:Int))=true then
   (Ze8 (decide ((List.length b:Int) > (0:Int))) (decide ((List.length c:Int) > (0:Int)))).bind fun g=>
   if g=true then
    some ([(Arr5.mk Zq Zq Zq Zq Zq)],true)
   else
    some (([]:ZL),true)
  else
   (some ((IntKind.wrap .i64 ((List.length b:Int) + (List.length c:Int))) == (0:Int))).bind fun i=>
   (if i=true then
    (Ze8 false false).bind fun j=>
    some (!j)
    else some false).bind fun k=>
   if k=true then
    some (([]:ZL),true)
   else
    (Zec a [b,c]).bind fun l=>
    (Z0 a b c f (Zah nr) l fuel ([]:(List Zg)) (0:Int) (0:Int)).bind fun(m:(((List Zg) × Int) ⊕ (ZL × Bool)))=>
    match m with
    | .inl (n,d)=>
      if 0≤d∧d≤(lim:Int) then
      (Zx a n fuel ([]:ZL) (0:Int)).bind fun o=>
       some (o,true)
      else none
    | .inr p=>
      some p
def Za6 (b:ZL) (c:ZL):Option (ZL × Int):=
 (Zah fuel (0:Int) b c (4096:Int)).bind fun a=>
 if (!a.2)=true then
  some (([]:ZL),(3:Int))
 else
  some (a.1,(0:Int))
def Zd2 (a:ZL):Nat→ZL→Int→Option (ZL ⊕ (ZL × Int))
 | 0,_,_=>none
 | f+1,d,b=>
  if (decide (b<(List.length a:Int)))=true then
   (idx a b).bind fun g=>
   (Za6 d [g]).bind fun c=>
   if (c.2 != (0:Int))=true then
    some (.inr (([]:ZL),c.2))
   else
    Zd2 a f c.1 (IntKind.wrap .i64 (b + (1:Int)))
  else
   some (.inl d)
def Zf7 (a:ZL):Option (ZL × Int):=
 (Zft a).bind fun b=>
 (Zd2 b fuel ([]:ZL) (0:Int)).bind fun(c:(ZL ⊕ (ZL × Int)))=>
 match c with
 | .inl d=>
   some (d,(0:Int))
 | .inr f=>
   some f
def Zb4 (a:Zj) (c:ZL) (d:Int):Option (ZL × Zj):=
 (if (a.f_err == (0:Int))=true then
  some ({ a with f_err:=d }:Zj)
 else
  some a).bind fun b=>
  if (b.f_err != (0:Int))=true then
   some (([]:ZL),b)
  else
   some (c,b)
def Zd7 (b:Zj) (a:ZL):Option (ZL × Zj):=
 (Zeo a).bind fun f=>
 if f=true then
  some (a,b)
 else
  (Zf7 a).bind fun c=>
  (Zb4 b c.1 c.2).bind fun d=>
  some (d.1,d.2)
def Zc2 (a:ZL):Option (ZL × Int):=
 (Zeo a).bind fun c=>
 if c=true then
  some (a,(0:Int))
 else
  (Zf7 a).bind fun b=>
  some (b.1,b.2)
def Zf8 (a:Bool) (b:Bool):Option Bool:=
 (some a).bind fun c=>
 some (c && b)
def Zbu (f:Int) (l:ZL) (m:ZL) (j:Int) (n:Int→ZL→ZL→Int→Option (ZL × Bool)) (g:(List Int)):Nat→(List Zg)→Int→Int→Option (((List Zg) × Int) ⊕ (ZL × Bool))
 | 0,_,_,_=>none
 | p+1,a,c,i=>
  if (decide ((IntKind.wrap .i64 (i + (1:Int)))<(List.length g:Int)))=true then
   ((idx g i).bind fun d=>
   (idx g (IntKind.wrap .i64 (i + (1:Int)))).bind fun k=>
   (Zbz l f (IntKind.wrap .u32 d)).bind fun q=>
   (Zbz m f (IntKind.wrap .u32 d)).bind fun r=>
   (n (IntKind.wrap .i64 (f + (1:Int))) q r j).bind fun b=>
   if (!b.2)=true then
    some (.inr (([]:ZL),false))
   else
    if ((List.length b.1:Int) == (0:Int))=true then
     some (.inl (a,c))
    else
     (some (decide ((List.length a:Int) > (0:Int)))).bind fun s=>
     (if s=true then
      (idx a (IntKind.wrap .i64 ((List.length a:Int) - (1:Int)))).bind fun t=>
      some ((IntKind.wrap .u32 (t.f_values.Hi + (1:Int))) == (IntKind.wrap .u32 d))
      else some false).bind fun u=>
     (some u).bind fun v=>
     (if v=true then
      (idx a (IntKind.wrap .i64 ((List.length a:Int) - (1:Int)))).bind fun w=>
      (Zaq w.f_rest b.1).bind fun x=>
      some x
      else some false).bind fun y=>
     if y=true then
      (idx a (IntKind.wrap .i64 ((List.length a:Int) - (1:Int)))).bind fun o=>
      some (.inl ((List.set a (Int.toNat (IntKind.wrap .i64 ((List.length a:Int) - (1:Int)))) ({ o with f_values:=({ o.f_values with Hi:=(IntKind.wrap .u32 (IntKind.wrap .u64 (k - (1:Int)))) }:Zb) }:Zg)),c))
     else
      if List.length a + List.length [(Zg.mk (Zb.mk (IntKind.wrap .u32 d) (IntKind.wrap .u32 (IntKind.wrap .u64 (k - (1:Int))))) b.1)]≤lim then
      if (decide ((IntKind.wrap .i64 (c + (List.length b.1:Int))) > j))=true then
       some (.inr (([]:ZL),false))
      else
       some (.inl ((a++[(Zg.mk (Zb.mk (IntKind.wrap .u32 d) (IntKind.wrap .u32 (IntKind.wrap .u64 (k - (1:Int))))) b.1)]),(IntKind.wrap .i64 (c + (List.length b.1:Int)))))
      else none).bind fun(z:(((List Zg) × Int) ⊕ (ZL × Bool)))=>
   match z with
   | .inl (a0,a1)=>
     Zbu f l m j n g p a0 a1 (IntKind.wrap .i64 (i + (1:Int)))
   | .inr a2=>
     some (.inr a2)
  else
   some (.inl (a,c))
def Zbv (a:Int) (b:Zg):Nat→ZL→Int→Option ZL
 | 0,_,_=>none
 | g+1,c,d=>
  if (decide (d<(List.length b.f_rest:Int)))=true then
   (idx b.f_rest d).bind fun f=>
   if 0≤a∧a<5 then
   if List.length c + List.length [(Arr5.set f a b.f_values)]≤lim then
   Zbv a b g (c++[(Arr5.set f a b.f_values)]) (IntKind.wrap .i64 (d + (1:Int)))
   else none
   else none
  else
   some c
def Zbw (c:Int) (a:(List Zg)):Nat→ZL→Int→Option ZL
 | 0,_,_=>none
 | f+1,d,b=>
  if (decide (b<(List.length a:Int)))=true then
   (idx a b).bind fun g=>
   (Zbv c g fuel d (0:Int)).bind fun i=>
    Zbw c a f i (IntKind.wrap .i64 (b + (1:Int)))
  else
   some d
def Zal:Nat→Int→ZL→ZL→Int→Option (ZL × Bool)
 | 0,_,_,_,_=>none
 | nr+1,a,b,c,f=>
  if (a == (5:Int))=true then
   (Zf8 (decide ((List.length b:Int) > (0:Int))) (decide ((List.length c:Int) > (0:Int)))).bind fun g=>
   if g=true then
    some ([(Arr5.mk Zq Zq Zq Zq Zq)],true)
   else
    some (([]:ZL),true)
  else
   (some ((IntKind.wrap .i64 ((List.length b:Int) + (List.length c:Int))) == (0:Int))).bind fun i=>
   (if i=true then
    (Zf8 false false).bind fun j=>
    some (!j)
    else some false).bind fun k=>
   if k=true then
    some (([]:ZL),true)
   else
    (Zec a [b,c]).bind fun l=>
    (Zbu a b c f (Zal nr) l fuel ([]:(List Zg)) (0:Int) (0:Int)).bind fun(m:(((List Zg) × Int) ⊕ (ZL × Bool)))=>
    match m with
    | .inl (n,d)=>
      if 0≤d∧d≤(lim:Int) then
      (Zbw a n fuel ([]:ZL) (0:Int)).bind fun o=>
       some (o,true)
      else none
    | .inr p=>
      some p
def Zdi (b:ZL) (c:ZL):Option (ZL × Int):=
 (Zal fuel (0:Int) b c (4096:Int)).bind fun a=>
 if (!a.2)=true then
  some (([]:ZL),(3:Int))
 else
  some (a.1,(0:Int))
def Zgb (d:ZL) (f:ZL):Option (ZL × Int):=
 (Zc2 d).bind fun a=>
 if (a.2 != (0:Int))=true then
  some (([]:ZL),a.2)
 else
  (Zc2 f).bind fun b=>
  if (b.2 != (0:Int))=true then
   some (([]:ZL),b.2)
  else
   (Zdi a.1 b.1).bind fun c=>
   some (c.1,c.2)
def Ze9 (b:ZL) (c:ZL):Option (ZL × Int):=
 (Zgb b c).bind fun a=>
 some (a.1,a.2)
def Za8 (c:Zj) (d:ZL) (f:ZL):Option (ZL × Zj):=
 (Ze9 d f).bind fun a=>
 (Zb4 c a.1 a.2).bind fun b=>
 some (b.1,b.2)
def Zev (a:Bool) (b:Bool):Option Bool:=
 (some a).bind fun c=>
 some (c && (!b))
def Zbk (f:Int) (l:ZL) (m:ZL) (j:Int) (n:Int→ZL→ZL→Int→Option (ZL × Bool)) (g:(List Int)):Nat→(List Zg)→Int→Int→Option (((List Zg) × Int) ⊕ (ZL × Bool))
 | 0,_,_,_=>none
 | p+1,a,c,i=>
  if (decide ((IntKind.wrap .i64 (i + (1:Int)))<(List.length g:Int)))=true then
   ((idx g i).bind fun d=>
   (idx g (IntKind.wrap .i64 (i + (1:Int)))).bind fun k=>
   (Zbz l f (IntKind.wrap .u32 d)).bind fun q=>
   (Zbz m f (IntKind.wrap .u32 d)).bind fun r=>
   (n (IntKind.wrap .i64 (f + (1:Int))) q r j).bind fun b=>
   if (!b.2)=true then
    some (.inr (([]:ZL),false))
   else
    if ((List.length b.1:Int) == (0:Int))=true then
     some (.inl (a,c))
    else
     (some (decide ((List.length a:Int) > (0:Int)))).bind fun s=>
     (if s=true then
      (idx a (IntKind.wrap .i64 ((List.length a:Int) - (1:Int)))).bind fun t=>
      some ((IntKind.wrap .u32 (t.f_values.Hi + (1:Int))) == (IntKind.wrap .u32 d))
      else some false).bind fun u=>
     (some u).bind fun v=>
     (if v=true then
      (idx a (IntKind.wrap .i64 ((List.length a:Int) - (1:Int)))).bind fun w=>
      (Zaq w.f_rest b.1).bind fun x=>
      some x
      else some false).bind fun y=>
     if y=true then
      (idx a (IntKind.wrap .i64 ((List.length a:Int) - (1:Int)))).bind fun o=>
      some (.inl ((List.set a (Int.toNat (IntKind.wrap .i64 ((List.length a:Int) - (1:Int)))) ({ o with f_values:=({ o.f_values with Hi:=(IntKind.wrap .u32 (IntKind.wrap .u64 (k - (1:Int)))) }:Zb) }:Zg)),c))
     else
      if List.length a + List.length [(Zg.mk (Zb.mk (IntKind.wrap .u32 d) (IntKind.wrap .u32 (IntKind.wrap .u64 (k - (1:Int))))) b.1)]≤lim then
      if (decide ((IntKind.wrap .i64 (c + (List.length b.1:Int))) > j))=true then
       some (.inr (([]:ZL),false))
      else
       some (.inl ((a++[(Zg.mk (Zb.mk (IntKind.wrap .u32 d) (IntKind.wrap .u32 (IntKind.wrap .u64 (k - (1:Int))))) b.1)]),(IntKind.wrap .i64 (c + (List.length b.1:Int)))))
      else none).bind fun(z:(((List Zg) × Int) ⊕ (ZL × Bool)))=>
   match z with
   | .inl (a0,a1)=>
     Zbk f l m j n g p a0 a1 (IntKind.wrap .i64 (i + (1:Int)))
   | .inr a2=>
     some (.inr a2)
  else
   some (.inl (a,c))
def Zbl (a:Int) (b:Zg):Nat→ZL→Int→Option ZL
 | 0,_,_=>none
 | g+1,c,d=>
  if (decide (d<(List.length b.f_rest:Int)))=true then
   (idx b.f_rest d).bind fun f=>
   if 0≤a∧a<5 then
   if List.length c + List.length [(Arr5.set f a b.f_values)]≤lim then
   Zbl a b g (c++[(Arr5.set f a b.f_values)]) (IntKind.wrap .i64 (d + (1:Int)))
   else none
   else none
  else
   some c
def Zbm (c:Int) (a:(List Zg)):Nat→ZL→Int→Option ZL
 | 0,_,_=>none
 | f+1,d,b=>
  if (decide (b<(List.length a:Int)))=true then
   (idx a b).bind fun g=>
   (Zbl c g fuel d (0:Int)).bind fun i=>
    Zbm c a f i (IntKind.wrap .i64 (b + (1:Int)))
  else
   some d
def Zaf:Nat→Int→ZL→ZL→Int→Option (ZL × Bool)
 | 0,_,_,_,_=>none
 | nr+1,a,b,c,f=>
  if (a == (5:Int))=true then
   (Zev (decide ((List.length b:Int) > (0:Int))) (decide ((List.length c:Int) > (0:Int)))).bind fun g=>
   if g=true then
    some ([(Arr5.mk Zq Zq Zq Zq Zq)],true)
   else
    some (([]:ZL),true)
  else
   (some ((IntKind.wrap .i64 ((List.length b:Int) + (List.length c:Int))) == (0:Int))).bind fun i=>
   (if i=true then
    (Zev false false).bind fun j=>
    some (!j)
    else some false).bind fun k=>
   if k=true then
    some (([]:ZL),true)
   else
    (Zec a [b,c]).bind fun l=>
    (Zbk a b c f (Zaf nr) l fuel ([]:(List Zg)) (0:Int) (0:Int)).bind fun(m:(((List Zg) × Int) ⊕ (ZL × Bool)))=>
    match m with
    | .inl (n,d)=>
      if 0≤d∧d≤(lim:Int) then
      (Zbm a n fuel ([]:ZL) (0:Int)).bind fun o=>
       some (o,true)
      else none
    | .inr p=>
      some p
def Zc3 (b:ZL) (c:ZL):Option (ZL × Int):=
 (Zaf fuel (0:Int) b c (4096:Int)).bind fun a=>
 if (!a.2)=true then
  some (([]:ZL),(3:Int))
 else
  some (a.1,(0:Int))
def Zfg (d:ZL) (f:ZL):Option (ZL × Int):=
 (Zc2 d).bind fun a=>
 if (a.2 != (0:Int))=true then
  some (([]:ZL),a.2)
 else
  (Zc2 f).bind fun b=>
  if (b.2 != (0:Int))=true then
   some (([]:ZL),b.2)
  else
   (Zc3 a.1 b.1).bind fun c=>
   some (c.1,c.2)
def Zfl (b:ZL) (c:ZL):Option (ZL × Int):=
 (Zfg b c).bind fun a=>
 some (a.1,a.2)
def Zc9 (c:Zj) (d:ZL) (f:ZL):Option (ZL × Zj):=
 (Zfl d f).bind fun a=>
 (Zb4 c a.1 a.2).bind fun b=>
 some (b.1,b.2)
def Zbd (c:ZL):Nat→Zj→(List ZL)→ZL→Int→Option (Zj × (List ZL) × ZL)
 | 0,_,_,_,_=>none
 | k+1,d,a,b,f=>
  if (decide (f<(List.length c:Int)))=true then
   ((idx c f).bind fun g=>
   (Zg8 g).bind fun l=>
   if (!l)=true then
    if List.length a + List.length [([]:ZL)]≤lim then
    some (d,(a++[([]:ZL)]),b)
    else none
   else
    (Za8 d b [g]).bind fun i=>
    if List.length a + List.length [i.1]≤lim then
    (Zc9 i.2 b [g]).bind fun j=>
    some (j.2,(a++[i.1]),j.1)
    else none).bind fun m=>
   match m with
   | (n,o,p)=>
    Zbd c k n o p (IntKind.wrap .i64 (f + (1:Int)))
  else
   some (d,a,b)
def Zey (a:Zj) (b:ZL) (c:ZL):Option ((List ZL) × ZL × Zj):=
 (Zbd b fuel a ([]:(List ZL)) c (0:Int)).bind fun d=>
 match d with
 | (f,g,i)=>
  some (g,i,f)
def Zfm (d:ZL) (f:ZL):Option (ZL × Int):=
 (Zc2 d).bind fun a=>
 if (a.2 != (0:Int))=true then
  some (([]:ZL),a.2)
 else
  (Zc2 f).bind fun b=>
  if (b.2 != (0:Int))=true then
   some (([]:ZL),b.2)
  else
   (Za6 a.1 b.1).bind fun c=>
   some (c.1,c.2)
def Zg2 (b:ZL) (c:ZL):Option (ZL × Int):=
 (Zfm b c).bind fun a=>
 some (a.1,a.2)
def Zce (c:Zj) (d:ZL) (f:ZL):Option (ZL × Zj):=
 (Zg2 d f).bind fun a=>
 (Zb4 c a.1 a.2).bind fun b=>
 some (b.1,b.2)
def Zdk (a:Zj) (b:ZL):Option (ZL × Int):=
 if (a.f_err != (0:Int))=true then
  some (([]:ZL),a.f_err)
 else
  if List.length b≤lim then
  some (b,(0:Int))
  else none
def Zju:Nat→ZB→Int→Option ZB
 | 0,_,_=>none
 | c+1,b,a=>
  if (decide (a<(5:Int)))=true then
   if 0≤a∧a<5 then
   if 0≤a∧a<5 then
   Zju c (Arr5.set b a ({ (Arr5.get b a) with Hi:=(Arr5.get Za7 a) }:Zb)) (IntKind.wrap .i64 (a + (1:Int)))
   else none
   else none
  else
   some b
def Zkh:Option ZB:=
 (Zju fuel Zm (0:Int)).bind fun a=>
  some a
def Zed (a:ZL):Nat→ZL→Int→Option ZL
 | 0,_,_=>none
 | f+1,b,c=>
  if (decide (c<(List.length a:Int)))=true then
   ((idx a c).bind fun g=>
   (Zes g).bind fun i=>
   if i=true then
    (idx a c).bind fun d=>
    if List.length b + List.length [d]≤lim then
    some (b++[d])
    else none
   else
    some b).bind fun j=>
    Zed a f j (IntKind.wrap .i64 (c + (1:Int)))
  else
   some b
def Zgn (a:ZL):Option ZL:=
 (Zed a fuel ([]:ZL) (0:Int)).bind fun b=>
  some b
def Zee (c:ZL) (d:ZL) (b:Int):Nat→Int→Option (Unit ⊕ Bool)
 | 0,_=>none
 | f+1,a=>
  if (decide (a<(5:Int)))=true then
   (idx c b).bind fun g=>
   if 0≤a∧a<5 then
   (idx d b).bind fun i=>
   if 0≤a∧a<5 then
   if (!(Zdp (Arr5.get g a) (Arr5.get i a)))=true then
    some (.inr false)
   else
    Zee c d b f (IntKind.wrap .i64 (a + (1:Int)))
   else none
   else none
  else
   some (.inl ())
def Zef (a:ZL) (c:ZL) (d:Int):Nat→Int→Option (Unit ⊕ Bool)
 | 0,_=>none
 | f+1,b=>
  if (decide (b<(List.length a:Int)))=true then
   (Zee a c b fuel d).bind fun(g:(Unit ⊕ Bool))=>
   match g with
   | .inl ()=>
     Zef a c d f (IntKind.wrap .i64 (b + (1:Int)))
   | .inr i=>
     some (.inr i)
  else
   some (.inl ())
def Zgo (a:ZL) (b:ZL) (c:Int):Option Bool:=
 if ((List.length a:Int) != (List.length b:Int))=true then
  some false
 else
  (Zef a b c fuel (0:Int)).bind fun(d:(Unit ⊕ Bool))=>
  match d with
  | .inl ()=>
    some true
  | .inr f=>
    some f
def Zc5 (b:ZL) (a:Int) (d:Int):Nat→Int→Option Int
 | 0,_=>none
 | f+1,c=>
  (some (decide (c<(List.length b:Int)))).bind fun g=>
  (if g=true then
   (idx b c).bind fun i=>
   if 0≤a∧a<5 then
   (idx b d).bind fun j=>
   if 0≤a∧a<5 then
   some (Zdp (Arr5.get i a) (Arr5.get j a))
   else none
   else none
   else some false).bind fun k=>
  if k=true then
   Zc5 b a d f (IntKind.wrap .i64 (c + (1:Int)))
  else
   some c
def Zcf (c:ZL) (a:Int) (f:ZL→Int→Option Bool):Nat→ZL→Int→Option (Unit ⊕ Bool)
 | 0,_,_=>none
 | k+1,l,b=>
  if (decide (b<(List.length c:Int)))=true then
   ((Zc5 c a b fuel b).bind fun d=>
    if 0≤b∧b≤d∧d≤(List.length c:Int) then
    (if (decide (b > (0:Int)))=true then
     (idx c (IntKind.wrap .i64 (b - (1:Int)))).bind fun g=>
     if 0≤a∧a<5 then
     (idx c b).bind fun i=>
     if 0≤a∧a<5 then
     (some (decide ((Arr5.get i a).Lo≤(Arr5.get g a).Hi))).bind fun m=>
     (if m=true then some true else
      (some ((Arr5.get i a).Lo == (IntKind.wrap .u32 ((Arr5.get g a).Hi + (1:Int))))).bind fun n=>
      (if n=true then
       (Zgo l (List.drop (Int.toNat b) (List.take (Int.toNat d) c)) (IntKind.wrap .i64 (a + (1:Int)))).bind fun o=>
       some o
       else some false).bind fun p=>
      some p
      ).bind fun q=>
     if q=true then
      some (.inr false)
     else
      some (.inl ())
     else none
     else none
    else
     some (.inl ())).bind fun(r:(Unit ⊕ Bool))=>
    match r with
    | .inl ()=>
      (f (List.drop (Int.toNat b) (List.take (Int.toNat d) c)) (IntKind.wrap .i64 (a + (1:Int)))).bind fun s=>
      if (!s)=true then
       some (.inr false)
      else
       some (.inl (List.drop (Int.toNat b) (List.take (Int.toNat d) c)))
    | .inr t=>
      some (.inr t)
    else none).bind fun(u:(ZL ⊕ Bool))=>
   match u with
   | .inl j=>
     Zcf c a f k j (IntKind.wrap .i64 (b + (List.length j:Int)))
   | .inr v=>
     some (.inr v)
  else
   some (.inl ())
def Zbq:Nat→ZL→Int→Option Bool
 | 0,_,_=>none
 | nr+1,a,b=>
  if (b == (5:Int))=true then
   some ((List.length a:Int) == (1:Int))
  else
   (Zcf a b (Zbq nr) fuel ([]:ZL) (0:Int)).bind fun(c:(Unit ⊕ Bool))=>
   match c with
   | .inl ()=>
     some true
   | .inr d=>
     some d
def Zgp (a:ZL):Option Bool:=
 (some (decide ((List.length a:Int)≤(4096:Int)))).bind fun b=>
 (if b=true then
  (Zgn a).bind fun c=>
  some ((List.length c:Int) == (List.length a:Int))
  else some false).bind fun d=>
 (some d).bind fun f=>
 (if f=true then
  (Zbq fuel a (0:Int)).bind fun g=>
  some g
  else some false).bind fun i=>
 some i
def Zfn (a:ZL):Option (ZL × Int):=
 (Zgp a).bind fun c=>
 if c=true then
  some (a,(0:Int))
 else
  (Zhb a).bind fun b=>
  some (b.1,b.2)
def Zep (d:ZL) (f:ZL) (g:Int):Option (ZL × Int):=
 (Zfn d).bind fun a=>
 if (a.2 != (0:Int))=true then
  some (([]:ZL),a.2)
 else
  (Zfn f).bind fun b=>
  if (b.2 != (0:Int))=true then
   some (([]:ZL),b.2)
  else
   (Zbr fuel a.1 b.1 g (0:Int)).bind fun i=>
   (Zem i).bind fun c=>
   some (c.1,c.2)
def Zgq (b:ZL) (c:ZL):Option (ZL × Int):=
 (Zep b c (0:Int)).bind fun a=>
 some (a.1,a.2)
def Zew (b:ZL) (c:ZL):Option (ZL × Int):=
 (Zep b c (1:Int)).bind fun a=>
 some (a.1,a.2)
def Zfa (b:ZL) (c:ZL):Option (ZL × Int):=
 (Zep b c (2:Int)).bind fun a=>
 some (a.1,a.2)
def Zv (a:Zr) (d:Int) (b:ZL) (c:ZL):Option (ZL × Zr):=
 if a.f_failed=true then
  some (([]:ZL),a)
 else
  (if (d == (0:Int))=true then
   (Zgq b c).bind fun f=>
   some (f.1,f.2)
  else
   if (d == (1:Int))=true then
    (Zew b c).bind fun g=>
    some (g.1,g.2)
   else
    (Zfa b c).bind fun i=>
    some (i.1,i.2)).bind fun j=>
  match j with
  | (k,l)=>
   some (k,({ a with f_failed:=(l != (0:Int)) }:Zr))
def Zd8 (a:Zr) (b:ZL):Option (ZL × Int):=
 if a.f_failed=true then
  some (([]:ZL),(3:Int))
 else
  some (b,(0:Int))
def Zhc (a:ZL) (b:ZL):Option Bool:=
 (Zf6 a b).bind fun c=>
 some c
def Zhu (a:ZL):Option Bool:=
 some (decide ((List.length a:Int) > (6:Int)))
def Zgg (k:Zf):Option (Zh × Zf):=
 (Ze6).bind fun a=>
 (Zw k (2:Int)).bind fun f=>
 (idx [(3325256705:Int),(167772165:Int)] f.1).bind fun g=>
 (Zdx f.2 (65535:Int)).bind fun b=>
 (Zcs b.2).bind fun c=>
 ((Zw c.2 (2:Int)).bind fun d=>
 if (d.1 == (0:Int))=true then
  (Zw d.2 (3:Int)).bind fun i=>
  (idx [(6:Int),(17:Int),(1:Int)] i.1).bind fun j=>
  some (i.2,({ (Zh.mk a g b.1) with Match:=({ ({ a with x0:=c.1 }:ZB) with x2:=(Zb.mk j j) }:ZB) }:Zh))
 else
  some (d.2,({ (Zh.mk a g b.1) with Match:=({ a with x0:=c.1 }:ZB) }:Zh))).bind fun l=>
 match l with
 | (m,n)=>
  some (n,m)
def Zcg (c:Bool):Nat→Zf→(List Zh)→Int→Option (Zf × (List Zh))
 | 0,_,_,_=>none
 | p+1,i,d,j=>
  if (decide (j > (0:Int)))=true then
   ((Zgg i).bind fun a=>
   ((some c).bind fun q=>
   (if q=true then
    (Zw a.2 (6:Int)).bind fun k=>
    some ((k.1 == (5:Int)),k.2)
    else some (false,a.2)).bind fun f=>
   if f.1=true then
    (Zdr f.2 a.1.Match).bind fun l=>
    some (l.2,({ a.1 with Match:=l.1 }:Zh))
   else
    some (f.2,a.1)).bind fun r=>
   match r with
   | (m,b)=>
    ((some c).bind fun s=>
    (if s=true then
     (Zw m (6:Int)).bind fun n=>
     some ((n.1 == (5:Int)),n.2)
     else some (false,m)).bind fun g=>
    if g.1=true then
     some (g.2,({ b with Ports:=({ b.Ports with Hi:=(IntKind.wrap .u32 (b.Ports.Hi + (65536:Int))) }:Zb) }:Zh))
    else
     some (g.2,b)).bind fun t=>
    match t with
    | (u,o)=>
     if List.length d + List.length [o]≤lim then
     some (u,(d++[o]))
     else none).bind fun v=>
   match v with
   | (w,x)=>
    Zcg c p w x (IntKind.wrap .i64 (j - (1:Int)))
  else
   some (i,d)
def Zfz (b:Zf) (c:Int) (d:Bool):Option ((List Zh) × Zf):=
 (Zw b (IntKind.wrap .i64 (c + (1:Int)))).bind fun a=>
 (Zcg d fuel a.2 ([]:(List Zh)) a.1).bind fun f=>
 match f with
 | (g,i)=>
  some (i,g)
def Zb5 (a:Zh):Option Bool:=
 (Zg8 a.Match).bind fun b=>
 (some b).bind fun c=>
 (some (c && (decide (a.Ports.Lo≤a.Ports.Hi)))).bind fun d=>
 (if d=true then
  (Zi2 (3:Int)).bind fun f=>
  some (decide (a.Ports.Hi≤f))
  else some false).bind fun g=>
 some g
def Zdo (a:(List Zh)):Nat→ZL→Int→Option ZL
 | 0,_,_=>none
 | g+1,b,c=>
  if (decide (c<(List.length a:Int)))=true then
   ((idx a c).bind fun d=>
   ((Zb5 d).bind fun i=>
   if (!i)=true then
    some ({ d with Match:=(Arr5.mk (Zb.mk (1:Int) (0:Int)) Zq Zq Zq Zq) }:Zh)
   else
    some d).bind fun f=>
    if List.length b + List.length [f.Match]≤lim then
    some (b++[f.Match])
    else none).bind fun j=>
    Zdo a g j (IntKind.wrap .i64 (c + (1:Int)))
  else
   some b
def Zg3 (a:(List Zh)):Option ZL:=
 (Zdo a fuel ([]:ZL) (0:Int)).bind fun b=>
  some b
def Zd3 (a:Int) (d:(ZL × Int)):Nat→ZL→Int→Option ZL
 | 0,_,_=>none
 | f+1,b,c=>
  if (decide (c<(List.length d.1:Int)))=true then
   ((some (decide (a ≥ (0:Int)))).bind fun g=>
   if (g && (decide (a<(5:Int))))=true then
    (Zi2 a).bind fun i=>
    (idx b c).bind fun j=>
    if 0≤a∧a<5 then
    some (List.set b (Int.toNat c) (Arr5.set j a (Zb.mk (0:Int) i)))
    else none
   else
    some b).bind fun k=>
    Zd3 a d f k (IntKind.wrap .i64 (c + (1:Int)))
  else
   some b
def Zhf (c:ZL) (d:Int):Option (ZL × Int):=
 (Zc2 c).bind fun a=>
 if (a.2 != (0:Int))=true then
  some (([]:ZL),a.2)
 else
  if List.length a.1≤lim then
  (Zd3 d a fuel a.1 (0:Int)).bind fun f=>
   (Za6 f ([]:ZL)).bind fun b=>
   some (b.1,b.2)
  else none
def Zdf (c:Zj) (d:ZL) (f:Int):Option (ZL × Zj):=
 (Zhf d f).bind fun a=>
 (Zb4 c a.1 a.2).bind fun b=>
 some (b.1,b.2)
def Zb8 (c:Zh) (d:ZL):Nat→ZL→Int→Option ZL
 | 0,_,_=>none
 | g+1,b,a=>
  if (decide (a<(List.length d:Int)))=true then
   (idx b a).bind fun f=>
   (idx (List.set b (Int.toNat a) ({ f with x0:=(Zb.mk (IntKind.wrap .u32 (IntKind.wrap .i64 ((2:Int) * a))) (IntKind.wrap .u32 (IntKind.wrap .i64 ((2:Int) * a)))) }:ZB)) a).bind fun i=>
   Zb8 c d g (List.set (List.set b (Int.toNat a) ({ f with x0:=(Zb.mk (IntKind.wrap .u32 (IntKind.wrap .i64 ((2:Int) * a))) (IntKind.wrap .u32 (IntKind.wrap .i64 ((2:Int) * a)))) }:ZB)) (Int.toNat a) ({ i with x3:=c.Ports }:ZB)) (IntKind.wrap .i64 (a + (1:Int)))
  else
   some b
def Zb9 (b:Zh) (d:(ZL × Zj)):Nat→ZL→Int→Option ZL
 | 0,_,_=>none
 | f+1,c,a=>
  if (decide (a<(List.length d.1:Int)))=true then
   (idx c a).bind fun g=>
   Zb9 b d f (List.set c (Int.toNat a) ({ g with x0:=(Zb.mk b.Addr b.Addr) }:ZB)) (IntKind.wrap .i64 (a + (1:Int)))
  else
   some c
def Zek (d:Zj) (c:Zh) (b:ZL):Option (ZL × Zj):=
 if List.length b≤lim then
 (Zb8 c b fuel b (0:Int)).bind fun f=>
  (Zdf d f (0:Int)).bind fun a=>
  if List.length a.1≤lim then
  (Zb9 c a fuel a.1 (0:Int)).bind fun g=>
   some (g,a.2)
  else none
 else none
def Zb0 (b:(List Zh)) (c:((List ZL) × ZL × Zj)):Nat→Zj→ZL→Int→Option (Zj × ZL)
 | 0,_,_,_=>none
 | j+1,d,f,a=>
  if (decide (a<(List.length c.1:Int)))=true then
   ((idx c.1 a).bind fun k=>
   (idx b a).bind fun l=>
   (Zb5 l).bind fun m=>
   if m=true then
    (idx b a).bind fun n=>
    (Zek d n k).bind fun g=>
    (Zce g.2 f g.1).bind fun i=>
    some (i.2,i.1)
   else
    some (d,f)).bind fun o=>
   match o with
   | (p,q)=>
    Zb0 b c j p q (IntKind.wrap .i64 (a + (1:Int)))
  else
   some (d,f)
def Zf0 (b:(List Zh)) (g:ZL):Option (ZL × Int):=
 (Zg3 b).bind fun i=>
 (Zd7 Zd9 g).bind fun c=>
 (Zey c.2 i c.1).bind fun a=>
 (Zb0 b a fuel a.2.2 ([]:ZL) (0:Int)).bind fun j=>
 match j with
 | (k,l)=>
  (Zce k l a.2.1).bind fun d=>
  (Zdk d.2 d.1).bind fun f=>
  some (f.1,f.2)
def Zbe (c:(List Zh)) (i:(ZL × Zj)):Nat→Zj→ZL→ZL→Int→Option (Zj × ZL × ZL)
 | 0,_,_,_,_=>none
 | q+1,d,f,b,g=>
  if (decide (g<(List.length c:Int)))=true then
   ((idx c g).bind fun a=>
   (Zb5 a).bind fun r=>
   if (!r)=true then
    some (d,f,b)
   else
    (Zkh).bind fun s=>
    (Za8 d i.1 [({ ({ s with x0:=(Zb.mk a.Addr a.Addr) }:ZB) with x3:=a.Ports }:ZB)]).bind fun j=>
    (Zdf j.2 j.1 (0:Int)).bind fun k=>
    (Zdf k.2 k.1 (3:Int)).bind fun l=>
    (Za8 l.2 l.1 [a.Match]).bind fun m=>
    (Za8 m.2 m.1 b).bind fun n=>
    (Zce n.2 f n.1).bind fun o=>
    (Zc9 o.2 b [a.Match]).bind fun p=>
    some (p.2,o.1,p.1)).bind fun t=>
   match t with
   | (u,v,w)=>
    Zbe c i q u v w (IntKind.wrap .i64 (g + (1:Int)))
  else
   some (d,f,b)
def Zez (f:(List Zh)) (g:ZL):Option (ZL × Int):=
 (Zd7 Zd9 g).bind fun a=>
 (Zkh).bind fun i=>
 (Zbe f a fuel a.2 ([]:ZL) [i] (0:Int)).bind fun j=>
 match j with
 | (k,l,m)=>
  (Za8 k m a.1).bind fun b=>
  (Zce b.2 l b.1).bind fun c=>
  (Zdk c.2 c.1).bind fun d=>
  some (d.1,d.2)
def Zfb (a:Zh) (b:Zs):Option Bool:=
 (Zb5 a).bind fun c=>
 (some c).bind fun d=>
 (if d=true then
  (Zha a.Match b).bind fun f=>
  some f
  else some false).bind fun g=>
 some g
def Z2 (b:(List Zh)) (c:Zs):Nat→Int→Option (Unit ⊕ Int)
 | 0,_=>none
 | d+1,a=>
  if (decide (a<(List.length b:Int)))=true then
   (idx b a).bind fun f=>
   (Zfb f c).bind fun g=>
   if g=true then
    some (.inr a)
   else
    Z2 b c d (IntKind.wrap .i64 (a + (1:Int)))
  else
   some (.inl ())
def Za9 (a:(List Zh)) (b:Zs):Option Int:=
 (Z2 a b fuel (0:Int)).bind fun(c:(Unit ⊕ Int))=>
 match c with
 | .inl ()=>
   some (-1:Int)
 | .inr d=>
   some d
def Zf1 (a:(List Zh)) (b:Zs):Option Int:=
 (Za9 a b).bind fun c=>
 some c
def Zh2 (b:(Arr5 Int)):Nat→ZB→Int→Option ZB
 | 0,_,_=>none
 | d+1,c,a=>
  if (decide (a<(5:Int)))=true then
   if 0≤a∧a<5 then
   if 0≤a∧a<5 then
   Zh2 b d (Arr5.set c a (Zb.mk (Arr5.get b a) (Arr5.get b a))) (IntKind.wrap .i64 (a + (1:Int)))
   else none
   else none
  else
   some c
def Zmd (a:Zs):Option ZB:=
 (Zi1 a).bind fun b=>
 (Zh2 b fuel Zm (0:Int)).bind fun c=>
  some c
def Zhg (a:Zh) (b:Zs):Option ZB:=
 (Zmd b).bind fun c=>
 ((Zb5 a).bind fun d=>
 (some d).bind fun f=>
 (if f=true then
  (Zha a.Match b).bind fun g=>
  some g
  else some false).bind fun i=>
 if i=true then
  some ({ ({ c with x0:=(Zb.mk a.Addr a.Addr) }:ZB) with x3:=a.Ports }:ZB)
 else
  some c).bind fun j=>
  some j
def Zcn (a:Zh):Option Bool:=
 (Zes a.Match).bind fun b=>
 (some b).bind fun c=>
 (some (c && (decide (a.Ports.Lo≤a.Ports.Hi)))).bind fun d=>
 some (d && (decide (a.Ports.Hi≤(65535:Int))))
def Zf9 (a:Zh) (b:ZB):Option ZB:=
 some ({ ({ b with x0:=(Zb.mk a.Addr a.Addr) }:ZB) with x3:=a.Ports }:ZB)
def Zgr (a:ZL):Option ZL:=
 (Zgn a).bind fun b=>
 (Zbr fuel b ([]:ZL) (0:Int) (0:Int)).bind fun c=>
 some c
def Zc6 (d:(List Zh)) (f:Int) (a:(ZL × Zr)):Nat→ZL→Int→Option ZL
 | 0,_,_=>none
 | i+1,b,c=>
  if (decide (c<(List.length a.1:Int)))=true then
   (idx d f).bind fun j=>
   (idx a.1 c).bind fun k=>
   (Zf9 j k).bind fun g=>
   if List.length b + List.length [g]≤lim then
   Zc6 d f a i (b++[g]) (IntKind.wrap .i64 (c + (1:Int)))
   else none
  else
   some b
def Zb1 (a:(List Zh)):Nat→Zr→ZL→ZL→Int→Option (Zr × ZL × ZL)
 | 0,_,_,_,_=>none
 | l+1,d,c,f,b=>
  if (decide (b<(List.length a:Int)))=true then
   ((idx a b).bind fun m=>
   (Zcn m).bind fun n=>
   if (!n)=true then
    some (d,c,f)
   else
    (idx a b).bind fun o=>
    (Zv d (1:Int) c [o.Match]).bind fun i=>
    (idx a b).bind fun p=>
    (Zv i.2 (2:Int) c [p.Match]).bind fun g=>
    (Zc6 a b i fuel ([]:ZL) (0:Int)).bind fun q=>
     (Zgr q).bind fun j=>
     (some g.2.f_failed).bind fun r=>
     (Zv ({ g.2 with f_failed:=(r || (decide ((List.length j:Int) > (4096:Int)))) }:Zr) (0:Int) f j).bind fun k=>
     some (k.2,g.1,k.1)).bind fun s=>
   match s with
   | (t,u,v)=>
    Zb1 a l t u v (IntKind.wrap .i64 (b + (1:Int)))
  else
   some (d,c,f)
def Zf2 (d:(List Zh)) (f:ZL):Option (ZL × Int):=
 (Zv (Zr.mk false) (0:Int) f ([]:ZL)).bind fun a=>
 (Zb1 d fuel a.2 a.1 ([]:ZL) (0:Int)).bind fun g=>
 match g with
 | (i,j,k)=>
  (Zv i (0:Int) k j).bind fun b=>
  (Zd8 b.2 b.1).bind fun c=>
  some (c.1,c.2)
def Zeq (a:Int) (b:(ZL × Int)):Nat→ZL→Int→Option ZL
 | 0,_,_=>none
 | i+1,c,d=>
  if (decide (d<(List.length b.1:Int)))=true then
   (idx b.1 d).bind fun f=>
   (Ze6).bind fun g=>
   if 0≤a∧a<5 then
   if 0≤a∧a<5 then
   if List.length c + List.length [(Arr5.set f a (Arr5.get g a))]≤lim then
   Zeq a b i (c++[(Arr5.set f a (Arr5.get g a))]) (IntKind.wrap .i64 (d + (1:Int)))
   else none
   else none
   else none
  else
   some c
def Zid (d:ZL) (b:Int):Option (ZL × Int):=
 (Zfn d).bind fun a=>
 (some (a.2 != (0:Int))).bind fun f=>
 (some (f || (decide (b<(0:Int))))).bind fun g=>
 if (g || (decide (b ≥ (5:Int))))=true then
  some (a.1,a.2)
 else
  (Zeq b a fuel ([]:ZL) (0:Int)).bind fun i=>
   (Zgr i).bind fun j=>
   (Zem j).bind fun c=>
   some (c.1,c.2)
def Zb6 (a:Zr) (c:ZL) (d:Int):Option (ZL × Zr):=
 if a.f_failed=true then
  some (([]:ZL),a)
 else
  (Zid c d).bind fun b=>
  some (b.1,({ a with f_failed:=(b.2 != (0:Int)) }:Zr))
def Zaz (a:(List Zh)) (g:(ZL × Zr)):Nat→Zr→ZL→ZL→Int→Option (Zr × ZL × ZL)
 | 0,_,_,_,_=>none
 | p+1,d,c,f,b=>
  if (decide (b<(List.length a:Int)))=true then
   ((idx a b).bind fun q=>
   (Zcn q).bind fun r=>
   if (!r)=true then
    some (d,c,f)
   else
    (idx a b).bind fun s=>
    (Ze6).bind fun t=>
    (Zf9 s t).bind fun u=>
    (Zv d (1:Int) g.1 [u]).bind fun i=>
    (Zb6 i.2 i.1 (0:Int)).bind fun j=>
    (Zb6 j.2 j.1 (3:Int)).bind fun k=>
    (idx a b).bind fun v=>
    (Zv k.2 (1:Int) k.1 [v.Match]).bind fun l=>
    (Zv l.2 (1:Int) l.1 c).bind fun m=>
    (Zv m.2 (0:Int) f m.1).bind fun n=>
    (idx a b).bind fun w=>
    (Zv n.2 (2:Int) c [w.Match]).bind fun o=>
    some (o.2,o.1,n.1)).bind fun x=>
   match x with
   | (y,z,a0)=>
    Zaz a g p y z a0 (IntKind.wrap .i64 (b + (1:Int)))
  else
   some (d,c,f)
def Ze0 (f:(List Zh)) (g:ZL):Option (ZL × Int):=
 (Zv (Zr.mk false) (0:Int) g ([]:ZL)).bind fun a=>
 (Ze6).bind fun i=>
 (Zaz f a fuel a.2 [i] ([]:ZL) (0:Int)).bind fun j=>
 match j with
 | (k,l,m)=>
  (Zv k (1:Int) l a.1).bind fun b=>
  (Zv b.2 (0:Int) m b.1).bind fun c=>
  (Zd8 c.2 c.1).bind fun d=>
  some (d.1,d.2)
def Zhh (a:Zh) (b:Zs):Option ZB:=
 (Zcn a).bind fun c=>
 (some (!c)).bind fun d=>
 (if d=true then some true else
  (Ze7 a.Match b).bind fun f=>
  some (!f)
  ).bind fun g=>
 if g=true then
  (Zia b).bind fun i=>
  some i
 else
  (Zia b).bind fun j=>
  (Zf9 a j).bind fun k=>
  some k
def Zcu (a:(List Zh)):Nat→Int→Option (Unit ⊕ Bool)
 | 0,_=>none
 | c+1,b=>
  if (decide (b<(List.length a:Int)))=true then
   (idx a b).bind fun d=>
   (Zb5 d).bind fun f=>
   if (!f)=true then
    some (.inr false)
   else
    Zcu a c (IntKind.wrap .i64 (b + (1:Int)))
  else
   some (.inl ())
def Zfo (a:(List Zh)):Option Bool:=
 (Zcu a fuel (0:Int)).bind fun(b:(Unit ⊕ Bool))=>
 match b with
 | .inl ()=>
   some (decide ((List.length a:Int)≤(256:Int)))
 | .inr c=>
   some c
def Zcv (a:(List Zh)):Nat→Int→Option (Unit ⊕ Bool)
 | 0,_=>none
 | c+1,b=>
  if (decide (b<(List.length a:Int)))=true then
   (idx a b).bind fun d=>
   (Zcn d).bind fun f=>
   if (!f)=true then
    some (.inr false)
   else
    Zcv a c (IntKind.wrap .i64 (b + (1:Int)))
  else
   some (.inl ())
def Zfp (a:(List Zh)):Option Bool:=
 (Zcv a fuel (0:Int)).bind fun(b:(Unit ⊕ Bool))=>
 match b with
 | .inl ()=>
   some (decide ((List.length a:Int)≤(256:Int)))
 | .inr c=>
   some c
def Zc7 (b:(List Zh)) (c:Zs):Nat→Int→Option (Unit ⊕ Int)
 | 0,_=>none
 | d+1,a=>
  if (decide (a<(List.length b:Int)))=true then
   (idx b a).bind fun f=>
   (Zcn f).bind fun g=>
   (some g).bind fun i=>
   (if i=true then
    (idx b a).bind fun j=>
    (Ze7 j.Match c).bind fun k=>
    some k
    else some false).bind fun l=>
   if l=true then
    some (.inr a)
   else
    Zc7 b c d (IntKind.wrap .i64 (a + (1:Int)))
  else
   some (.inl ())
def Zf3 (a:(List Zh)) (b:Zs):Option Int:=
 (Zc7 a b fuel (0:Int)).bind fun(c:(Unit ⊕ Int))=>
 match c with
 | .inl ()=>
   some (-1:Int)
 | .inr d=>
   some d
def Zdj (a:(List Zh)) (c:Zs):Nat→Int→Option (Unit ⊕ Bool)
 | 0,_=>none
 | d+1,b=>
  if (decide (b<(List.length a:Int)))=true then
   (idx a b).bind fun f=>
   (Zhg f c).bind fun g=>
   (idx a b).bind fun i=>
   (Zhh i c).bind fun j=>
   if (!(Zer g j))=true then
    some (.inr false)
   else
    Zdj a c d (IntKind.wrap .i64 (b + (1:Int)))
  else
   some (.inl ())
def Zfq (a:(List Zh)) (b:ZL) (c:Zs):Option Bool:=
 (Zf0 a b).bind fun d=>
 (Zf2 a b).bind fun f=>
 (Zez a b).bind fun g=>
 (Ze0 a b).bind fun i=>
 (Zdj a c fuel (0:Int)).bind fun(j:(Unit ⊕ Bool))=>
 match j with
 | .inl ()=>
   (Zhc d.1 f.1).bind fun k=>
   (some k).bind fun l=>
   (some (l && (d.2 == f.2))).bind fun m=>
   (if m=true then
    (Zhc g.1 i.1).bind fun n=>
    some n
    else some false).bind fun o=>
   (some o).bind fun p=>
   (some (p && (g.2 == i.2))).bind fun q=>
   (if q=true then
    (Zfo a).bind fun r=>
    (Zfp a).bind fun s=>
    some (r == s)
    else some false).bind fun t=>
   (some t).bind fun u=>
   (if u=true then
    (Zf1 a c).bind fun v=>
    (Zf3 a c).bind fun w=>
    some (v == w)
    else some false).bind fun x=>
   some x
 | .inr y=>
   some y
def Zbt:Nat→Zf→Int→Option (Zf ⊕ Bool)
 | 0,_,_=>none
 | k+1,c,d=>
  if (decide (d<(3:Int)))=true then
   (Zfz c (3:Int) true).bind fun a=>
   (Zg0 a.2 (3:Int)).bind fun f=>
   (Zei f.2).bind fun b=>
   (Zfq a.1 f.1 b.1).bind fun l=>
   (some (!l)).bind fun m=>
   (if m=true then some (true,b.2) else
    (Zeu b.2 (2:Int) true).bind fun g=>
    (Zei g.2).bind fun i=>
    (Zfq a.1 g.1 i.1).bind fun n=>
    some ((!n),i.2)
    ).bind fun j=>
   if j.1=true then
    some (.inr false)
   else
    Zbt k j.2 (IntKind.wrap .i64 (d + (1:Int)))
  else
   some (.inl c)
def Zgc (c:(List Int)) (a:(List Zh)) (b:ZL) (d:Zs):Option Bool:=
 (Zkf c).bind fun f=>
 (Zbt fuel f (0:Int)).bind fun(g:(Zf ⊕ Bool))=>
 match g with
 | .inl _=>
   (some (decide ((List.length a:Int) > (4:Int)))).bind fun i=>
   (if i=true then some true else
    (Zhu b).bind fun j=>
    some j
    ).bind fun k=>
   (some k).bind fun l=>
   (if l=true then some true else
    (Zfq a b d).bind fun m=>
    (some m).bind fun n=>
    (if n=true then
     (Zlb).bind fun o=>
     some o
     else some false).bind fun p=>
    some p
    ).bind fun q=>
   some q
 | .inr r=>
   some r
end Go.AM
set_option maxRecDepth 1000000
namespace Go.AM
open Go Go.Proofs
def glob:Glob:=[(0,Zdm Za7)]
def T0:Tab:=[]
theorem T0_ok:T0.ok Tryz.prog glob:=Tab.nil
def T1:Tab:=(147,[.sc (.int .i64 2),.sl 10 [[.sc (.int .u32 0),.sc (.int .u32 4294967295),.sc (.int .u32 5),.sc (.int .u32 5),.sc (.int .u32 0),.sc (.int .u32 255),.sc (.int .u32 0),.sc (.int .u32 65535),.sc (.int .u32 80),.sc (.int .u32 80)]],.sl 10 [[.sc (.int .u32 0),.sc (.int .u32 4294967295),.sc (.int .u32 5),.sc (.int .u32 5),.sc (.int .u32 0),.sc (.int .u32 255),.sc (.int .u32 0),.sc (.int .u32 65535),.sc (.int .u32 80),.sc (.int .u32 80)]],.sc (.func (.func 134) #[] #[]),.sc (.int .i64 4096)],.tup [.sl 10 [[.sc (.int .u32 0),.sc (.int .u32 0),.sc (.int .u32 0),.sc (.int .u32 0),.sc (.int .u32 0),.sc (.int .u32 255),.sc (.int .u32 0),.sc (.int .u32 65535),.sc (.int .u32 80),.sc (.int .u32 80)]],.sc (.bool true)]) :: T0
theorem T1_ok:T1.ok Tryz.prog glob:=Tab.cons T0_ok 100000 (by kernel_rfl)
def T2:Tab:=(133,[.sl 10 [[.sc (.int .u32 0),.sc (.int .u32 4294967295),.sc (.int .u32 5),.sc (.int .u32 5),.sc (.int .u32 0),.sc (.int .u32 255),.sc (.int .u32 0),.sc (.int .u32 65535),.sc (.int .u32 80),.sc (.int .u32 80)]],.sl 10 [[.sc (.int .u32 0),.sc (.int .u32 4294967295),.sc (.int .u32 5),.sc (.int .u32 5),.sc (.int .u32 0),.sc (.int .u32 255),.sc (.int .u32 0),.sc (.int .u32 65535),.sc (.int .u32 80),.sc (.int .u32 80)]],.sc (.func (.func 134) #[] #[])],.tup [.sl 10 [[.sc (.int .u32 0),.sc (.int .u32 4294967295),.sc (.int .u32 5),.sc (.int .u32 5),.sc (.int .u32 0),.sc (.int .u32 255),.sc (.int .u32 0),.sc (.int .u32 65535),.sc (.int .u32 80),.sc (.int .u32 80)]],.sc (.int .i64 0)]) :: T1
theorem T2_ok:T2.ok Tryz.prog glob:=Tab.cons T1_ok 100000 (by kernel_rfl)
def T3:Tab:=(147,[.sc (.int .i64 2),.sl 10 [[.sc (.int .u32 0),.sc (.int .u32 4294967295),.sc (.int .u32 5),.sc (.int .u32 5),.sc (.int .u32 0),.sc (.int .u32 255),.sc (.int .u32 0),.sc (.int .u32 65535),.sc (.int .u32 80),.sc (.int .u32 80)]],.sl 10 [[.sc (.int .u32 0),.sc (.int .u32 4294967295),.sc (.int .u32 5),.sc (.int .u32 5),.sc (.int .u32 0),.sc (.int .u32 255),.sc (.int .u32 0),.sc (.int .u32 65535),.sc (.int .u32 80),.sc (.int .u32 80)]],.sc (.func (.func 135) #[] #[]),.sc (.int .i64 4096)],.tup [.sl 10 [],.sc (.bool true)]) :: T2
theorem T3_ok:T3.ok Tryz.prog glob:=Tab.cons T2_ok 100000 (by kernel_rfl)
def T4:Tab:=(133,[.sl 10 [[.sc (.int .u32 0),.sc (.int .u32 4294967295),.sc (.int .u32 5),.sc (.int .u32 5),.sc (.int .u32 0),.sc (.int .u32 255),.sc (.int .u32 0),.sc (.int .u32 65535),.sc (.int .u32 80),.sc (.int .u32 80)]],.sl 10 [[.sc (.int .u32 0),.sc (.int .u32 4294967295),.sc (.int .u32 5),.sc (.int .u32 5),.sc (.int .u32 0),.sc (.int .u32 255),.sc (.int .u32 0),.sc (.int .u32 65535),.sc (.int .u32 80),.sc (.int .u32 80)]],.sc (.func (.func 135) #[] #[])],.tup [.sl 10 [],.sc (.int .i64 0)]) :: T3
theorem T4_ok:T4.ok Tryz.prog glob:=Tab.cons T3_ok 100000 (by kernel_rfl)
def T5:Tab:=(147,[.sc (.int .i64 1),.sc (.slice none 0 0),.sl 10 [[.sc (.int .u32 0),.sc (.int .u32 4294967295),.sc (.int .u32 7),.sc (.int .u32 7),.sc (.int .u32 0),.sc (.int .u32 255),.sc (.int .u32 0),.sc (.int .u32 65535),.sc (.int .u32 8080),.sc (.int .u32 8080)]],.sc (.func (.func 132) #[] #[]),.sc (.int .i64 4096)],.tup [.sl 10 [[.sc (.int .u32 0),.sc (.int .u32 0),.sc (.int .u32 7),.sc (.int .u32 7),.sc (.int .u32 0),.sc (.int .u32 255),.sc (.int .u32 0),.sc (.int .u32 65535),.sc (.int .u32 8080),.sc (.int .u32 8080)]],.sc (.bool true)]) :: T4
theorem T5_ok:T5.ok Tryz.prog glob:=Tab.cons T4_ok 100000 (by kernel_rfl)
def T6:Tab:=(147,[.sc (.int .i64 1),.sl 10 [[.sc (.int .u32 0),.sc (.int .u32 4294967295),.sc (.int .u32 7),.sc (.int .u32 7),.sc (.int .u32 0),.sc (.int .u32 255),.sc (.int .u32 0),.sc (.int .u32 65535),.sc (.int .u32 8080),.sc (.int .u32 8080)]],.sc (.slice none 0 0),.sc (.func (.func 132) #[] #[]),.sc (.int .i64 4096)],.tup [.sl 10 [[.sc (.int .u32 0),.sc (.int .u32 0),.sc (.int .u32 7),.sc (.int .u32 7),.sc (.int .u32 0),.sc (.int .u32 255),.sc (.int .u32 0),.sc (.int .u32 65535),.sc (.int .u32 8080),.sc (.int .u32 8080)]],.sc (.bool true)]) :: T5
theorem T6_ok:T6.ok Tryz.prog glob:=Tab.cons T5_ok 100000 (by kernel_rfl)
def T7:Tab:=(16,[.sl 20 [[.sc (.int .u32 0),.sc (.int .u32 4294967295),.sc (.int .u32 5),.sc (.int .u32 5),.sc (.int .u32 0),.sc (.int .u32 255),.sc (.int .u32 0),.sc (.int .u32 65535),.sc (.int .u32 80),.sc (.int .u32 80),.sc (.int .u32 0),.sc (.int .u32 4294967295),.sc (.int .u32 7),.sc (.int .u32 7),.sc (.int .u32 0),.sc (.int .u32 255),.sc (.int .u32 0),.sc (.int .u32 65535),.sc (.int .u32 8080),.sc (.int .u32 8080)]],.sl 10 [[.sc (.int .u32 0),.sc (.int .u32 4294967295),.sc (.int .u32 5),.sc (.int .u32 5),.sc (.int .u32 0),.sc (.int .u32 255),.sc (.int .u32 0),.sc (.int .u32 65535),.sc (.int .u32 80),.sc (.int .u32 80)]]],.tup [.sl 10 [[.sc (.int .u32 0),.sc (.int .u32 4294967295),.sc (.int .u32 7),.sc (.int .u32 7),.sc (.int .u32 0),.sc (.int .u32 255),.sc (.int .u32 0),.sc (.int .u32 65535),.sc (.int .u32 8080),.sc (.int .u32 8080)]],.sc (.int .i64 0)]) :: T6
theorem T7_ok:T7.ok Tryz.prog glob:=Tab.cons T6_ok 100000 (by kernel_rfl)
def T8:Tab:=(14,[],.sc (.bool true)) :: T7
theorem T8_ok:T8.ok Tryz.prog glob:=Tab.cons T7_ok 100000 (by kernel_rfl)
end Go.AM
set_option maxRecDepth 100000
namespace Go.AM
open Go Go.Proofs
def Zu2 (r:Bool):PV→List Blk→Prop:=fun p K=>p=(vb r)∧K=[]
theorem Zu3 (r:Bool) (hF:Zlb=some r):ACall Tryz.prog glob 14 [] [] (Zu2 r):=by
 have hr:=someb hF
 subst hr
 exact(T8_ok _ (List.mem_cons.2 (.inl rfl))).1
def Zxl (r:Zf):PV→List Blk→Prop:=fun p K=>p=(.ptr 0 0)∧K=[.cells (Zi r)]
theorem Zxm (a:(List Int)) (r:Zf) (hF:Zkf a=some r):ACall Tryz.prog glob 8 [(slc 1 Zaj a)] [] (Zxl r):=by
 refine ACall.body Tryz.func8 rfl (by kernel_rfl) ?_
 unfold Zkf at hF
 refine AWP.seq (AWP.rg0 [] [(0,(slc 1 Zaj a))] (AWP.seq (AWP.rg [] [(2,(.ptr 0 0))] [.cells (Zi (Zf.mk a (0:Int)))] (AWP.ret ?_))))
 have hr:=someb hF
 subst hr
 exact(FnQ.f0 1 (.inr rfl))
def Zxn (r:Int):PV→List Blk→Prop:=fun p K=>p=(i64 r)∧K=[]
theorem Zqa (a:Int) (b:Int) (r:Int) (hF:Zh9 a b=some r):ACall Tryz.prog glob 86 [(i64 a),(i64 b)] [] (Zxn r):=by
 refine ACall.body Tryz.func86 rfl (by kernel_rfl) ?_
 unfold Zh9 at hF
 refine AWP.seq (AWP.rg0 [] [(0,(i64 a)),(1,(i64 b))] (AWP.seq ?_))
 obtain⟨c,hF⟩:=chkb hF
 refine AWP.rg0 [(4,.rem c)] [(4,(i64 (ZI (Int.tmod (IntKind.wrap .u64 a) (IntKind.wrap .u64 b)))))] (AWP.ret ?_)
 have hr:=someb hF
 subst hr
 exact(FnQ.f0 0 (.inr rfl))
def Zqb (r:(Int × Zf)):PV→List Blk→Prop:=fun p K=>p=(i64 r.1)∧K=[.cells (Zi r.2)]
theorem Z3 (a:Zf) (b:Int) (r:(Int × Zf)) (hF:Zw a b=some r):ACall Tryz.prog glob 32 [(.ptr 0 0),(i64 b)] [.cells (Zi a)] (Zqb r):=by
 refine ACall.body Tryz.func32 rfl (by kernel_rfl) ?_
 unfold Zw at hF
 refine AWP.seq (AWP.rg0 [] [(0,(.ptr 0 0)),(1,(i64 b))] (AWP.seq (AWP.seq ?_)))
 obtain⟨d,c,hF⟩:=bindb hF
 replace c:=someb c
 refine AWP.to [(0,(.ptr 0 0)),(1,(i64 b)),(18,(vb (d || (decide (a.f_i ≥ (List.length a.f_l:Int))))))] [.cells (Zi a)] ?_ ?_
 ·cases d with
  | false=>
   exact AWP.drT [(2,.bool c),(11,.len Zaj a.f_l)] 14 [] [] []
  | true=>
   exact AWP.drT [(2,.bool c)] 14 [] [] []
 refine AWP.cif hF (fun g hF=>?_) (fun g hF=>?_)
 ·refine AWP.seq (AWP.rg0 [] [(4,(i64 (0:Int)))] (AWP.ret ?_))
  have hr:=someb hF
  subst hr
  exact(FnQ.f0 1 (.inr rfl))
 ·refine AWP.skip (AWP.seq (AWP.rg [] [(0,(.ptr 0 0)),(1,(i64 b))] [.cells (Zi ({ a with f_i:=(ZI (a.f_i + (1:Int))) }:Zf))] (AWP.seq ?_)))
  obtain⟨i,j,hF⟩:=bindb hF
  obtain⟨f,k,hF⟩:=bindb hF
  refine AWP.dr [(9,.idx Zaj j),(12,.call Tryz.func86 [] (Zqa i b f k))] 13 [] [] [] [(4,(i64 f))] [.cells (Zi ({ a with f_i:=(ZI (a.f_i + (1:Int))) }:Zf))] (AWP.ret ?_)
  have hr:=someb hF
  subst hr
  exact(FnQ.f0 1 (.inr rfl))
def Zpe (r:Int):PV→List Blk→Prop:=fun p K=>p=(u32 r)∧K=[]
abbrev Zwr (r:Int):Exit→St→List Blk→Prop:=FnQ Tryz.prog Tryz.f43.results 0 (Zpe r)
theorem Zjv (a:Int) (r:Int) (hF:Zgv a=some r):ACall Tryz.prog glob 43 [(i64 a)] [] (Zpe r):=by
 refine ACall.body Tryz.func43 rfl (by kernel_rfl) ?_
 unfold Zgv at hF
 refine AWP.seq (AWP.rg0 [] [(0,(i64 a))] ?_)
 obtain⟨b,c,hF⟩:=bindb hF
 refine AWP.seq ?_
 refine AWP.mid (fun e st H=>(e=.normal∧b=(.inl ())∧st=[]∧H=[])∨(e=.ret∧∃ r,b=(.inr r)∧Zwr r e st H)) ?_ ?_
 ·clear hF
  have hF:=c
  refine AWP.seq (AWP.rg0 [] [(3,(i64 a))] (AWP.block ?_))
  obtain⟨d,f,hF⟩:=bindb hF
  refine AWP.seq ?_
  refine AWP.mid (fun e st H=>e=.normal∧st=[(3,(i64 a)),(4,(vb d))]∧H=[]) ?_ ?_
  ·clear hF
   have hF:=f
   refine AWP.seq (AWP.rg0 [] [(3,(i64 a)),(4,(vb (a == (0:Int))))] ?_)
   refine AWP.cif hF (fun g hF=>?_) (fun g hF=>?_)
   ·refine AWP.skip (LeQ.start (LeQ.pk [3,4] 0 ?_))
    have hr:=someb hF
    subst hr
    exact⟨rfl,by kernel_rfl,by kernel_rfl⟩
   ·refine AWP.rg0 [] [(3,(i64 a)),(4,(vb (a == (1:Int))))] (LeQ.start (LeQ.pk [3,4] 0 ?_))
    have hr:=someb hF
    subst hr
    exact⟨rfl,by kernel_rfl,by kernel_rfl⟩
  ·rintro _ _ _ ⟨rfl,rfl,rfl⟩
   refine AWP.cif hF (fun i hF=>?_) (fun i hF=>?_)
   ·refine AWP.seq (AWP.rg0 [] [(2,(u32 (4294967295:Int)))] (AWP.ret ?_))
    exact LeQ.of (.inr ⟨rfl,(4294967295:Int),(someb hF).symm,(FnQ.f0 0 (.inr rfl))⟩)
   ·refine AWP.seq (AWP.rg0 [] [(3,(i64 a)),(7,(vb (a == (2:Int))))] ?_)
    refine AWP.cif hF (fun j hF=>?_) (fun j hF=>?_)
    ·refine AWP.seq (AWP.rg0 [] [(2,(u32 (255:Int)))] (AWP.ret ?_))
     exact LeQ.of (.inr ⟨rfl,(255:Int),(someb hF).symm,(FnQ.f0 0 (.inr rfl))⟩)
    ·obtain⟨k,l,hF⟩:=bindb hF
     refine AWP.seq ?_
     refine AWP.mid (fun e st H=>e=.normal∧st=[(9,(vb k))]∧H=[]) ?_ ?_
     ·clear hF
      have hF:=l
      refine AWP.seq (AWP.rg0 [] [(3,(i64 a)),(9,(vb (a == (3:Int))))] ?_)
      refine AWP.cif hF (fun m hF=>?_) (fun m hF=>?_)
      ·refine AWP.skip (LeQ.start (LeQ.pk [9] 0 ?_))
       have hr:=someb hF
       subst hr
       exact⟨rfl,by kernel_rfl,by kernel_rfl⟩
      ·refine AWP.rg0 [] [(9,(vb (a == (4:Int))))] (LeQ.start (LeQ.pk [9] 0 ?_))
       have hr:=someb hF
       subst hr
       exact⟨rfl,by kernel_rfl,by kernel_rfl⟩
     ·rintro _ _ _ ⟨rfl,rfl,rfl⟩
      refine AWP.cif hF (fun n hF=>?_) (fun n hF=>?_)
      ·refine AWP.seq (AWP.rg0 [] [(2,(u32 (65535:Int)))] (AWP.ret ?_))
       exact LeQ.of (.inr ⟨rfl,(65535:Int),(someb hF).symm,(FnQ.f0 0 (.inr rfl))⟩)
      ·refine AWP.skip (LeQ.start (LeQ.pk [] 0 ?_))
       exact(.inl ⟨rfl,(someb hF).symm,by kernel_rfl,by kernel_rfl⟩)
 ·rintro _ _ _ (⟨rfl,rfl,rfl,rfl⟩ | ⟨rfl,o,rfl,hq⟩)
  ·refine AWP.seq (AWP.rg0 [] [(2,(u32 (0:Int)))] (AWP.ret ?_))
   have hr:=someb hF
   subst hr
   exact(FnQ.f0 0 (.inr rfl))
  ·have hr:=someb hF
   subst hr
   exact hq
def Zu4 (r:ZB):PV→List Blk→Prop:=fun p K=>p=(Zag r)∧K=[]
theorem Zga (r:ZB) (hF:Ze6=some r):ACall Tryz.prog glob 47 [] [] (Zu4 r):=by
 refine ACall.body Tryz.func47 rfl (by kernel_rfl) ?_
 unfold Ze6 at hF
 refine AWP.seq (AWP.rg [] [(0,(.ptr 0 0))] [.cells (Za Zm)] (AWP.seq (AWP.rg [] [(0,(.ptr 0 0)),(1,(.ptr 1 0))] [.cells (Za Zm),.cells (Za Zm)] (AWP.seq (AWP.seq (AWP.rg0 [] [(0,(.ptr 0 0)),(1,(.ptr 1 0)),(2,(i64 (0:Int)))] ?_))))))
 obtain⟨c,j,hF⟩:=bindb hF
 refine AWP.mid (fun e st H=>e=.normal∧st=[(0,(.ptr 0 0)),(1,(.ptr 1 0))]∧H=[.cells (Za Zm),.cells (Za c)]) ?_ ?_
 ·clear hF
  refine AWP.kp [0,1,2] 2 ?_
  refine AWP.bround (fun n st H=>∃ b,∃ a,Zh7 n b a=some c∧st=[(0,(.ptr 0 0)),(1,(.ptr 1 0)),(2,(i64 a))]∧H=[.cells (Za Zm),.cells (Za b)]) fuel ⟨Zm,(0:Int),j,by kernel_rfl,by kernel_rfl⟩ ?_
  rintro f st H ⟨b,a,hF,rfl,rfl⟩
  cases f with
  | zero=>exact noneb hF
  | succ f=>
   rw [Zh7] at hF
   refine AWP.seq (AWP.seq (AWP.rg0 [] [(0,(.ptr 0 0)),(1,(.ptr 1 0)),(2,(i64 a)),(4,(vb (decide (a<(5:Int)))))] ?_))
   refine AWP.cif hF (fun k hF=>?_) (fun k hF=>?_)
   ·refine AWP.skip (AWP.seq (AWP.block ?_))
    obtain⟨d,l,hF⟩:=bindb hF
    obtain⟨g,hF⟩:=chkb hF
    refine AWP.rg [(2,.call Tryz.func43 [] (Zjv a d l)),(3,.ixd g),(5,.stA (fun i=>Za (Arr5.set b i ({ (Arr5.get b i) with Hi:=d }:Zb))) 0 2 1 g)] [(0,(.ptr 0 0)),(1,(.ptr 1 0)),(2,(i64 a))] [.cells (Za Zm),.cells (Za (Arr5.set b a ({ (Arr5.get b a) with Hi:=d }:Zb)))] (AWP.rg0 [] [(0,(.ptr 0 0)),(1,(.ptr 1 0)),(2,(i64 (ZI (a + (1:Int)))))] (LeQ.start (LeQ.pk [0,1,2] 2 ?_)))
    exact⟨f,Nat.lt_succ_self _,(Arr5.set b a ({ (Arr5.get b a) with Hi:=d }:Zb)),(ZI (a + (1:Int))),hF,by kernel_rfl,by kernel_rfl⟩
   ·refine AWP.exit (LeQ.start (LeQ.pk [0,1] 2 ?_))
    have hr:=someb hF
    subst hr
    exact⟨rfl,by kernel_rfl,by kernel_rfl⟩
 ·rintro _ _ _ ⟨rfl,rfl,rfl⟩
  refine AWP.seq (AWP.rg [] [(0,(.ptr 0 0))] [.cells (Za c),.cells (Za c)] (AWP.ret ?_))
  have hr:=someb hF
  subst hr
  exact(FnQ.f0 0 (.inr rfl))
def Zoq (r:(Int × Zf)):PV→List Blk→Prop:=fun p K=>p=(u32 r.1)∧K=[.cells (Zi r.2)]
theorem Zg6 (b:Zf) (a:Int) (r:(Int × Zf)) (hF:Zcx b a=some r):ACall Tryz.prog glob 46 [(.ptr 0 0),(u32 a)] [.cells (Zi b)] (Zoq r):=by
 refine ACall.body Tryz.func46 rfl (by kernel_rfl) ?_
 unfold Zcx at hF
 refine AWP.seq (AWP.rg0 [] [(0,(.ptr 0 0)),(1,(u32 a))] (AWP.seq ?_))
 obtain⟨c,f,hF⟩:=bindb hF
 obtain⟨d,g,hF⟩:=bindb hF
 refine AWP.rg [(7,.call Tryz.func32 [] (Z3 b (17:Int) c f)),(8,.idx Zeh g)] [(1,(u32 a)),(5,(u32 d))] [.cells (Zi c.2)] (AWP.seq (AWP.rg0 [] [(4,(u32 (iMin d a)))] (AWP.ret ?_)))
 have hr:=someb hF
 subst hr
 exact(FnQ.f0 1 (.inr rfl))
def Zpg (r:(Zb × Zf)):PV→List Blk→Prop:=fun p K=>p=(Zmb r.1)∧K=[.cells (Zi r.2)]
theorem Zf4 (d:Zf) (b:Int) (r:(Zb × Zf)) (hF:Zdx d b=some r):ACall Tryz.prog glob 118 [(.ptr 0 0),(u32 b)] [.cells (Zi d)] (Zpg r):=by
 refine ACall.body Tryz.func118 rfl (by kernel_rfl) ?_
 unfold Zdx at hF
 refine AWP.seq (AWP.rg [] [(0,(.ptr 0 0)),(1,(u32 b)),(4,(.ptr 1 0))] [.cells (Zi d),.cells (Zk Zq)] (AWP.seq ?_))
 obtain⟨c,f,hF⟩:=bindb hF
 obtain⟨a,g,hF⟩:=bindb hF
 refine AWP.rg [(2,.call Tryz.func46 [] (Zg6 d b c f)),(5,.call Tryz.func46 [] (Zg6 c.2 b a g))] [(4,(.ptr 1 0)),(5,(u32 c.1)),(6,(u32 a.1))] [.cells (Zi a.2),.cells (Zk Zq)] (AWP.seq (AWP.rg [] [(4,(.ptr 1 0))] [.cells (Zi a.2),.cells (Zk (Zb.mk (iMin c.1 a.1) (iMax c.1 a.1)))] (AWP.ret ?_)))
 have hr:=someb hF
 subst hr
 exact(FnQ.f0 1 (.inr rfl))
def Ztw (r:Zbn):PV→List Blk→Prop:=fun p K=>p=(Zlq r)∧K=[]
theorem Zmw (a:Int) (r:Zbn) (hF:Zgk a=some r):ACall Tryz.prog glob 88 [(i64 a)] [] (Ztw r):=by
 refine ACall.body Tryz.func88 rfl (by kernel_rfl) ?_
 unfold Zgk at hF
 refine AWP.seq (AWP.rg [] [(0,(i64 a)),(2,(.ptr 0 0))] [.cells (Zde Zxk)] (AWP.seq ?_))
 obtain⟨b,c,hF⟩:=bindb hF
 obtain⟨d,f,hF⟩:=bindb hF
 refine AWP.rg [(8,.call Tryz.func86 [] (Zqa a (6:Int) b c)),(9,.idx Zde f)] [(2,(.ptr 0 0))] [.cells (Zde d)] (AWP.ret ?_)
 have hr:=someb hF
 subst hr
 exact(FnQ.f0 0 (.inr rfl))
def Zu5 (r:Int):PV→List Blk→Prop:=fun p K=>p=(u64 r)∧K=[]
theorem Znz (a:Int) (r:Int) (hF:Zjd a=some r):ACall Tryz.prog glob 127 [(i64 a)] [] (Zu5 r):=by
 refine ACall.body Tryz.func127 rfl (by kernel_rfl) ?_
 unfold Zjd at hF
 refine AWP.seq (AWP.rg0 [] [(0,(i64 a))] (AWP.seq ?_))
 obtain⟨b,hF⟩:=chkb hF
 refine AWP.rg0 [(3,.sh b)] [(2,(u64 (bShl .u64 (1:Int) (IntKind.wrap .u64 (ZI ((32:Int) - a))))))] (AWP.ret ?_)
 have hr:=someb hF
 subst hr
 exact(FnQ.f0 0 (.inr rfl))
def Ztx (r:Bool):PV→List Blk→Prop:=fun p K=>p=(vb r)∧K=[]
theorem Zty (b:Zbn) (r:Bool) (hF:Zkg b=some r):ACall Tryz.prog glob 126 [(Zlq b)] [] (Ztx r):=by
 refine ACall.body Tryz.func126 rfl (by kernel_rfl) ?_
 unfold Zkg at hF
 refine AWP.seq (AWP.rg [] [(1,(.ptr 0 0))] [.cells (Zde b)] (AWP.seq ?_))
 obtain⟨g,c,hF⟩:=bindb hF
 replace c:=someb c
 obtain⟨i,d,hF⟩:=bindb hF
 replace d:=someb d
 obtain⟨j,f,hF⟩:=bindb hF
 refine AWP.to [(2,(vb j))] [.cells (Zde b)] ?_ ?_
 ·cases g with
  | false=>
   subst d
   have k:=someb (ifF f rfl)
   subst k
   exact AWP.drT [(3,.bool c)] 18 [] [] []
  | true=>
   cases i with
   | false=>
    have l:=someb (ifF f rfl)
    subst l
    exact AWP.drT [(3,.bool c),(8,.bool d)] 18 [] [] []
   | true=>
    have a:=ifT f rfl
    obtain⟨m,n,a⟩:=bindb a
    obtain⟨o,a⟩:=chkb a
    replace a:=someb a
    subst a
    exact AWP.drT [(3,.bool c),(8,.bool d),(14,.call Tryz.func127 [] (Znz b.Bits m n)),(15,.rem o)] 18 [] [] []
 refine AWP.ret ?_
 have hr:=someb hF
 subst hr
 exact(FnQ.f0 0 (.inr rfl))
def Zxo (r:(Zb × Bool)):PV→List Blk→Prop:=fun p K=>p=(.tup [(Zmb r.1),(vb r.2)])∧K=[]
theorem Zqc (a:Zbn) (r:(Zb × Bool)) (hF:Zi0 a=some r):ACall Tryz.prog glob 87 [(Zlq a)] [] (Zxo r):=by
 refine ACall.body Tryz.func87 rfl (by kernel_rfl) ?_
 unfold Zi0 at hF
 refine AWP.seq (AWP.rg [] [(1,(.ptr 0 0)),(2,(.ptr 1 0))] [.cells (Zde a),.cells (Zk Zq)] (AWP.seq (AWP.seq ?_)))
 obtain⟨b,d,hF⟩:=bindb hF
 refine AWP.rg0 [(1,.call Tryz.func126 [] (Zty a b d))] [(1,(.ptr 0 0)),(2,(.ptr 1 0)),(6,(vb (!b)))] ?_
 refine AWP.cif hF (fun f hF=>?_) (fun f hF=>?_)
 ·refine AWP.seq (AWP.rg [] [(2,(.ptr 1 0)),(3,(vb false))] [.cells (Zde a),.cells (Zk (Zb.mk (0:Int) (0:Int)))] (AWP.ret ?_))
  have hr:=someb hF
  subst hr
  exact(FnQ.f0 0 (.inr rfl))
 ·refine AWP.skip (AWP.seq ?_)
  obtain⟨c,g,hF⟩:=bindb hF
  refine AWP.dr [(7,.call Tryz.func127 [] (Znz a.Bits c g))] 12 [] [] [] [(2,(.ptr 1 0)),(3,(vb true))] [.cells (Zde a),.cells (Zk (Zb.mk a.Addr (IntKind.wrap .u32 (IntKind.wrap .u64 ((IntKind.wrap .u64 ((IntKind.wrap .u64 a.Addr) + c)) - (1:Int))))))] (AWP.ret ?_)
  have hr:=someb hF
  subst hr
  exact(FnQ.f0 0 (.inr rfl))
def Zqd (r:(Int × Zf)):PV→List Blk→Prop:=fun p K=>p=(u32 r.1)∧K=[.cells (Zi r.2)]
theorem Zgh (d:Zf) (r:(Int × Zf)) (hF:Zcy d=some r):ACall Tryz.prog glob 45 [(.ptr 0 0)] [.cells (Zi d)] (Zqd r):=by
 refine ACall.body Tryz.func45 rfl (by kernel_rfl) ?_
 unfold Zcy at hF
 refine AWP.seq (AWP.rg0 [] [(0,(.ptr 0 0))] (AWP.seq (AWP.seq ?_)))
 obtain⟨a,j,hF⟩:=bindb hF
 refine AWP.rg [(1,.call Tryz.func32 [] (Z3 d (5:Int) a j))] [(0,(.ptr 0 0)),(8,(vb (a.1 == (4:Int))))] [.cells (Zi a.2)] ?_
 refine AWP.cif hF (fun k hF=>?_) (fun k hF=>?_)
 ·refine AWP.seq ?_
  obtain⟨g,l,hF⟩:=bindb hF
  obtain⟨m,n,hF⟩:=bindb hF
  refine AWP.rg [(2,.call Tryz.func32 [] (Z3 a.2 (6:Int) g l)),(3,.idx Zeh n)] [(2,(u32 m))] [.cells (Zi g.2)] (AWP.ret ?_)
  have hr:=someb hF
  subst hr
  exact(FnQ.f0 1 (.inr rfl))
 ·refine AWP.skip (AWP.seq ?_)
  obtain⟨b,o,hF⟩:=bindb hF
  obtain⟨c,p,hF⟩:=bindb hF
  refine AWP.rg [(1,.call Tryz.func32 [] (Z3 a.2 (6:Int) b o)),(2,.call Tryz.func88 [] (Zmw b.1 c p))] [(0,(.ptr 0 0)),(3,(.ptr 1 0))] [.cells (Zi b.2),.cells (Zde c)] (AWP.seq ?_)
  obtain⟨f,q,hF⟩:=bindb hF
  refine AWP.rg [(1,.call Tryz.func87 [] (Zqc c f q))] [(0,(.ptr 0 0)),(4,(.ptr 2 0))] [.cells (Zi b.2),.cells (Zde c),.cells (Zk f.1)] (AWP.seq ?_)
  obtain⟨i,s,hF⟩:=bindb hF
  obtain⟨t,u,hF⟩:=bindb hF
  refine AWP.dr [(15,.call Tryz.func32 [] (Z3 b.2 (5:Int) i s)),(16,.idx Zeh u)] 18 [] [15] [] [(2,(u32 t))] [.cells (Zi i.2),.cells (Zde c),.cells (Zk f.1)] (AWP.ret ?_)
  have hr:=someb hF
  subst hr
  exact(FnQ.f0 1 (.inr rfl))
def Zmm (r:(Zb × Zf)):PV→List Blk→Prop:=fun p K=>p=(Zmb r.1)∧K=[.cells (Zi r.2)]
theorem Zhp (f:Zf) (r:(Zb × Zf)) (hF:Zcs f=some r):ACall Tryz.prog glob 117 [(.ptr 0 0)] [.cells (Zi f)] (Zmm r):=by
 refine ACall.body Tryz.func117 rfl (by kernel_rfl) ?_
 unfold Zcs at hF
 refine AWP.seq (AWP.rg [] [(0,(.ptr 0 0)),(2,(.ptr 1 0))] [.cells (Zi f),.cells (Zk Zq)] (AWP.seq (AWP.seq ?_)))
 obtain⟨a,k,hF⟩:=bindb hF
 refine AWP.rg [(1,.call Tryz.func32 [] (Z3 f (4:Int) a k))] [(0,(.ptr 0 0)),(2,(.ptr 1 0)),(9,(i64 a.1))] [.cells (Zi a.2),.cells (Zk Zq)] (AWP.block (AWP.seq (AWP.rg0 [] [(0,(.ptr 0 0)),(2,(.ptr 1 0)),(9,(i64 a.1)),(10,(vb (a.1 == (0:Int))))] ?_)))
 refine AWP.cif hF (fun l hF=>?_) (fun l hF=>?_)
 ·refine AWP.seq ?_
  obtain⟨g,m,hF⟩:=bindb hF
  obtain⟨j,n,hF⟩:=bindb hF
  obtain⟨i,o,hF⟩:=bindb hF
  refine AWP.rg [(1,.call Tryz.func32 [] (Z3 a.2 (6:Int) g m)),(2,.call Tryz.func88 [] (Zmw g.1 j n)),(3,.call Tryz.func87 [] (Zqc j i o))] [(2,(.ptr 1 0)),(3,(.ptr 2 0))] [.cells (Zi g.2),.cells (Zk Zq),.cells (Zk i.1)] (AWP.seq (AWP.rg [] [(2,(.ptr 1 0))] [.cells (Zi g.2),.cells (Zk i.1),.cells (Zk i.1)] (AWP.ret ?_)))
  have hr:=someb hF
  subst hr
  exact(FnQ.f0 1 (.inr rfl))
 ·refine AWP.seq (AWP.rg0 [] [(0,(.ptr 0 0)),(2,(.ptr 1 0)),(9,(i64 a.1)),(20,(vb (a.1 == (1:Int))))] ?_)
  refine AWP.cif hF (fun p hF=>?_) (fun p hF=>?_)
  ·refine AWP.seq ?_
   obtain⟨d,q,hF⟩:=bindb hF
   obtain⟨b,s,hF⟩:=bindb hF
   refine AWP.rg [(1,.call Tryz.func45 [] (Zgh a.2 d q)),(3,.call Tryz.func45 [] (Zgh d.2 b s))] [(2,(.ptr 1 0)),(5,(u32 d.1)),(6,(u32 b.1))] [.cells (Zi b.2),.cells (Zk Zq)] (AWP.seq (AWP.rg [] [(2,(.ptr 1 0))] [.cells (Zi b.2),.cells (Zk (Zb.mk (iMin d.1 b.1) (iMax d.1 b.1)))] (AWP.ret ?_)))
   have hr:=someb hF
   subst hr
   exact(FnQ.f0 1 (.inr rfl))
  ·refine AWP.seq (AWP.rg0 [] [(0,(.ptr 0 0)),(2,(.ptr 1 0)),(33,(vb (a.1 == (2:Int))))] ?_)
   refine AWP.cif hF (fun t hF=>?_) (fun t hF=>?_)
   ·refine AWP.seq ?_
    obtain⟨c,u,hF⟩:=bindb hF
    refine AWP.rg [(1,.call Tryz.func45 [] (Zgh a.2 c u))] [(2,(.ptr 1 0)),(7,(u32 c.1))] [.cells (Zi c.2),.cells (Zk Zq)] (AWP.seq (AWP.rg [] [(2,(.ptr 1 0))] [.cells (Zi c.2),.cells (Zk (Zb.mk c.1 c.1))] (AWP.ret ?_)))
    have hr:=someb hF
    subst hr
    exact(FnQ.f0 1 (.inr rfl))
   ·refine AWP.skip (AWP.seq (AWP.rg [] [(2,(.ptr 1 0))] [.cells (Zi a.2),.cells (Zk (Zb.mk (0:Int) (4294967295:Int)))] (AWP.ret ?_)))
    have hr:=someb hF
    subst hr
    exact(FnQ.f0 1 (.inr rfl))
def Zqe (r:(Zh × Zf)):PV→List Blk→Prop:=fun p K=>p=(Zg7 r.1)∧K=[.cells (Zi r.2)]
theorem Zqf (f:Zf) (r:(Zh × Zf)) (hF:Zgg f=some r):ACall Tryz.prog glob 68 [(.ptr 0 0)] [.cells (Zi f)] (Zqe r):=by
 refine ACall.body Tryz.func68 rfl (by kernel_rfl) ?_
 unfold Zgg at hF
 refine AWP.seq (AWP.rg [] [(0,(.ptr 0 0)),(2,(.ptr 1 0))] [.cells (Zi f),.cells (Zc Zik)] (AWP.seq ?_))
 obtain⟨a,n,hF⟩:=bindb hF
 obtain⟨g,o,hF⟩:=bindb hF
 obtain⟨d,p,hF⟩:=bindb hF
 obtain⟨b,q,hF⟩:=bindb hF
 refine AWP.to [(0,(.ptr 0 0)),(2,(.ptr 1 0)),(3,(.ptr 2 0))] [.cells (Zi b.2),.cells (Zc Zik),.cells (Zc (Zh.mk a d b.1))] ?_ ?_
 ·refine AWP.of_draw (by kernel_rfl) ?_
  refine ADraw.either 9 3 (by kernel_rfl) ?_ ?_
  ·refine ADraw.either 9 7 (by kernel_rfl) ?_ ?_
   ·exact ADraw.drT [(0,.call Tryz.func47 [] (Zga a n)),(3,.call Tryz.func32 [] (Z3 f (2:Int) g o)),(4,.idx Zeh p),(7,.call Tryz.func118 [] (Zf4 g.2 (65535:Int) b q))] 10 [] [3,7,9] []
   ·exact ADraw.drT [(0,.call Tryz.func47 [] (Zga a n)),(3,.call Tryz.func32 [] (Z3 f (2:Int) g o)),(4,.idx Zeh p),(7,.call Tryz.func118 [] (Zf4 g.2 (65535:Int) b q))] 10 [0,1,2,3,4,5,6,9,7,8] [3,9,7] []
  ·exact ADraw.drT [(0,.call Tryz.func47 [] (Zga a n)),(3,.call Tryz.func32 [] (Z3 f (2:Int) g o)),(4,.idx Zeh p),(7,.call Tryz.func118 [] (Zf4 g.2 (65535:Int) b q))] 10 [0,1,2,6,9,3,4,5,7,8] [9,3,7] []
 refine AWP.seq ?_
 obtain⟨c,s,hF⟩:=bindb hF
 refine AWP.rg [(1,.call Tryz.func117 [] (Zhp b.2 c s))] [(0,(.ptr 0 0)),(2,(.ptr 1 0)),(3,(.ptr 2 0))] [.cells (Zi c.2),.cells (Zc Zik),.cells (Zc ({ (Zh.mk a d b.1) with Match:=({ a with x0:=c.1 }:ZB) }:Zh))] ?_
 obtain⟨t,u,hF⟩:=bindb hF
 refine AWP.seq ?_
 refine AWP.mid (fun e st H=>(e=.normal∧∃ l,∃ i,t=(l,i)∧st=[(2,(.ptr 1 0)),(3,(.ptr 2 0))]∧H=[.cells (Zi l),.cells (Zc Zik),.cells (Zc i)])) ?_ ?_
 ·clear hF
  have hF:=u
  refine AWP.seq ?_
  obtain⟨j,v,hF⟩:=bindb hF
  refine AWP.rg [(1,.call Tryz.func32 [] (Z3 c.2 (2:Int) j v))] [(0,(.ptr 0 0)),(2,(.ptr 1 0)),(3,(.ptr 2 0)),(20,(vb (j.1 == (0:Int))))] [.cells (Zi j.2),.cells (Zc Zik),.cells (Zc ({ (Zh.mk a d b.1) with Match:=({ a with x0:=c.1 }:ZB) }:Zh))] ?_
  refine AWP.cif hF (fun w hF=>?_) (fun w hF=>?_)
  ·refine AWP.seq ?_
   obtain⟨m,x,hF⟩:=bindb hF
   obtain⟨k,y,hF⟩:=bindb hF
   refine AWP.rg [(2,.call Tryz.func32 [] (Z3 j.2 (3:Int) m x)),(3,.idx Zeh y)] [(2,(.ptr 1 0)),(3,(.ptr 2 0)),(4,(u32 k))] [.cells (Zi m.2),.cells (Zc Zik),.cells (Zc ({ (Zh.mk a d b.1) with Match:=({ a with x0:=c.1 }:ZB) }:Zh))] (AWP.rg [] [(2,(.ptr 1 0)),(3,(.ptr 2 0))] [.cells (Zi m.2),.cells (Zc Zik),.cells (Zc ({ (Zh.mk a d b.1) with Match:=({ ({ a with x0:=c.1 }:ZB) with x2:=(Zb.mk k k) }:ZB) }:Zh))] (LeQ.start (LeQ.pk [2,3] 3 ?_)))
   exact⟨rfl,m.2,({ (Zh.mk a d b.1) with Match:=({ ({ a with x0:=c.1 }:ZB) with x2:=(Zb.mk k k) }:ZB) }:Zh),(someb hF).symm,by kernel_rfl,by kernel_rfl⟩
  ·refine AWP.skip (LeQ.start (LeQ.pk [2,3] 3 ?_))
   exact⟨rfl,j.2,({ (Zh.mk a d b.1) with Match:=({ a with x0:=c.1 }:ZB) }:Zh),(someb hF).symm,by kernel_rfl,by kernel_rfl⟩
 ·rintro _ _ _ ⟨rfl,l,i,rfl,rfl,rfl⟩
  refine AWP.seq (AWP.rg [] [(2,(.ptr 1 0))] [.cells (Zi l),.cells (Zc i),.cells (Zc i)] (AWP.ret ?_))
  have hr:=someb hF
  subst hr
  exact(FnQ.f0 1 (.inr rfl))
def Znf (r:(ZB × Zf)):PV→List Blk→Prop:=fun p K=>p=(Zag r.1)∧K=[.cells (Zi r.2)]
theorem Zjr (f:Zf) (a:ZB) (r:(ZB × Zf)) (hF:Zdr f a=some r):ACall Tryz.prog glob 34 [(.ptr 0 0),(Zag a)] [.cells (Zi f)] (Znf r):=by
 refine ACall.body Tryz.func34 rfl (by kernel_rfl) ?_
 unfold Zdr at hF
 refine AWP.seq (AWP.rg [] [(0,(.ptr 0 0)),(3,(.ptr 1 0)),(4,(.ptr 2 0))] [.cells (Zi f),.cells (Za a),.cells (Za Zm)] (AWP.seq ?_))
 obtain⟨b,s,hF⟩:=bindb hF
 refine AWP.rg [(1,.call Tryz.func32 [] (Z3 f (5:Int) b s))] [(0,(.ptr 0 0)),(3,(.ptr 1 0)),(4,(.ptr 2 0)),(5,(i64 b.1))] [.cells (Zi b.2),.cells (Za a),.cells (Za Zm)] ?_
 obtain⟨t,u,hF⟩:=bindb hF
 refine AWP.seq ?_
 refine AWP.mid (fun e st H=>(e=.normal∧∃ g,∃ d,t=(g,d)∧st=[(3,(.ptr 1 0)),(4,(.ptr 2 0))]∧H=[.cells (Zi g),.cells (Za d),.cells (Za Zm)])) ?_ ?_
 ·clear hF
  have hF:=u
  refine AWP.seq ?_
  obtain⟨c,v,hF⟩:=bindb hF
  refine AWP.rg [(1,.call Tryz.func32 [] (Z3 b.2 (3:Int) c v))] [(3,(.ptr 1 0)),(4,(.ptr 2 0)),(5,(i64 b.1)),(9,(i64 c.1))] [.cells (Zi c.2),.cells (Za a),.cells (Za Zm)] (AWP.block (AWP.seq (AWP.rg0 [] [(3,(.ptr 1 0)),(4,(.ptr 2 0)),(5,(i64 b.1)),(9,(i64 c.1)),(13,(vb (c.1 == (0:Int))))] ?_)))
  refine AWP.cif hF (fun w hF=>?_) (fun w hF=>?_)
  ·obtain⟨i,hF⟩:=chkb hF
   obtain⟨j,hF⟩:=chkb hF
   obtain⟨k,hF⟩:=chkb hF
   obtain⟨l,hF⟩:=chkb hF
   refine AWP.dr [(3,.ixd i),(5,.ldA Zk (Arr5.get a) 0 2 1 i),(7,.ixd j),(9,.ldA Zk (Arr5.get a) 0 2 0 j),(10,.ixd k),(12,.stA (fun m=>Za (Arr5.set a m ({ (Arr5.get a m) with Lo:=(Arr5.get a b.1).Hi }:Zb))) 0 2 0 k),(13,.ixd l),(15,.stA (fun n=>Za (Arr5.set (Arr5.set a b.1 ({ (Arr5.get a b.1) with Lo:=(Arr5.get a b.1).Hi }:Zb)) n ({ (Arr5.get (Arr5.set a b.1 ({ (Arr5.get a b.1) with Lo:=(Arr5.get a b.1).Hi }:Zb)) n) with Hi:=(Arr5.get a b.1).Lo }:Zb))) 0 2 1 l)] 13 [] [12] [] [(3,(.ptr 1 0)),(4,(.ptr 2 0))] [.cells (Zi c.2),.cells (Za (Arr5.set (Arr5.set a b.1 ({ (Arr5.get a b.1) with Lo:=(Arr5.get a b.1).Hi }:Zb)) b.1 ({ (Arr5.get (Arr5.set a b.1 ({ (Arr5.get a b.1) with Lo:=(Arr5.get a b.1).Hi }:Zb)) b.1) with Hi:=(Arr5.get a b.1).Lo }:Zb))),.cells (Za Zm)] (LeQ.start (LeQ.pk [3,4] 3 ?_))
   exact⟨rfl,c.2,(Arr5.set (Arr5.set a b.1 ({ (Arr5.get a b.1) with Lo:=(Arr5.get a b.1).Hi }:Zb)) b.1 ({ (Arr5.get (Arr5.set a b.1 ({ (Arr5.get a b.1) with Lo:=(Arr5.get a b.1).Hi }:Zb)) b.1) with Hi:=(Arr5.get a b.1).Lo }:Zb)),(someb hF).symm,by kernel_rfl,by kernel_rfl⟩
  ·refine AWP.seq (AWP.rg0 [] [(3,(.ptr 1 0)),(4,(.ptr 2 0)),(5,(i64 b.1)),(29,(vb (c.1 == (1:Int))))] ?_)
   refine AWP.cif hF (fun x hF=>?_) (fun x hF=>?_)
   ·obtain⟨o,hF⟩:=chkb hF
    refine AWP.rg [(1,.ixd o),(3,.stA (fun p=>Za (Arr5.set a p ({ (Arr5.get a p) with Hi:=(4294967295:Int) }:Zb))) 0 2 1 o)] [(3,(.ptr 1 0)),(4,(.ptr 2 0))] [.cells (Zi c.2),.cells (Za (Arr5.set a b.1 ({ (Arr5.get a b.1) with Hi:=(4294967295:Int) }:Zb))),.cells (Za Zm)] (LeQ.start (LeQ.pk [3,4] 3 ?_))
    exact⟨rfl,c.2,(Arr5.set a b.1 ({ (Arr5.get a b.1) with Hi:=(4294967295:Int) }:Zb)),(someb hF).symm,by kernel_rfl,by kernel_rfl⟩
   ·obtain⟨q,hF⟩:=chkb hF
    refine AWP.rg [(2,.ixd q),(3,.stA (fun y=>Za (Arr5.set a y (Zb.mk (1:Int) (0:Int)))) 0 2 0 q)] [(3,(.ptr 1 0)),(4,(.ptr 2 0))] [.cells (Zi c.2),.cells (Za (Arr5.set a b.1 (Zb.mk (1:Int) (0:Int)))),.cells (Za Zm)] (LeQ.start (LeQ.pk [3,4] 3 ?_))
    exact⟨rfl,c.2,(Arr5.set a b.1 (Zb.mk (1:Int) (0:Int))),(someb hF).symm,by kernel_rfl,by kernel_rfl⟩
 ·rintro _ _ _ ⟨rfl,g,d,rfl,rfl,rfl⟩
  refine AWP.seq (AWP.rg [] [(4,(.ptr 2 0))] [.cells (Zi g),.cells (Za d),.cells (Za d)] (AWP.ret ?_))
  have hr:=someb hF
  subst hr
  exact(FnQ.f0 1 (.inr rfl))
def Zph (r:((List Zh) × Zf)):PV→List Blk→Prop:=fun p K=>p=(slc 13 Zc r.1)∧K=[.cells (Zi r.2)]
theorem Zpi (y:Zf) (g:Int) (b:Bool) (r:((List Zh) × Zf)) (hF:Zfz y g b=some r):ACall Tryz.prog glob 23 [(.ptr 0 0),(i64 g),(vb b)] [.cells (Zi y)] (Zph r):=by
 refine ACall.body Tryz.func23 rfl (by kernel_rfl) ?_
 unfold Zfz at hF
 refine AWP.seq (AWP.rg0 [] [(0,(.ptr 0 0)),(1,(i64 g)),(2,(vb b))] (AWP.seq (AWP.rg0 [] [(0,(.ptr 0 0)),(1,(i64 g)),(2,(vb b)),(7,nils)] ?_)))
 refine AWP.own (H':=[.cells (Zi y),bf 13 62 Zc ([]:(List Zh)) false]) (st':=[(7,(.own 1 (List.length ([]:(List Zh))))),(0,(.ptr 0 0)),(1,(i64 g)),(2,(vb b))]) 7 13 62 (by kernel_rfl) (by kernel_rfl) (by kernel_rfl) ?_
 refine AWP.pick (st':=[(0,(.ptr 0 0)),(1,(i64 g)),(2,(vb b)),(7,(.own 1 (List.length ([]:(List Zh)))))]) (ks:=[0,1,2,7]) (by kernel_rfl) ?_
 refine AWP.seq (AWP.seq ?_)
 obtain⟨o,a9,hF⟩:=bindb hF
 refine AWP.rg [(3,.call Tryz.func32 [] (Z3 y (ZI (g + (1:Int))) o a9))] [(0,(.ptr 0 0)),(2,(vb b)),(7,(.own 1 (List.length ([]:(List Zh))))),(8,(i64 o.1))] [.cells (Zi o.2),bf 13 62 Zc ([]:(List Zh)) false] ?_
 obtain⟨a6,b0,hF⟩:=bindb hF
 refine AWP.mid (fun e st H=>(e=.normal∧∃ a4,∃ k,a6=(a4,k)∧st=[(7,(.own 1 (List.length k)))]∧H=[.cells (Zi a4),bf 13 62 Zc k false])) ?_ ?_
 ·clear hF
  refine AWP.kp [0,2,7,8] 2 ?_
  refine AWP.bround (fun n st H=>∃ p,∃ a,∃ c,Zcg b n p a c=some a6∧st=[(0,(.ptr 0 0)),(2,(vb b)),(7,(.own 1 (List.length a))),(8,(i64 c))]∧H=[.cells (Zi p),bf 13 62 Zc a false]) fuel ⟨o.2,([]:(List Zh)),o.1,b0,by kernel_rfl,by kernel_rfl⟩ ?_
  rintro a5 st H ⟨p,a,c,hF,rfl,rfl⟩
  cases a5 with
  | zero=>exact noneb hF
  | succ a5=>
   rw [Zcg] at hF
   refine AWP.seq (AWP.seq (AWP.rg0 [] [(0,(.ptr 0 0)),(2,(vb b)),(7,(.own 1 (List.length a))),(8,(i64 c)),(15,(vb (decide (c > (0:Int)))))] ?_))
   refine AWP.cif hF (fun b1 hF=>?_) (fun b1 hF=>?_)
   ·refine AWP.skip ?_
    obtain⟨b2,b3,hF⟩:=bindb hF
    refine AWP.seq ?_
    refine AWP.mid (fun e st H=>(e=.normal∧∃ z,∃ m,b2=(z,m)∧st=[(0,(.ptr 0 0)),(2,(vb b)),(7,(.own 1 (List.length m))),(8,(i64 c))]∧H=[.cells (Zi z),bf 13 62 Zc m false])) ?_ ?_
    ·clear hF
     have hF:=b3
     refine AWP.block (AWP.seq ?_)
     obtain⟨f,b4,hF⟩:=bindb hF
     refine AWP.rg [(1,.call Tryz.func68 [] (Zqf p f b4))] [(0,(.ptr 0 0)),(2,(vb b)),(7,(.own 1 (List.length a))),(8,(i64 c)),(9,(.ptr 2 0))] [.cells (Zi f.2),bf 13 62 Zc a false,.cells (Zc f.1)] ?_
     obtain⟨b5,b6,hF⟩:=bindb hF
     refine AWP.seq ?_
     refine AWP.mid (fun e st H=>(e=.normal∧∃ a0,∃ d,b5=(a0,d)∧st=[(0,(.ptr 0 0)),(2,(vb b)),(7,(.own 1 (List.length a))),(8,(i64 c)),(9,(.ptr 2 0))]∧H=[.cells (Zi a0),bf 13 62 Zc a false,.cells (Zc d)])) ?_ ?_
     ·clear hF
      have hF:=b6
      refine AWP.seq ?_
      obtain⟨b7,a1,hF⟩:=bindb hF
      replace a1:=someb a1
      obtain⟨a2,a7,hF⟩:=bindb hF
      refine AWP.to [(0,(.ptr 0 0)),(2,(vb b)),(7,(.own 1 (List.length a))),(8,(i64 c)),(9,(.ptr 2 0)),(25,(vb a2.1))] [.cells (Zi a2.2),bf 13 62 Zc a false,.cells (Zc f.1)] ?_ ?_
      ·cases b7 with
       | false=>
        have b8:=someb (ifF a7 rfl)
        subst b8
        exact AWP.rgT [(1,.bool a1)]
       | true=>
        have q:=ifT a7 rfl
        obtain⟨b9,c0,q⟩:=bindb q
        replace q:=someb q
        subst q
        exact AWP.rgT [(1,.bool a1),(3,.call Tryz.func32 [] (Z3 f.2 (6:Int) b9 c0))]
      refine AWP.cif hF (fun c1 hF=>?_) (fun c1 hF=>?_)
      ·obtain⟨u,c2,hF⟩:=bindb hF
       refine AWP.rg [(3,.call Tryz.func34 [] (Zjr a2.2 f.1.Match u c2))] [(0,(.ptr 0 0)),(2,(vb b)),(7,(.own 1 (List.length a))),(8,(i64 c)),(9,(.ptr 2 0))] [.cells (Zi u.2),bf 13 62 Zc a false,.cells (Zc ({ f.1 with Match:=u.1 }:Zh))] (LeQ.start (LeQ.pk [0,2,7,8,9] 3 ?_))
       exact⟨rfl,u.2,({ f.1 with Match:=u.1 }:Zh),(someb hF).symm,by kernel_rfl,by kernel_rfl⟩
      ·refine AWP.skip (LeQ.start (LeQ.pk [0,2,7,8,9] 3 ?_))
       exact⟨rfl,a2.2,f.1,(someb hF).symm,by kernel_rfl,by kernel_rfl⟩
     ·rintro _ _ _ ⟨rfl,a0,d,rfl,rfl,rfl⟩
      obtain⟨c3,c4,hF⟩:=bindb hF
      refine AWP.seq ?_
      refine AWP.mid (fun e st H=>(e=.normal∧∃ v,∃ j,c3=(v,j)∧st=[(0,(.ptr 0 0)),(2,(vb b)),(7,(.own 1 (List.length a))),(8,(i64 c)),(9,(.ptr 2 0))]∧H=[.cells (Zi v),bf 13 62 Zc a false,.cells (Zc j)])) ?_ ?_
      ·clear hF
       have hF:=c4
       refine AWP.seq ?_
       obtain⟨c5,a3,hF⟩:=bindb hF
       replace a3:=someb a3
       obtain⟨w,a8,hF⟩:=bindb hF
       refine AWP.to [(0,(.ptr 0 0)),(2,(vb b)),(7,(.own 1 (List.length a))),(8,(i64 c)),(9,(.ptr 2 0)),(36,(vb w.1))] [.cells (Zi w.2),bf 13 62 Zc a false,.cells (Zc d)] ?_ ?_
       ·cases c5 with
        | false=>
         have c6:=someb (ifF a8 rfl)
         subst c6
         exact AWP.rgT [(1,.bool a3)]
        | true=>
         have x:=ifT a8 rfl
         obtain⟨c7,c8,x⟩:=bindb x
         replace x:=someb x
         subst x
         exact AWP.rgT [(1,.bool a3),(3,.call Tryz.func32 [] (Z3 a0 (6:Int) c7 c8))]
       refine AWP.cif hF (fun c9 hF=>?_) (fun c9 hF=>?_)
       ·refine AWP.rg [] [(0,(.ptr 0 0)),(2,(vb b)),(7,(.own 1 (List.length a))),(8,(i64 c)),(9,(.ptr 2 0))] [.cells (Zi w.2),bf 13 62 Zc a false,.cells (Zc ({ d with Ports:=({ d.Ports with Hi:=(IntKind.wrap .u32 (d.Ports.Hi + (65536:Int))) }:Zb) }:Zh))] (LeQ.start (LeQ.pk [0,2,7,8,9] 3 ?_))
        exact⟨rfl,w.2,({ d with Ports:=({ d.Ports with Hi:=(IntKind.wrap .u32 (d.Ports.Hi + (65536:Int))) }:Zb) }:Zh),(someb hF).symm,by kernel_rfl,by kernel_rfl⟩
       ·refine AWP.skip (LeQ.start (LeQ.pk [0,2,7,8,9] 3 ?_))
        exact⟨rfl,w.2,d,(someb hF).symm,by kernel_rfl,by kernel_rfl⟩
      ·rintro _ _ _ ⟨rfl,v,j,rfl,rfl,rfl⟩
       obtain⟨d0,hF⟩:=chkb hF
       refine AWP.rg [(3,.app Zc (fun _=>by kernel_rfl) d0)] [(0,(.ptr 0 0)),(2,(vb b)),(7,(.own 1 (List.length (a++[j])))),(8,(i64 c))] [.cells (Zi v),bf 13 62 Zc (a++[j]) false,.cells (Zc j)] (LeQ.start (LeQ.pk [0,2,7,8] 2 ?_))
       exact⟨rfl,v,(a++[j]),(someb hF).symm,by kernel_rfl,by kernel_rfl⟩
    ·rintro _ _ _ ⟨rfl,z,m,rfl,rfl,rfl⟩
     refine AWP.rg0 [] [(0,(.ptr 0 0)),(2,(vb b)),(7,(.own 1 (List.length m))),(8,(i64 (ZI (c - (1:Int)))))] (LeQ.start (LeQ.pk [0,2,7,8] 2 ?_))
     exact⟨a5,Nat.lt_succ_self _,z,m,(ZI (c - (1:Int))),hF,by kernel_rfl,by kernel_rfl⟩
   ·refine AWP.exit (LeQ.start (LeQ.pk [7] 2 ?_))
    exact⟨rfl,p,a,(someb hF).symm,by kernel_rfl,by kernel_rfl⟩
 ·rintro _ _ _ ⟨rfl,a4,k,rfl,rfl,rfl⟩
  refine AWP.seq (AWP.rg0 [] [(6,(.own 1 (List.length k)))] (AWP.ret ?_))
  have hr:=someb hF
  subst hr
  exact(FnQ.f1 1 (.inr rfl) (.inl (Wk.ownT (i:=1) (s:=13) (t:=62) (l:=k) (sh:=false) (row:=Zc) (by kernel_rfl) (.inl rfl))))
def Zrd (r:(ZB × Zf)):PV→List Blk→Prop:=fun p K=>p=(Zag r.1)∧K=[.cells (Zi r.2)]
theorem Zre (d:Zf) (r:(ZB × Zf)) (hF:Zgz d=some r):ACall Tryz.prog glob 67 [(.ptr 0 0)] [.cells (Zi d)] (Zrd r):=by
 refine ACall.body Tryz.func67 rfl (by kernel_rfl) ?_
 unfold Zgz at hF
 refine AWP.seq (AWP.rg [] [(0,(.ptr 0 0)),(2,(.ptr 1 0))] [.cells (Zi d),.cells (Za Zm)] (AWP.seq ?_))
 obtain⟨p,x,hF⟩:=bindb hF
 refine AWP.rg [(0,.call Tryz.func47 [] (Zga p x))] [(0,(.ptr 0 0)),(2,(.ptr 1 0)),(3,(.ptr 2 0))] [.cells (Zi d),.cells (Za Zm),.cells (Za p)] (AWP.seq (AWP.seq ?_))
 obtain⟨f,y,hF⟩:=bindb hF
 refine AWP.rg [(1,.call Tryz.func32 [] (Z3 d (3:Int) f y))] [(0,(.ptr 0 0)),(2,(.ptr 1 0)),(3,(.ptr 2 0)),(4,(i64 (ZI ((1:Int) + f.1))))] [.cells (Zi f.2),.cells (Za Zm),.cells (Za p)] ?_
 obtain⟨w,z,hF⟩:=bindb hF
 refine AWP.mid (fun e st H=>(e=.normal∧∃ q,∃ g,w=(q,g)∧st=[(2,(.ptr 1 0)),(3,(.ptr 2 0))]∧H=[.cells (Zi q),.cells (Za Zm),.cells (Za g)])) ?_ ?_
 ·clear hF
  refine AWP.kp [0,2,3,4] 3 ?_
  refine AWP.bround (fun n st H=>∃ i,∃ b,∃ a,Zcz n i b a=some w∧st=[(0,(.ptr 0 0)),(2,(.ptr 1 0)),(3,(.ptr 2 0)),(4,(i64 a))]∧H=[.cells (Zi i),.cells (Za Zm),.cells (Za b)]) fuel ⟨f.2,p,(ZI ((1:Int) + f.1)),z,by kernel_rfl,by kernel_rfl⟩ ?_
  rintro v st H ⟨i,b,a,hF,rfl,rfl⟩
  cases v with
  | zero=>exact noneb hF
  | succ v=>
   rw [Zcz] at hF
   refine AWP.seq (AWP.seq (AWP.rg0 [] [(0,(.ptr 0 0)),(2,(.ptr 1 0)),(3,(.ptr 2 0)),(4,(i64 a)),(11,(vb (decide (a > (0:Int)))))] ?_))
   refine AWP.cif hF (fun a0 hF=>?_) (fun a0 hF=>?_)
   ·refine AWP.skip ?_
    obtain⟨a1,a2,hF⟩:=bindb hF
    refine AWP.seq ?_
    refine AWP.mid (fun e st H=>(e=.normal∧∃ s,∃ t,a1=(s,t)∧st=[(0,(.ptr 0 0)),(2,(.ptr 1 0)),(3,(.ptr 2 0)),(4,(i64 a))]∧H=[.cells (Zi s),.cells (Za Zm),.cells (Za t)])) ?_ ?_
    ·clear hF
     have hF:=a2
     refine AWP.block (AWP.seq ?_)
     obtain⟨c,a3,hF⟩:=bindb hF
     refine AWP.rg [(1,.call Tryz.func32 [] (Z3 i (5:Int) c a3))] [(0,(.ptr 0 0)),(2,(.ptr 1 0)),(3,(.ptr 2 0)),(4,(i64 a)),(15,(i64 c.1))] [.cells (Zi c.2),.cells (Za Zm),.cells (Za b)] (AWP.block (AWP.seq (AWP.rg0 [] [(0,(.ptr 0 0)),(2,(.ptr 1 0)),(3,(.ptr 2 0)),(4,(i64 a)),(15,(i64 c.1)),(19,(vb (c.1 == (0:Int))))] ?_)))
     refine AWP.cif hF (fun a4 hF=>?_) (fun a4 hF=>?_)
     ·obtain⟨j,a5,hF⟩:=bindb hF
      refine AWP.rg [(1,.call Tryz.func117 [] (Zhp c.2 j a5))] [(0,(.ptr 0 0)),(2,(.ptr 1 0)),(3,(.ptr 2 0)),(4,(i64 a))] [.cells (Zi j.2),.cells (Za Zm),.cells (Za ({ b with x0:=j.1 }:ZB))] (LeQ.start (LeQ.pk [0,2,3,4] 3 ?_))
      exact⟨rfl,j.2,({ b with x0:=j.1 }:ZB),(someb hF).symm,by kernel_rfl,by kernel_rfl⟩
     ·refine AWP.seq (AWP.rg0 [] [(0,(.ptr 0 0)),(2,(.ptr 1 0)),(3,(.ptr 2 0)),(4,(i64 a)),(15,(i64 c.1)),(24,(vb (c.1 == (1:Int))))] ?_)
      refine AWP.cif hF (fun a6 hF=>?_) (fun a6 hF=>?_)
      ·obtain⟨k,a7,hF⟩:=bindb hF
       refine AWP.rg [(1,.call Tryz.func117 [] (Zhp c.2 k a7))] [(0,(.ptr 0 0)),(2,(.ptr 1 0)),(3,(.ptr 2 0)),(4,(i64 a))] [.cells (Zi k.2),.cells (Za Zm),.cells (Za ({ b with x1:=k.1 }:ZB))] (LeQ.start (LeQ.pk [0,2,3,4] 3 ?_))
       exact⟨rfl,k.2,({ b with x1:=k.1 }:ZB),(someb hF).symm,by kernel_rfl,by kernel_rfl⟩
      ·refine AWP.seq (AWP.rg0 [] [(0,(.ptr 0 0)),(2,(.ptr 1 0)),(3,(.ptr 2 0)),(4,(i64 a)),(15,(i64 c.1)),(29,(vb (c.1 == (2:Int))))] ?_)
       refine AWP.cif hF (fun a8 hF=>?_) (fun a8 hF=>?_)
       ·refine AWP.seq ?_
        obtain⟨u,a9,hF⟩:=bindb hF
        obtain⟨l,b0,hF⟩:=bindb hF
        refine AWP.rg [(2,.call Tryz.func32 [] (Z3 c.2 (6:Int) u a9)),(3,.idx Zeh b0)] [(0,(.ptr 0 0)),(2,(.ptr 1 0)),(3,(.ptr 2 0)),(4,(i64 a)),(5,(u32 l))] [.cells (Zi u.2),.cells (Za Zm),.cells (Za b)] (AWP.rg [] [(0,(.ptr 0 0)),(2,(.ptr 1 0)),(3,(.ptr 2 0)),(4,(i64 a))] [.cells (Zi u.2),.cells (Za Zm),.cells (Za ({ b with x2:=(Zb.mk l l) }:ZB))] (LeQ.start (LeQ.pk [0,2,3,4] 3 ?_)))
        exact⟨rfl,u.2,({ b with x2:=(Zb.mk l l) }:ZB),(someb hF).symm,by kernel_rfl,by kernel_rfl⟩
       ·refine AWP.seq (AWP.rg0 [] [(0,(.ptr 0 0)),(2,(.ptr 1 0)),(3,(.ptr 2 0)),(4,(i64 a)),(40,(vb (c.1 == (3:Int))))] ?_)
        refine AWP.cif hF (fun b1 hF=>?_) (fun b1 hF=>?_)
        ·obtain⟨m,b2,hF⟩:=bindb hF
         refine AWP.rg [(1,.call Tryz.func118 [] (Zf4 c.2 (65535:Int) m b2))] [(0,(.ptr 0 0)),(2,(.ptr 1 0)),(3,(.ptr 2 0)),(4,(i64 a))] [.cells (Zi m.2),.cells (Za Zm),.cells (Za ({ b with x3:=m.1 }:ZB))] (LeQ.start (LeQ.pk [0,2,3,4] 3 ?_))
         exact⟨rfl,m.2,({ b with x3:=m.1 }:ZB),(someb hF).symm,by kernel_rfl,by kernel_rfl⟩
        ·obtain⟨o,b3,hF⟩:=bindb hF
         refine AWP.rg [(1,.call Tryz.func118 [] (Zf4 c.2 (65535:Int) o b3))] [(0,(.ptr 0 0)),(2,(.ptr 1 0)),(3,(.ptr 2 0)),(4,(i64 a))] [.cells (Zi o.2),.cells (Za Zm),.cells (Za ({ b with x4:=o.1 }:ZB))] (LeQ.start (LeQ.pk [0,2,3,4] 3 ?_))
         exact⟨rfl,o.2,({ b with x4:=o.1 }:ZB),(someb hF).symm,by kernel_rfl,by kernel_rfl⟩
    ·rintro _ _ _ ⟨rfl,s,t,rfl,rfl,rfl⟩
     refine AWP.rg0 [] [(0,(.ptr 0 0)),(2,(.ptr 1 0)),(3,(.ptr 2 0)),(4,(i64 (ZI (a - (1:Int)))))] (LeQ.start (LeQ.pk [0,2,3,4] 3 ?_))
     exact⟨v,Nat.lt_succ_self _,s,t,(ZI (a - (1:Int))),hF,by kernel_rfl,by kernel_rfl⟩
   ·refine AWP.exit (LeQ.start (LeQ.pk [2,3] 3 ?_))
    exact⟨rfl,i,b,(someb hF).symm,by kernel_rfl,by kernel_rfl⟩
 ·rintro _ _ _ ⟨rfl,q,g,rfl,rfl,rfl⟩
  refine AWP.seq (AWP.rg [] [(2,(.ptr 1 0))] [.cells (Zi q),.cells (Za g),.cells (Za g)] (AWP.ret ?_))
  have hr:=someb hF
  subst hr
  exact(FnQ.f0 1 (.inr rfl))
def Zpj (r:(ZL × Zf)):PV→List Blk→Prop:=fun p K=>p=(slc 10 Za r.1)∧K=[.cells (Zi r.2)]
theorem Zk2 (v:Zf) (d:Int) (a:Bool) (r:(ZL × Zf)) (hF:Zeu v d a=some r):ACall Tryz.prog glob 20 [(.ptr 0 0),(i64 d),(vb a)] [.cells (Zi v)] (Zpj r):=by
 refine ACall.body Tryz.func20 rfl (by kernel_rfl) ?_
 unfold Zeu at hF
 refine AWP.seq (AWP.rg0 [] [(0,(.ptr 0 0)),(1,(i64 d)),(2,(vb a))] (AWP.seq (AWP.rg0 [] [(0,(.ptr 0 0)),(1,(i64 d)),(2,(vb a)),(7,nils)] ?_)))
 refine AWP.own (H':=[.cells (Zi v),bf 10 57 Za ([]:ZL) false]) (st':=[(7,(.own 1 (List.length ([]:ZL)))),(0,(.ptr 0 0)),(1,(i64 d)),(2,(vb a))]) 7 10 57 (by kernel_rfl) (by kernel_rfl) (by kernel_rfl) ?_
 refine AWP.pick (st':=[(0,(.ptr 0 0)),(1,(i64 d)),(2,(vb a)),(7,(.own 1 (List.length ([]:ZL))))]) (ks:=[0,1,2,7]) (by kernel_rfl) ?_
 refine AWP.seq (AWP.seq ?_)
 obtain⟨m,a3,hF⟩:=bindb hF
 refine AWP.rg [(3,.call Tryz.func32 [] (Z3 v (ZI (d + (1:Int))) m a3))] [(0,(.ptr 0 0)),(2,(vb a)),(7,(.own 1 (List.length ([]:ZL)))),(8,(i64 m.1))] [.cells (Zi m.2),bf 10 57 Za ([]:ZL) false] ?_
 obtain⟨a1,a4,hF⟩:=bindb hF
 refine AWP.mid (fun e st H=>(e=.normal∧∃ z,∃ j,a1=(z,j)∧st=[(7,(.own 1 (List.length j)))]∧H=[.cells (Zi z),bf 10 57 Za j false])) ?_ ?_
 ·clear hF
  refine AWP.kp [0,2,7,8] 2 ?_
  refine AWP.bround (fun n st H=>∃ o,∃ b,∃ c,Zcc a n o b c=some a1∧st=[(0,(.ptr 0 0)),(2,(vb a)),(7,(.own 1 (List.length b))),(8,(i64 c))]∧H=[.cells (Zi o),bf 10 57 Za b false]) fuel ⟨m.2,([]:ZL),m.1,a4,by kernel_rfl,by kernel_rfl⟩ ?_
  rintro a0 st H ⟨o,b,c,hF,rfl,rfl⟩
  cases a0 with
  | zero=>exact noneb hF
  | succ a0=>
   rw [Zcc] at hF
   refine AWP.seq (AWP.seq (AWP.rg0 [] [(0,(.ptr 0 0)),(2,(vb a)),(7,(.own 1 (List.length b))),(8,(i64 c)),(15,(vb (decide (c > (0:Int)))))] ?_))
   refine AWP.cif hF (fun a5 hF=>?_) (fun a5 hF=>?_)
   ·refine AWP.skip ?_
    obtain⟨a6,a7,hF⟩:=bindb hF
    refine AWP.seq ?_
    refine AWP.mid (fun e st H=>(e=.normal∧∃ w,∃ k,a6=(w,k)∧st=[(0,(.ptr 0 0)),(2,(vb a)),(7,(.own 1 (List.length k))),(8,(i64 c))]∧H=[.cells (Zi w),bf 10 57 Za k false])) ?_ ?_
    ·clear hF
     have hF:=a7
     refine AWP.block (AWP.seq ?_)
     obtain⟨f,a8,hF⟩:=bindb hF
     refine AWP.rg [(1,.call Tryz.func67 [] (Zre o f a8))] [(0,(.ptr 0 0)),(2,(vb a)),(7,(.own 1 (List.length b))),(8,(i64 c)),(9,(.ptr 2 0))] [.cells (Zi f.2),bf 10 57 Za b false,.cells (Za f.1)] ?_
     obtain⟨a9,b0,hF⟩:=bindb hF
     refine AWP.seq ?_
     refine AWP.mid (fun e st H=>(e=.normal∧∃ p,∃ g,a9=(p,g)∧st=[(0,(.ptr 0 0)),(2,(vb a)),(7,(.own 1 (List.length b))),(8,(i64 c)),(9,(.ptr 2 0))]∧H=[.cells (Zi p),bf 10 57 Za b false,.cells (Za g)])) ?_ ?_
     ·clear hF
      have hF:=b0
      refine AWP.seq ?_
      obtain⟨b1,x,hF⟩:=bindb hF
      replace x:=someb x
      obtain⟨y,a2,hF⟩:=bindb hF
      refine AWP.to [(0,(.ptr 0 0)),(2,(vb a)),(7,(.own 1 (List.length b))),(8,(i64 c)),(9,(.ptr 2 0)),(25,(vb y.1))] [.cells (Zi y.2),bf 10 57 Za b false,.cells (Za f.1)] ?_ ?_
      ·cases b1 with
       | false=>
        have b2:=someb (ifF a2 rfl)
        subst b2
        exact AWP.rgT [(1,.bool x)]
       | true=>
        have q:=ifT a2 rfl
        obtain⟨b3,b4,q⟩:=bindb q
        replace q:=someb q
        subst q
        exact AWP.rgT [(1,.bool x),(3,.call Tryz.func32 [] (Z3 f.2 (8:Int) b3 b4))]
      refine AWP.cif hF (fun b5 hF=>?_) (fun b5 hF=>?_)
      ·obtain⟨u,b6,hF⟩:=bindb hF
       refine AWP.rg [(2,.call Tryz.func34 [] (Zjr y.2 f.1 u b6))] [(0,(.ptr 0 0)),(2,(vb a)),(7,(.own 1 (List.length b))),(8,(i64 c)),(9,(.ptr 2 0))] [.cells (Zi u.2),bf 10 57 Za b false,.cells (Za u.1)] (LeQ.start (LeQ.pk [0,2,7,8,9] 3 ?_))
       exact⟨rfl,u.2,u.1,(someb hF).symm,by kernel_rfl,by kernel_rfl⟩
      ·refine AWP.skip (LeQ.start (LeQ.pk [0,2,7,8,9] 3 ?_))
       exact⟨rfl,y.2,f.1,(someb hF).symm,by kernel_rfl,by kernel_rfl⟩
     ·rintro _ _ _ ⟨rfl,p,g,rfl,rfl,rfl⟩
      obtain⟨b7,hF⟩:=chkb hF
      refine AWP.rg [(3,.app Za (fun _=>by kernel_rfl) b7)] [(0,(.ptr 0 0)),(2,(vb a)),(7,(.own 1 (List.length (b++[g])))),(8,(i64 c))] [.cells (Zi p),bf 10 57 Za (b++[g]) false,.cells (Za g)] (LeQ.start (LeQ.pk [0,2,7,8] 2 ?_))
      exact⟨rfl,p,(b++[g]),(someb hF).symm,by kernel_rfl,by kernel_rfl⟩
    ·rintro _ _ _ ⟨rfl,w,k,rfl,rfl,rfl⟩
     refine AWP.rg0 [] [(0,(.ptr 0 0)),(2,(vb a)),(7,(.own 1 (List.length k))),(8,(i64 (ZI (c - (1:Int)))))] (LeQ.start (LeQ.pk [0,2,7,8] 2 ?_))
     exact⟨a0,Nat.lt_succ_self _,w,k,(ZI (c - (1:Int))),hF,by kernel_rfl,by kernel_rfl⟩
   ·refine AWP.exit (LeQ.start (LeQ.pk [7] 2 ?_))
    exact⟨rfl,o,b,(someb hF).symm,by kernel_rfl,by kernel_rfl⟩
 ·rintro _ _ _ ⟨rfl,z,j,rfl,rfl,rfl⟩
  refine AWP.seq (AWP.rg0 [] [(6,(.own 1 (List.length j)))] (AWP.ret ?_))
  have hr:=someb hF
  subst hr
  exact(FnQ.f1 1 (.inr rfl) (.inl (Wk.ownT (i:=1) (s:=10) (t:=57) (l:=j) (sh:=false) (row:=Za) (by kernel_rfl) (.inl rfl))))
def Zmx (r:Bool):PV→List Blk→Prop:=fun p K=>p=(vb r)∧K=[]
abbrev Ztz (r:Bool):Exit→St→List Blk→Prop:=FnQ Tryz.prog Tryz.f96.results 0 (Zmx r)
theorem Zgs (a:ZB) (r:Bool) (hF:Zes a=some r):ACall Tryz.prog glob 96 [(Zag a)] [] (Zmx r):=by
 refine ACall.body Tryz.func96 rfl (by kernel_rfl) ?_
 unfold Zes at hF
 refine AWP.seq (AWP.rg [] [(1,(.ptr 0 0))] [.cells (Za a)] (AWP.seq (AWP.seq (AWP.rg0 [] [(1,(.ptr 0 0)),(3,(i64 (0:Int)))] ?_))))
 obtain⟨i,m,hF⟩:=bindb hF
 refine AWP.mid (fun e st H=>(e=.normal∧i=(.inl ())∧st=[]∧H=[.cells (Za a)])∨(e=.ret∧∃ r,i=(.inr r)∧Ztz r e st H)) ?_ ?_
 ·clear hF
  refine AWP.kp [1,3] 1 ?_
  refine AWP.bround (fun n st H=>∃ b,Zad a n b=some i∧st=[(1,(.ptr 0 0)),(3,(i64 b))]∧H=[.cells (Za a)]) fuel ⟨(0:Int),m,by kernel_rfl,by kernel_rfl⟩ ?_
  rintro j st H ⟨b,hF,rfl,rfl⟩
  cases j with
  | zero=>exact noneb hF
  | succ j=>
   rw [Zad] at hF
   refine AWP.seq (AWP.seq (AWP.rg0 [] [(1,(.ptr 0 0)),(3,(i64 b)),(5,(vb (decide (b<(5:Int)))))] ?_))
   refine AWP.cif hF (fun o hF=>?_) (fun o hF=>?_)
   ·refine AWP.skip (AWP.seq (AWP.block (AWP.seq ?_)))
    obtain⟨d,hF⟩:=chkb hF
    obtain⟨f,hF⟩:=chkb hF
    obtain⟨p,g,hF⟩:=bindb hF
    replace g:=someb g
    obtain⟨q,k,hF⟩:=bindb hF
    refine AWP.to [(1,(.ptr 0 0)),(3,(i64 b)),(25,(vb q))] [.cells (Za a)] ?_ ?_
    ·cases p with
     | false=>
      have c:=ifF k rfl
      obtain⟨l,c⟩:=chkb c
      obtain⟨s,t,c⟩:=bindb c
      replace c:=someb c
      subst c
      exact AWP.drT [(1,.ixd d),(3,.ldA Zk (Arr5.get a) 0 2 0 d),(5,.ixd f),(7,.ldA Zk (Arr5.get a) 0 2 1 f),(9,.bool g),(11,.ixd l),(13,.ldA Zk (Arr5.get a) 0 2 1 l),(15,.call Tryz.func43 [] (Zjv b s t))] 18 [] [] []
     | true=>
      have u:=someb (ifT k rfl)
      subst u
      exact AWP.drT [(1,.ixd d),(3,.ldA Zk (Arr5.get a) 0 2 0 d),(5,.ixd f),(7,.ldA Zk (Arr5.get a) 0 2 1 f),(9,.bool g)] 18 [] [] []
    refine AWP.cif hF (fun v hF=>?_) (fun v hF=>?_)
    ·refine AWP.seq (AWP.rg0 [] [(2,(vb false))] (AWP.ret ?_))
     exact LeQ.of (.inr ⟨rfl,false,(someb hF).symm,(FnQ.f0 0 (.inr rfl))⟩)
    ·refine AWP.skip (AWP.rg0 [] [(1,(.ptr 0 0)),(3,(i64 (ZI (b + (1:Int)))))] (LeQ.start (LeQ.pk [1,3] 1 ?_)))
     exact⟨j,Nat.lt_succ_self _,(ZI (b + (1:Int))),hF,by kernel_rfl,by kernel_rfl⟩
   ·refine AWP.exit (LeQ.start (LeQ.pk [] 1 ?_))
    exact(.inl ⟨rfl,(someb hF).symm,by kernel_rfl,by kernel_rfl⟩)
 ·rintro _ _ _ (⟨rfl,rfl,rfl,rfl⟩ | ⟨rfl,w,rfl,hq⟩)
  ·refine AWP.seq (AWP.rg0 [] [(2,(vb true))] (AWP.ret ?_))
   have hr:=someb hF
   subst hr
   exact(FnQ.f0 0 (.inr rfl))
  ·have hr:=someb hF
   subst hr
   exact hq
def Zt0 (r:Bool):PV→List Blk→Prop:=fun p K=>p=(vb r)∧K=[]
theorem Zt1 (b:Int) (c:Bool) (a:Bool) (r:Bool) (hF:Zht b c a=some r):ACall Tryz.prog glob 106 [(i64 b),(vb c),(vb a)] [] (Zt0 r):=by
 refine ACall.body Tryz.func106 rfl (by kernel_rfl) ?_
 unfold Zht at hF
 refine AWP.seq (AWP.rg0 [] [(0,(i64 b)),(1,(vb c)),(2,(vb a))] (AWP.seq (AWP.seq (AWP.rg0 [] [(1,(vb c)),(2,(vb a)),(7,(i64 b))] (AWP.block (AWP.seq ?_))))))
 refine AWP.rg0 [] [(1,(vb c)),(2,(vb a)),(7,(i64 b)),(8,(vb (b == (0:Int))))] ?_
 refine AWP.cif hF (fun l hF=>?_) (fun l hF=>?_)
 ·refine AWP.seq ?_
  obtain⟨i,d,hF⟩:=bindb hF
  replace d:=someb d
  refine AWP.to [(6,(vb (i || a)))] [] ?_ ?_
  ·cases i with
   | false=>
    exact AWP.rgT [(1,.bool d)]
   | true=>
    exact AWP.rgT [(1,.bool d)]
  refine AWP.ret ?_
  have hr:=someb hF
  subst hr
  exact(FnQ.f0 0 (.inr rfl))
 ·refine AWP.seq (AWP.rg0 [] [(1,(vb c)),(2,(vb a)),(7,(i64 b)),(14,(vb (b == (1:Int))))] ?_)
  refine AWP.cif hF (fun m hF=>?_) (fun m hF=>?_)
  ·refine AWP.seq ?_
   obtain⟨j,f,hF⟩:=bindb hF
   replace f:=someb f
   refine AWP.to [(6,(vb (j && a)))] [] ?_ ?_
   ·cases j with
    | false=>
     exact AWP.rgT [(1,.bool f)]
    | true=>
     exact AWP.rgT [(1,.bool f)]
   refine AWP.ret ?_
   have hr:=someb hF
   subst hr
   exact(FnQ.f0 0 (.inr rfl))
  ·refine AWP.seq (AWP.rg0 [] [(1,(vb c)),(2,(vb a)),(20,(vb (b == (2:Int))))] ?_)
   refine AWP.cif hF (fun n hF=>?_) (fun n hF=>?_)
   ·refine AWP.seq ?_
    obtain⟨k,g,hF⟩:=bindb hF
    replace g:=someb g
    refine AWP.to [(6,(vb (k && (!a))))] [] ?_ ?_
    ·cases k with
     | false=>
      exact AWP.rgT [(1,.bool g)]
     | true=>
      exact AWP.rgT [(1,.bool g)]
    refine AWP.ret ?_
    have hr:=someb hF
    subst hr
    exact(FnQ.f0 0 (.inr rfl))
   ·refine AWP.skip (AWP.seq (AWP.rg0 [] [(6,(vb (!(c == a))))] (AWP.ret ?_)))
    have hr:=someb hF
    subst hr
    exact(FnQ.f0 0 (.inr rfl))
def Zu6 (r:Bool):PV→List Blk→Prop:=fun p K=>p=(vb r)∧K=[]
theorem Zu7 (b:Int) (c:Bool) (a:Bool) (r:Bool) (hF:Zib b c a=some r):ACall Tryz.prog glob 107 [(i64 b),(vb c),(vb a)] [] (Zu6 r):=by
 refine ACall.body Tryz.func107 rfl (by kernel_rfl) ?_
 unfold Zib at hF
 refine AWP.seq (AWP.rg0 [] [(0,(i64 b)),(1,(vb c)),(2,(vb a))] (AWP.seq (AWP.seq (AWP.rg0 [] [(1,(vb c)),(2,(vb a)),(7,(i64 b))] (AWP.block (AWP.seq ?_))))))
 refine AWP.rg0 [] [(1,(vb c)),(2,(vb a)),(7,(i64 b)),(8,(vb (b == (1:Int))))] ?_
 refine AWP.cif hF (fun j hF=>?_) (fun j hF=>?_)
 ·refine AWP.seq ?_
  obtain⟨g,d,hF⟩:=bindb hF
  replace d:=someb d
  refine AWP.to [(6,(vb (g || (!a))))] [] ?_ ?_
  ·cases g with
   | false=>
    exact AWP.rgT [(2,.bool d)]
   | true=>
    exact AWP.rgT [(2,.bool d)]
  refine AWP.ret ?_
  have hr:=someb hF
  subst hr
  exact(FnQ.f0 0 (.inr rfl))
 ·refine AWP.seq (AWP.rg0 [] [(1,(vb c)),(2,(vb a)),(16,(vb (b == (2:Int))))] ?_)
  refine AWP.cif hF (fun k hF=>?_) (fun k hF=>?_)
  ·refine AWP.seq (AWP.rg0 [] [(6,(vb (!c)))] (AWP.ret ?_))
   have hr:=someb hF
   subst hr
   exact(FnQ.f0 0 (.inr rfl))
  ·refine AWP.skip (AWP.seq ?_)
   obtain⟨i,f,hF⟩:=bindb hF
   replace f:=someb f
   refine AWP.to [(6,(vb (i && (!a))))] [] ?_ ?_
   ·cases i with
    | false=>
     exact AWP.rgT [(2,.bool f)]
    | true=>
     exact AWP.rgT [(2,.bool f)]
   refine AWP.ret ?_
   have hr:=someb hF
   subst hr
   exact(FnQ.f0 0 (.inr rfl))
def Zsk (r:(List Zb)):PV→List Blk→Prop:=fun p K=>p=(slc 2 Zk r)∧K=[]
theorem Zsl (c:ZL) (b:ZL) (a:Int) (r:(List Zb)) (hF:Zhd c b a=some r):ACall Tryz.prog glob 109 [(slc 10 Za c),(slc 10 Za b),(i64 a)] [] (Zsk r):=by
 refine ACall.body Tryz.func109 rfl (by kernel_rfl) ?_
 unfold Zhd at hF
 refine AWP.seq (AWP.rg0 [] [(0,(slc 10 Za c)),(1,(slc 10 Za b)),(2,(i64 a))] (AWP.seq (AWP.rg0 [] [(0,(slc 10 Za c)),(1,(slc 10 Za b)),(2,(i64 a)),(7,nils)] ?_)))
 refine AWP.own (H':=[bf 2 55 Zk ([]:(List Zb)) false]) (st':=[(7,(.own 0 (List.length ([]:(List Zb))))),(0,(slc 10 Za c)),(1,(slc 10 Za b)),(2,(i64 a))]) 7 2 55 (by kernel_rfl) (by kernel_rfl) (by kernel_rfl) ?_
 refine AWP.pick (st':=[(0,(slc 10 Za c)),(1,(slc 10 Za b)),(2,(i64 a)),(7,(.own 0 (List.length ([]:(List Zb)))))]) (ks:=[0,1,2,7]) (by kernel_rfl) ?_
 refine AWP.seq (AWP.seq (AWP.rg0 [] [(0,(slc 10 Za c)),(1,(slc 10 Za b)),(2,(i64 a)),(7,(.own 0 (List.length ([]:(List Zb))))),(8,(i64 (0:Int)))] ?_))
 obtain⟨k,x,hF⟩:=bindb hF
 refine AWP.mid (fun e st H=>e=.normal∧st=[(1,(slc 10 Za b)),(2,(i64 a)),(7,(.own 0 (List.length k)))]∧H=[bf 2 55 Zk k false]) ?_ ?_
 ·clear hF
  refine AWP.kp [0,1,2,7,8] 1 ?_
  refine AWP.bround (fun n st H=>∃ d,∃ g,Zdy c a n d g=some k∧st=[(0,(slc 10 Za c)),(1,(slc 10 Za b)),(2,(i64 a)),(7,(.own 0 (List.length d))),(8,(i64 g))]∧H=[bf 2 55 Zk d false]) fuel ⟨([]:(List Zb)),(0:Int),x,by kernel_rfl,by kernel_rfl⟩ ?_
  rintro q st H ⟨d,g,hF,rfl,rfl⟩
  cases q with
  | zero=>exact noneb hF
  | succ q=>
   rw [Zdy] at hF
   refine AWP.seq (AWP.seq (AWP.rg0 [(2,.len Za c)] [(0,(slc 10 Za c)),(1,(slc 10 Za b)),(2,(i64 a)),(7,(.own 0 (List.length d))),(8,(i64 g)),(13,(vb (decide (g<(List.length c:Int)))))] ?_))
   refine AWP.cif hF (fun y hF=>?_) (fun y hF=>?_)
   ·refine AWP.skip (AWP.seq (AWP.block ?_))
    obtain⟨m,z,hF⟩:=bindb hF
    obtain⟨v,hF⟩:=chkb hF
    obtain⟨a0,hF⟩:=chkb hF
    refine AWP.rg [(4,.idx Za z),(5,.ixd v),(6,.ldA Zk (Arr5.get m) 0 2 0 v),(8,.app Zk (fun _=>by kernel_rfl) a0)] [(0,(slc 10 Za c)),(1,(slc 10 Za b)),(2,(i64 a)),(7,(.own 0 (List.length (d++[(Arr5.get m a)])))),(8,(i64 g))] [bf 2 55 Zk (d++[(Arr5.get m a)]) false] (AWP.rg0 [] [(0,(slc 10 Za c)),(1,(slc 10 Za b)),(2,(i64 a)),(7,(.own 0 (List.length (d++[(Arr5.get m a)])))),(8,(i64 (ZI (g + (1:Int)))))] (LeQ.start (LeQ.pk [0,1,2,7,8] 1 ?_)))
    exact⟨q,Nat.lt_succ_self _,(d++[(Arr5.get m a)]),(ZI (g + (1:Int))),hF,by kernel_rfl,by kernel_rfl⟩
   ·refine AWP.exit (LeQ.start (LeQ.pk [1,2,7] 1 ?_))
    have hr:=someb hF
    subst hr
    exact⟨rfl,by kernel_rfl,by kernel_rfl⟩
 ·rintro _ _ _ ⟨rfl,rfl,rfl⟩
  refine AWP.seq (AWP.seq (AWP.rg0 [] [(1,(slc 10 Za b)),(2,(i64 a)),(7,(.own 0 (List.length k))),(9,(i64 (0:Int)))] ?_))
  obtain⟨o,a1,hF⟩:=bindb hF
  refine AWP.mid (fun e st H=>e=.normal∧st=[(7,(.own 0 (List.length o)))]∧H=[bf 2 55 Zk o false]) ?_ ?_
  ·clear hF
   refine AWP.kp [1,2,7,9] 1 ?_
   refine AWP.bround (fun n st H=>∃ f,∃ j,Zdz b a n f j=some o∧st=[(1,(slc 10 Za b)),(2,(i64 a)),(7,(.own 0 (List.length f))),(9,(i64 j))]∧H=[bf 2 55 Zk f false]) fuel ⟨k,(0:Int),a1,by kernel_rfl,by kernel_rfl⟩ ?_
   rintro u st H ⟨f,j,hF,rfl,rfl⟩
   cases u with
   | zero=>exact noneb hF
   | succ u=>
    rw [Zdz] at hF
    refine AWP.seq (AWP.seq (AWP.rg0 [(2,.len Za b)] [(1,(slc 10 Za b)),(2,(i64 a)),(7,(.own 0 (List.length f))),(9,(i64 j)),(28,(vb (decide (j<(List.length b:Int)))))] ?_))
    refine AWP.cif hF (fun a2 hF=>?_) (fun a2 hF=>?_)
    ·refine AWP.skip (AWP.seq (AWP.block ?_))
     obtain⟨p,a3,hF⟩:=bindb hF
     obtain⟨w,hF⟩:=chkb hF
     obtain⟨a4,hF⟩:=chkb hF
     refine AWP.rg [(4,.idx Za a3),(5,.ixd w),(6,.ldA Zk (Arr5.get p) 0 2 0 w),(8,.app Zk (fun _=>by kernel_rfl) a4)] [(1,(slc 10 Za b)),(2,(i64 a)),(7,(.own 0 (List.length (f++[(Arr5.get p a)])))),(9,(i64 j))] [bf 2 55 Zk (f++[(Arr5.get p a)]) false] (AWP.rg0 [] [(1,(slc 10 Za b)),(2,(i64 a)),(7,(.own 0 (List.length (f++[(Arr5.get p a)])))),(9,(i64 (ZI (j + (1:Int)))))] (LeQ.start (LeQ.pk [1,2,7,9] 1 ?_)))
     exact⟨u,Nat.lt_succ_self _,(f++[(Arr5.get p a)]),(ZI (j + (1:Int))),hF,by kernel_rfl,by kernel_rfl⟩
    ·refine AWP.exit (LeQ.start (LeQ.pk [7] 1 ?_))
     have hr:=someb hF
     subst hr
     exact⟨rfl,by kernel_rfl,by kernel_rfl⟩
  ·rintro _ _ _ ⟨rfl,rfl,rfl⟩
   refine AWP.seq (AWP.rg0 [] [(6,(.own 0 (List.length o)))] (AWP.ret ?_))
   have hr:=someb hF
   subst hr
   exact(FnQ.f1 0 (.inr rfl) (.inl (Wk.ownT (i:=0) (s:=2) (t:=55) (l:=o) (sh:=false) (row:=Zk) (by kernel_rfl) (.inl rfl))))
def Zsm (r:(List Int)):PV→List Blk→Prop:=fun p K=>p=(slc 1 Zd r)∧K=[]
theorem Zme (a:(List Int)) (b:Int) (j:Int) (r:(List Int)) (hF:Zf5 a b j=some r):ACall Tryz.prog glob 136 [(slc 1 Zd a),(u64 b),(u32 j)] [] (Zsm r):=by
 refine ACall.body Tryz.func136 rfl (by kernel_rfl) ?_
 unfold Zf5 at hF
 refine AWP.seq (AWP.rg0 [] [(0,(slc 1 Zd a)),(1,(u64 b)),(2,(u32 j))] (AWP.seq (AWP.seq (AWP.rg0 [] [(0,(slc 1 Zd a)),(1,(u64 b)),(11,(vb (decide (b > (IntKind.wrap .u64 j)))))] ?_))))
 refine AWP.cif hF (fun v hF=>?_) (fun v hF=>?_)
 ·refine AWP.seq (AWP.rg0 [] [(6,(slc 1 Zd a))] (AWP.ret ?_))
  have hr:=someb hF
  subst hr
  exact(FnQ.f0 0 (.inr rfl))
 ·refine AWP.skip (AWP.seq (AWP.rg0 [] [(0,(slc 1 Zd a)),(1,(u64 b)),(7,(i64 (0:Int)))] (AWP.seq ?_)))
  obtain⟨c,w,hF⟩:=bindb hF
  refine AWP.mid (fun e st H=>e=.normal∧st=[(0,(slc 1 Zd a)),(1,(u64 b)),(7,(i64 c))]∧H=[]) ?_ ?_
  ·clear hF
   refine AWP.kp [0,1,7] 0 ?_
   refine AWP.bround (fun n st H=>∃ d,Zd0 a b n d=some c∧st=[(0,(slc 1 Zd a)),(1,(u64 b)),(7,(i64 d))]∧H=[]) fuel ⟨(0:Int),w,by kernel_rfl,by kernel_rfl⟩ ?_
   rintro p st H ⟨d,hF,rfl,rfl⟩
   cases p with
   | zero=>exact noneb hF
   | succ p=>
    rw [Zd0] at hF
    refine AWP.seq (AWP.seq ?_)
    obtain⟨x,k,hF⟩:=bindb hF
    replace k:=someb k
    obtain⟨y,q,hF⟩:=bindb hF
    refine AWP.to [(0,(slc 1 Zd a)),(1,(u64 b)),(7,(i64 d)),(24,(vb y))] [] ?_ ?_
    ·cases x with
     | false=>
      have z:=someb (ifF q rfl)
      subst z
      exact AWP.rgT [(2,.len Zd a),(4,.bool k)]
     | true=>
      have f:=ifT q rfl
      obtain⟨b2,a0,f⟩:=bindb f
      replace f:=someb f
      subst f
      exact AWP.rgT [(2,.len Zd a),(4,.bool k),(7,.idx Zd a0)]
    refine AWP.cif hF (fun a1 hF=>?_) (fun a1 hF=>?_)
    ·refine AWP.skip (AWP.block (AWP.rg0 [] [(0,(slc 1 Zd a)),(1,(u64 b)),(7,(i64 (ZI (d + (1:Int)))))] (LeQ.start (LeQ.pk [0,1,7] 0 ?_))))
     exact⟨p,Nat.lt_succ_self _,(ZI (d + (1:Int))),hF,by kernel_rfl,by kernel_rfl⟩
    ·refine AWP.exit (LeQ.start (LeQ.pk [0,1,7] 0 ?_))
     have hr:=someb hF
     subst hr
     exact⟨rfl,by kernel_rfl,by kernel_rfl⟩
  ·rintro _ _ _ ⟨rfl,rfl,rfl⟩
   refine AWP.seq (AWP.seq ?_)
   obtain⟨a2,o,hF⟩:=bindb hF
   replace o:=someb o
   obtain⟨a3,u,hF⟩:=bindb hF
   refine AWP.to [(0,(slc 1 Zd a)),(1,(u64 b)),(7,(i64 c)),(38,(vb a3))] [] ?_ ?_
   ·cases a2 with
    | false=>
     have a4:=someb (ifF u rfl)
     subst a4
     exact AWP.rgT [(2,.len Zd a),(4,.bool o)]
    | true=>
     have g:=ifT u rfl
     obtain⟨b3,a5,g⟩:=bindb g
     replace g:=someb g
     subst g
     exact AWP.rgT [(2,.len Zd a),(4,.bool o),(7,.idx Zd a5)]
   refine AWP.cif hF (fun a6 hF=>?_) (fun a6 hF=>?_)
   ·refine AWP.seq (AWP.rg0 [] [(6,(slc 1 Zd a))] (AWP.ret ?_))
    have hr:=someb hF
    subst hr
    exact(FnQ.f0 0 (.inr rfl))
   ·refine AWP.skip (AWP.seq ?_)
    obtain⟨a7,hF⟩:=chkb hF
    obtain⟨a8,hF⟩:=chkb hF
    obtain⟨a9,hF⟩:=chkb hF
    obtain⟨b0,hF⟩:=chkb hF
    obtain⟨b1,hF⟩:=chkb hF
    refine AWP.dr [(0,.m),(3,.slice Zd a a7),(4,.app Zd (fun _=>by kernel_rfl) a8),(7,.app Zd (fun _=>by kernel_rfl) a9),(10,.slice Zd a b0),(11,.app Zd (fun _=>by kernel_rfl) b1)] 12 [] [0,4,7,11] [] [(6,(.own 0 (List.length (((([]:(List Int))++(List.drop (Int.toNat (0:Int)) (List.take (Int.toNat c) a)))++[b])++(List.drop (Int.toNat c) (List.take (Int.toNat (List.length a:Int)) a))))))] [bf 1 134 Zd (((([]:(List Int))++(List.drop (Int.toNat (0:Int)) (List.take (Int.toNat c) a)))++[b])++(List.drop (Int.toNat c) (List.take (Int.toNat (List.length a:Int)) a))) false] (AWP.ret ?_)
    have hr:=someb hF
    subst hr
    exact(FnQ.f1 0 (.inr rfl) (.inl (Wk.ownT (i:=0) (s:=1) (t:=134) (l:=(((([]:(List Int))++(List.drop (Int.toNat (0:Int)) (List.take (Int.toNat c) a)))++[b])++(List.drop (Int.toNat c) (List.take (Int.toNat (List.length a:Int)) a)))) (sh:=false) (row:=Zd) (by kernel_rfl) (.inl rfl))))
def Zsn (r:(List Int)):PV→List Blk→Prop:=fun p K=>p=(slc 1 Zd r)∧K=[]
theorem Zso (a:(List Zb)) (b:Int) (r:(List Int)) (hF:Zhe a b=some r):ACall Tryz.prog glob 108 [(slc 2 Zk a),(u32 b)] [] (Zsn r):=by
 refine ACall.body Tryz.func108 rfl (by kernel_rfl) ?_
 unfold Zhe at hF
 refine AWP.seq (AWP.rg0 [] [(0,(slc 2 Zk a)),(1,(u32 b))] (AWP.seq (AWP.rg0 [] [(0,(slc 2 Zk a)),(1,(u32 b)),(5,(slc 1 Zd [(0:Int)]))] (AWP.seq (AWP.seq (AWP.rg0 [] [(0,(slc 2 Zk a)),(1,(u32 b)),(5,(slc 1 Zd [(0:Int)])),(6,(i64 (0:Int)))] ?_))))))
 obtain⟨f,l,hF⟩:=bindb hF
 refine AWP.mid (fun e st H=>e=.normal∧st=[(5,(slc 1 Zd f))]∧H=[]) ?_ ?_
 ·clear hF
  refine AWP.kp [0,1,5,6] 0 ?_
  refine AWP.bround (fun n st H=>∃ d,∃ c,Zd1 a b n d c=some f∧st=[(0,(slc 2 Zk a)),(1,(u32 b)),(5,(slc 1 Zd d)),(6,(i64 c))]∧H=[]) fuel ⟨[(0:Int)],(0:Int),l,by kernel_rfl,by kernel_rfl⟩ ?_
  rintro g st H ⟨d,c,hF,rfl,rfl⟩
  cases g with
  | zero=>exact noneb hF
  | succ g=>
   rw [Zd1] at hF
   refine AWP.seq (AWP.seq (AWP.rg0 [(2,.len Zk a)] [(0,(slc 2 Zk a)),(1,(u32 b)),(5,(slc 1 Zd d)),(6,(i64 c)),(11,(vb (decide (c<(List.length a:Int)))))] ?_))
   refine AWP.cif hF (fun m hF=>?_) (fun m hF=>?_)
   ·refine AWP.skip ?_
    obtain⟨i,o,hF⟩:=bindb hF
    refine AWP.seq ?_
    refine AWP.mid (fun e st H=>e=.normal∧st=[(0,(slc 2 Zk a)),(1,(u32 b)),(5,(slc 1 Zd i)),(6,(i64 c))]∧H=[]) ?_ ?_
    ·clear hF
     have hF:=o
     refine AWP.block (AWP.seq ?_)
     obtain⟨p,q,hF⟩:=bindb hF
     obtain⟨s,t,hF⟩:=bindb hF
     refine AWP.dr [(2,.idx Zk q),(7,.idx Zk t)] 11 [] [] [] [(0,(slc 2 Zk a)),(1,(u32 b)),(5,(slc 1 Zd d)),(6,(i64 c)),(24,(vb (decide (p.Lo≤s.Hi))))] [] ?_
     refine AWP.cif hF (fun u hF=>?_) (fun u hF=>?_)
     ·obtain⟨v,w,hF⟩:=bindb hF
      obtain⟨j,x,hF⟩:=bindb hF
      obtain⟨y,z,hF⟩:=bindb hF
      obtain⟨k,a0,hF⟩:=bindb hF
      refine AWP.dr [(3,.idx Zk w),(8,.call Tryz.func136 [] (Zme d (IntKind.wrap .u64 v.Lo) b j x)),(11,.idx Zk z),(17,.call Tryz.func136 [] (Zme j (IntKind.wrap .u64 ((IntKind.wrap .u64 y.Hi) + (1:Int))) b k a0))] 18 [] [] [] [(0,(slc 2 Zk a)),(1,(u32 b)),(5,(slc 1 Zd k)),(6,(i64 c))] [] (LeQ.start (LeQ.pk [0,1,5,6] 0 ?_))
      have hr:=someb hF
      subst hr
      exact⟨rfl,by kernel_rfl,by kernel_rfl⟩
     ·refine AWP.skip (LeQ.start (LeQ.pk [0,1,5,6] 0 ?_))
      have hr:=someb hF
      subst hr
      exact⟨rfl,by kernel_rfl,by kernel_rfl⟩
    ·rintro _ _ _ ⟨rfl,rfl,rfl⟩
     refine AWP.rg0 [] [(0,(slc 2 Zk a)),(1,(u32 b)),(5,(slc 1 Zd i)),(6,(i64 (ZI (c + (1:Int)))))] (LeQ.start (LeQ.pk [0,1,5,6] 0 ?_))
     exact⟨g,Nat.lt_succ_self _,i,(ZI (c + (1:Int))),hF,by kernel_rfl,by kernel_rfl⟩
   ·refine AWP.exit (LeQ.start (LeQ.pk [5] 0 ?_))
    have hr:=someb hF
    subst hr
    exact⟨rfl,by kernel_rfl,by kernel_rfl⟩
 ·rintro _ _ _ ⟨rfl,rfl,rfl⟩
  refine AWP.seq (AWP.rg0 [] [(4,(slc 1 Zd f))] (AWP.ret ?_))
  have hr:=someb hF
  subst hr
  exact(FnQ.f0 0 (.inr rfl))
def Zxp (r:ZL):PV→List Blk→Prop:=fun p K=>p=(slc 10 Za r)∧K=[]
theorem Zqg (a:ZL) (b:Int) (c:Int) (r:ZL) (hF:Zic a b c=some r):ACall Tryz.prog glob 110 [(slc 10 Za a),(i64 b),(u64 c)] [] (Zxp r):=by
 refine ACall.body Tryz.func110 rfl (by kernel_rfl) ?_
 unfold Zic at hF
 refine AWP.seq (AWP.rg0 [] [(0,(slc 10 Za a)),(1,(i64 b)),(2,(u64 c))] (AWP.seq (AWP.rg0 [] [(0,(slc 10 Za a)),(1,(i64 b)),(2,(u64 c)),(7,nils)] ?_)))
 refine AWP.own (H':=[bf 10 57 Za ([]:ZL) false]) (st':=[(7,(.own 0 (List.length ([]:ZL)))),(0,(slc 10 Za a)),(1,(i64 b)),(2,(u64 c))]) 7 10 57 (by kernel_rfl) (by kernel_rfl) (by kernel_rfl) ?_
 refine AWP.pick (st':=[(0,(slc 10 Za a)),(1,(i64 b)),(2,(u64 c)),(7,(.own 0 (List.length ([]:ZL))))]) (ks:=[0,1,2,7]) (by kernel_rfl) ?_
 refine AWP.seq (AWP.seq (AWP.rg0 [] [(0,(slc 10 Za a)),(1,(i64 b)),(2,(u64 c)),(7,(.own 0 (List.length ([]:ZL)))),(8,(i64 (0:Int)))] ?_))
 obtain⟨j,y,hF⟩:=bindb hF
 refine AWP.mid (fun e st H=>e=.normal∧st=[(7,(.own 0 (List.length j)))]∧H=[bf 10 57 Za j false]) ?_ ?_
 ·clear hF
  refine AWP.kp [0,1,2,7,8] 1 ?_
  refine AWP.bround (fun n st H=>∃ f,∃ d,Zfk a b c n f d=some j∧st=[(0,(slc 10 Za a)),(1,(i64 b)),(2,(u64 c)),(7,(.own 0 (List.length f))),(8,(i64 d))]∧H=[bf 10 57 Za f false]) fuel ⟨([]:ZL),(0:Int),y,by kernel_rfl,by kernel_rfl⟩ ?_
  rintro p st H ⟨f,d,hF,rfl,rfl⟩
  cases p with
  | zero=>exact noneb hF
  | succ p=>
   rw [Zfk] at hF
   refine AWP.seq (AWP.seq (AWP.rg0 [(2,.len Za a)] [(0,(slc 10 Za a)),(1,(i64 b)),(2,(u64 c)),(7,(.own 0 (List.length f))),(8,(i64 d)),(12,(vb (decide (d<(List.length a:Int)))))] ?_))
   refine AWP.cif hF (fun z hF=>?_) (fun z hF=>?_)
   ·refine AWP.skip ?_
    obtain⟨k,a0,hF⟩:=bindb hF
    refine AWP.seq ?_
    refine AWP.mid (fun e st H=>e=.normal∧st=[(0,(slc 10 Za a)),(1,(i64 b)),(2,(u64 c)),(7,(.own 0 (List.length k))),(8,(i64 d))]∧H=[bf 10 57 Za k false]) ?_ ?_
    ·clear hF
     have hF:=a0
     refine AWP.block (AWP.seq ?_)
     obtain⟨q,u,hF⟩:=bindb hF
     obtain⟨m,hF⟩:=chkb hF
     obtain⟨a1,o,hF⟩:=bindb hF
     replace o:=someb o
     obtain⟨a2,v,hF⟩:=bindb hF
     refine AWP.to [(0,(slc 10 Za a)),(1,(i64 b)),(2,(u64 c)),(7,(.own 0 (List.length f))),(8,(i64 d)),(36,(vb a2))] [bf 10 57 Za f false] ?_ ?_
     ·cases a1 with
      | false=>
       have a3:=someb (ifF v rfl)
       subst a3
       exact AWP.rgT [(3,.idx Za u),(4,.ixd m),(6,.ldA Zk (Arr5.get q) 0 2 0 m),(10,.bool o)]
      | true=>
       have g:=ifT v rfl
       obtain⟨a4,a5,g⟩:=bindb g
       obtain⟨w,g⟩:=chkb g
       replace g:=someb g
       subst g
       exact AWP.rgT [(3,.idx Za u),(4,.ixd m),(6,.ldA Zk (Arr5.get q) 0 2 0 m),(10,.bool o),(15,.idx Za a5),(16,.ixd w),(18,.ldA Zk (Arr5.get a4) 0 2 1 w)]
     refine AWP.cif hF (fun a6 hF=>?_) (fun a6 hF=>?_)
     ·obtain⟨x,a7,hF⟩:=bindb hF
      obtain⟨a8,hF⟩:=chkb hF
      refine AWP.rg [(3,.idx Za a7),(6,.app Za (fun _=>by kernel_rfl) a8)] [(0,(slc 10 Za a)),(1,(i64 b)),(2,(u64 c)),(7,(.own 0 (List.length (f++[x])))),(8,(i64 d))] [bf 10 57 Za (f++[x]) false] (LeQ.start (LeQ.pk [0,1,2,7,8] 1 ?_))
      have hr:=someb hF
      subst hr
      exact⟨rfl,by kernel_rfl,by kernel_rfl⟩
     ·refine AWP.skip (LeQ.start (LeQ.pk [0,1,2,7,8] 1 ?_))
      have hr:=someb hF
      subst hr
      exact⟨rfl,by kernel_rfl,by kernel_rfl⟩
    ·rintro _ _ _ ⟨rfl,rfl,rfl⟩
     refine AWP.rg0 [] [(0,(slc 10 Za a)),(1,(i64 b)),(2,(u64 c)),(7,(.own 0 (List.length k))),(8,(i64 (ZI (d + (1:Int)))))] (LeQ.start (LeQ.pk [0,1,2,7,8] 1 ?_))
     exact⟨p,Nat.lt_succ_self _,k,(ZI (d + (1:Int))),hF,by kernel_rfl,by kernel_rfl⟩
   ·refine AWP.exit (LeQ.start (LeQ.pk [7] 1 ?_))
    have hr:=someb hF
    subst hr
    exact⟨rfl,by kernel_rfl,by kernel_rfl⟩
 ·rintro _ _ _ ⟨rfl,rfl,rfl⟩
  refine AWP.seq (AWP.rg0 [] [(6,(.own 0 (List.length j)))] (AWP.ret ?_))
  have hr:=someb hF
  subst hr
  exact(FnQ.f1 0 (.inr rfl) (.inl (Wk.ownT (i:=0) (s:=10) (t:=57) (l:=j) (sh:=false) (row:=Za) (by kernel_rfl) (.inl rfl))))
def Zn0 (r:Bool):PV→List Blk→Prop:=fun p K=>p=(vb r)∧K=[]
abbrev Zu8 (r:Bool):Exit→St→List Blk→Prop:=FnQ Tryz.prog Tryz.f111.results 0 (Zn0 r)
theorem Zn1 (a:ZL) (b:ZL) (r:Bool) (hF:Zf6 a b=some r):ACall Tryz.prog glob 111 [(slc 10 Za a),(slc 10 Za b)] [] (Zn0 r):=by
 refine ACall.body Tryz.func111 rfl (by kernel_rfl) ?_
 unfold Zf6 at hF
 refine AWP.seq (AWP.rg0 [] [(0,(slc 10 Za a)),(1,(slc 10 Za b))] (AWP.seq (AWP.seq (AWP.rg0 [(1,.len Za a),(3,.len Za b)] [(0,(slc 10 Za a)),(1,(slc 10 Za b)),(10,(vb ((List.length a:Int) != (List.length b:Int))))] ?_))))
 refine AWP.cif hF (fun g hF=>?_) (fun g hF=>?_)
 ·refine AWP.seq (AWP.rg0 [] [(4,(vb false))] (AWP.ret ?_))
  have hr:=someb hF
  subst hr
  exact(FnQ.f0 0 (.inr rfl))
 ·refine AWP.skip (AWP.seq (AWP.seq (AWP.rg0 [] [(0,(slc 10 Za a)),(1,(slc 10 Za b)),(5,(i64 (0:Int)))] ?_)))
  obtain⟨d,i,hF⟩:=bindb hF
  refine AWP.mid (fun e st H=>(e=.normal∧d=(.inl ())∧st=[]∧H=[])∨(e=.ret∧∃ r,d=(.inr r)∧Zu8 r e st H)) ?_ ?_
  ·clear hF
   refine AWP.kp [0,1,5] 0 ?_
   refine AWP.bround (fun n st H=>∃ c,Zel a b n c=some d∧st=[(0,(slc 10 Za a)),(1,(slc 10 Za b)),(5,(i64 c))]∧H=[]) fuel ⟨(0:Int),i,by kernel_rfl,by kernel_rfl⟩ ?_
   rintro f st H ⟨c,hF,rfl,rfl⟩
   cases f with
   | zero=>exact noneb hF
   | succ f=>
    rw [Zel] at hF
    refine AWP.seq (AWP.seq (AWP.rg0 [(2,.len Za a)] [(0,(slc 10 Za a)),(1,(slc 10 Za b)),(5,(i64 c)),(14,(vb (decide (c<(List.length a:Int)))))] ?_))
    refine AWP.cif hF (fun j hF=>?_) (fun j hF=>?_)
    ·refine AWP.skip (AWP.seq (AWP.block (AWP.seq ?_)))
     obtain⟨k,l,hF⟩:=bindb hF
     obtain⟨m,o,hF⟩:=bindb hF
     refine AWP.dr [(2,.idx Za l),(6,.idx Za o)] 9 [] [] [] [(0,(slc 10 Za a)),(1,(slc 10 Za b)),(5,(i64 c)),(25,(vb (!(Zer k m))))] [] ?_
     refine AWP.cif hF (fun p hF=>?_) (fun p hF=>?_)
     ·refine AWP.seq (AWP.rg0 [] [(4,(vb false))] (AWP.ret ?_))
      exact LeQ.of (.inr ⟨rfl,false,(someb hF).symm,(FnQ.f0 0 (.inr rfl))⟩)
     ·refine AWP.skip (AWP.rg0 [] [(0,(slc 10 Za a)),(1,(slc 10 Za b)),(5,(i64 (ZI (c + (1:Int)))))] (LeQ.start (LeQ.pk [0,1,5] 0 ?_)))
      exact⟨f,Nat.lt_succ_self _,(ZI (c + (1:Int))),hF,by kernel_rfl,by kernel_rfl⟩
    ·refine AWP.exit (LeQ.start (LeQ.pk [] 0 ?_))
     exact(.inl ⟨rfl,(someb hF).symm,by kernel_rfl,by kernel_rfl⟩)
  ·rintro _ _ _ (⟨rfl,rfl,rfl,rfl⟩ | ⟨rfl,q,rfl,hq⟩)
   ·refine AWP.seq (AWP.rg0 [] [(4,(vb true))] (AWP.ret ?_))
    have hr:=someb hF
    subst hr
    exact(FnQ.f0 0 (.inr rfl))
   ·have hr:=someb hF
    subst hr
    exact hq
def Zmy (r:ZL):PV→List Blk→Prop:=fun p K=>p=(slc 10 Za r)∧K=[]
theorem Zrf:∀(nr:Nat) (b:ZL) (c:ZL) (d:Int) (a:Int) (r:ZL) (hF:Zbr nr b c d a=some r),ACall Tryz.prog glob 60 [(slc 10 Za b),(slc 10 Za c),(i64 d),(i64 a)] [] (Zmy r):=by
 intro nr
 induction nr with
 | zero=>intro b c d a r hF; exact noneb (by rw [Zbr] at hF; exact hF)
 | succ nr ih=>
  intro b c d a r hF
  refine ACall.body Tryz.func60 rfl (by kernel_rfl) ?_
  rw [Zbr] at hF
  refine AWP.seq (AWP.rg0 [] [(0,(slc 10 Za b)),(1,(slc 10 Za c)),(2,(i64 d)),(3,(i64 a))] (AWP.seq (AWP.seq (AWP.rg0 [] [(0,(slc 10 Za b)),(1,(slc 10 Za c)),(2,(i64 d)),(3,(i64 a)),(19,(vb (a == (5:Int))))] ?_))))
  refine AWP.cif hF (fun c4 hF=>?_) (fun c4 hF=>?_)
  ·refine AWP.seq (AWP.seq ?_)
   obtain⟨b4,c5,hF⟩:=bindb hF
   refine AWP.rg0 [(2,.len Za b),(5,.len Za c),(7,.call Tryz.func106 [] (Zt1 d (decide ((List.length b:Int) > (0:Int))) (decide ((List.length c:Int) > (0:Int))) b4 c5))] [(27,(vb b4))] ?_
   refine AWP.cif hF (fun c6 hF=>?_) (fun c6 hF=>?_)
   ·refine AWP.seq (AWP.rg0 [] [(8,(slc 10 Za [(Arr5.mk Zq Zq Zq Zq Zq)]))] (AWP.ret ?_))
    have hr:=someb hF
    subst hr
    exact(FnQ.f0 0 (.inr rfl))
   ·refine AWP.skip (AWP.seq (AWP.rg0 [] [(8,nils)] (AWP.ret ?_)))
    have hr:=someb hF
    subst hr
    exact(FnQ.f1 0 (.inr rfl) (.inl (.nil 10)))
  ·refine AWP.skip (AWP.seq (AWP.seq ?_))
   obtain⟨b5,c7,hF⟩:=bindb hF
   refine AWP.rg0 [(2,.len Za b),(5,.len Za c),(7,.call Tryz.func107 [] (Zu7 d (decide ((List.length b:Int) > (0:Int))) (decide ((List.length c:Int) > (0:Int))) b5 c7))] [(0,(slc 10 Za b)),(1,(slc 10 Za c)),(2,(i64 d)),(3,(i64 a)),(37,(vb b5))] ?_
   refine AWP.cif hF (fun c8 hF=>?_) (fun c8 hF=>?_)
   ·refine AWP.seq (AWP.rg0 [] [(8,nils)] (AWP.ret ?_))
    have hr:=someb hF
    subst hr
    exact(FnQ.f1 0 (.inr rfl) (.inl (.nil 10)))
   ·refine AWP.skip (AWP.seq (AWP.rg0 [] [(0,(slc 10 Za b)),(1,(slc 10 Za c)),(2,(i64 d)),(3,(i64 a)),(9,nils),(10,nils)] ?_))
    refine AWP.own (H':=[bf 10 57 Za ([]:ZL) false]) (st':=[(9,(.own 0 (List.length ([]:ZL)))),(0,(slc 10 Za b)),(1,(slc 10 Za c)),(2,(i64 d)),(3,(i64 a)),(10,nils)]) 9 10 57 (by kernel_rfl) (by kernel_rfl) (by kernel_rfl) ?_
    refine AWP.pick (st':=[(0,(slc 10 Za b)),(1,(slc 10 Za c)),(2,(i64 d)),(3,(i64 a)),(9,(.own 0 (List.length ([]:ZL)))),(10,nils)]) (ks:=[0,1,2,3,9,10]) (by kernel_rfl) ?_
    refine AWP.seq ?_
    obtain⟨b6,c9,hF⟩:=bindb hF
    obtain⟨b7,d0,hF⟩:=bindb hF
    obtain⟨f,d1,hF⟩:=bindb hF
    refine AWP.rg0 [(3,.call Tryz.func109 [] (Zsl b c a b6 c9)),(5,.call Tryz.func43 [] (Zjv a b7 d0)),(6,.call Tryz.func108 [] (Zso b6 b7 f d1))] [(0,(slc 10 Za b)),(1,(slc 10 Za c)),(2,(i64 d)),(3,(i64 a)),(9,(.own 0 (List.length ([]:ZL)))),(10,nils),(11,(slc 1 Zd f))] (AWP.seq (AWP.seq (AWP.rg0 [] [(0,(slc 10 Za b)),(1,(slc 10 Za c)),(2,(i64 d)),(3,(i64 a)),(9,(.own 0 (List.length ([]:ZL)))),(10,nils),(11,(slc 1 Zd f)),(12,(i64 (0:Int)))] ?_)))
    obtain⟨a2,d2,hF⟩:=bindb hF
    refine AWP.mid (fun e st H=>e=.normal∧st=[(9,(.own 0 (List.length a2)))]∧H=[bf 10 57 Za a2 false]) ?_ ?_
    ·clear hF
     refine AWP.wk (p:=nils) (q:=(slc 10 Za ([]:ZL))) (st':=[(10,(slc 10 Za ([]:ZL))),(0,(slc 10 Za b)),(1,(slc 10 Za c)),(2,(i64 d)),(3,(i64 a)),(9,(.own 0 (List.length ([]:ZL)))),(11,(slc 1 Zd f)),(12,(i64 (0:Int)))]) 10 (by kernel_rfl) (.nil 10) (by kernel_rfl) ?_
     refine AWP.kp [0,1,2,3,9,10,11,12] 1 ?_
     refine AWP.bround (fun n st H=>∃ m,∃ o,∃ g,Zeb b c d a (Zbr nr) f n m o g=some a2∧st=[(0,(slc 10 Za b)),(1,(slc 10 Za c)),(2,(i64 d)),(3,(i64 a)),(9,(.own 0 (List.length m))),(10,(slc 10 Za o)),(11,(slc 1 Zd f)),(12,(i64 g))]∧H=[bf 10 57 Za m false]) fuel ⟨([]:ZL),([]:ZL),(0:Int),d2,by kernel_rfl,by kernel_rfl⟩ ?_
     rintro a9 st H ⟨m,o,g,hF,rfl,rfl⟩
     cases a9 with
     | zero=>exact noneb hF
     | succ a9=>
      rw [Zeb] at hF
      refine AWP.seq (AWP.seq (AWP.rg0 [(2,.len Zd f)] [(0,(slc 10 Za b)),(1,(slc 10 Za c)),(2,(i64 d)),(3,(i64 a)),(9,(.own 0 (List.length m))),(10,(slc 10 Za o)),(11,(slc 1 Zd f)),(12,(i64 g)),(48,(vb (decide (g<(List.length f:Int)))))] ?_))
      refine AWP.cif hF (fun d3 hF=>?_) (fun d3 hF=>?_)
      ·refine AWP.skip ?_
       obtain⟨d4,d5,hF⟩:=bindb hF
       refine AWP.seq ?_
       refine AWP.mid (fun e st H=>(e=.normal∧∃ a1,∃ a3,d4=(a1,a3)∧st=[(0,(slc 10 Za b)),(1,(slc 10 Za c)),(2,(i64 d)),(3,(i64 a)),(9,(.own 0 (List.length a1))),(10,(slc 10 Za a3)),(11,(slc 1 Zd f)),(12,(i64 g))]∧H=[bf 10 57 Za a1 false])) ?_ ?_
       ·clear hF
        have hF:=d5
        refine AWP.block (AWP.seq ?_)
        obtain⟨b0,d6,hF⟩:=bindb hF
        refine AWP.rg0 [(1,.call Tryz.func43 [] (Zjv a b0 d6))] [(0,(slc 10 Za b)),(1,(slc 10 Za c)),(2,(i64 d)),(3,(i64 a)),(9,(.own 0 (List.length m))),(10,(slc 10 Za o)),(11,(slc 1 Zd f)),(12,(i64 g)),(13,(u64 (IntKind.wrap .u64 b0)))] ?_
        obtain⟨j,d7,hF⟩:=bindb hF
        refine AWP.seq ?_
        refine AWP.mid (fun e st H=>e=.normal∧st=[(0,(slc 10 Za b)),(1,(slc 10 Za c)),(2,(i64 d)),(3,(i64 a)),(9,(.own 0 (List.length m))),(10,(slc 10 Za o)),(11,(slc 1 Zd f)),(12,(i64 g)),(13,(u64 j))]∧H=[bf 10 57 Za m false]) ?_ ?_
        ·clear hF
         have hF:=d7
         refine AWP.seq (AWP.rg0 [(3,.len Zd f)] [(0,(slc 10 Za b)),(1,(slc 10 Za c)),(2,(i64 d)),(3,(i64 a)),(9,(.own 0 (List.length m))),(10,(slc 10 Za o)),(11,(slc 1 Zd f)),(12,(i64 g)),(13,(u64 (IntKind.wrap .u64 b0))),(58,(vb (decide ((ZI (g + (1:Int)))<(List.length f:Int)))))] ?_)
         refine AWP.cif hF (fun d8 hF=>?_) (fun d8 hF=>?_)
         ·obtain⟨d9,e0,hF⟩:=bindb hF
          refine AWP.rg0 [(3,.idx Zd e0)] [(0,(slc 10 Za b)),(1,(slc 10 Za c)),(2,(i64 d)),(3,(i64 a)),(9,(.own 0 (List.length m))),(10,(slc 10 Za o)),(11,(slc 1 Zd f)),(12,(i64 g)),(13,(u64 (IntKind.wrap .u64 (d9 - (1:Int)))))] (LeQ.start (LeQ.pk [0,1,2,3,9,10,11,12,13] 1 ?_))
          have hr:=someb hF
          subst hr
          exact⟨rfl,by kernel_rfl,by kernel_rfl⟩
         ·refine AWP.skip (LeQ.start (LeQ.pk [0,1,2,3,9,10,11,12,13] 1 ?_))
          have hr:=someb hF
          subst hr
          exact⟨rfl,by kernel_rfl,by kernel_rfl⟩
        ·rintro _ _ _ ⟨rfl,rfl,rfl⟩
         refine AWP.seq ?_
         obtain⟨e1,e2,hF⟩:=bindb hF
         obtain⟨b8,e3,hF⟩:=bindb hF
         obtain⟨e4,e5,hF⟩:=bindb hF
         obtain⟨b9,e6,hF⟩:=bindb hF
         obtain⟨k,e7,hF⟩:=bindb hF
         refine AWP.dr [(4,.idx Zd e2),(6,.call Tryz.func110 [] (Zqg b a e1 b8 e3)),(11,.idx Zd e5),(13,.call Tryz.func110 [] (Zqg c a e4 b9 e6)),(17,.call Tryz.func60 [] (ih b8 b9 d (ZI (a + (1:Int))) k e7))] 18 [] [] [] [(0,(slc 10 Za b)),(1,(slc 10 Za c)),(2,(i64 d)),(3,(i64 a)),(9,(.own 0 (List.length m))),(10,(slc 10 Za o)),(11,(slc 1 Zd f)),(12,(i64 g)),(13,(u64 j)),(14,(slc 10 Za k))] [bf 10 57 Za m false] (AWP.seq (AWP.seq ?_))
         obtain⟨e8,a4,hF⟩:=bindb hF
         replace a4:=someb a4
         obtain⟨e9,a5,hF⟩:=bindb hF
         replace a5:=someb a5
         obtain⟨f2,b1,hF⟩:=bindb hF
         refine AWP.to [(0,(slc 10 Za b)),(1,(slc 10 Za c)),(2,(i64 d)),(3,(i64 a)),(9,(.own 0 (List.length m))),(10,(slc 10 Za o)),(11,(slc 1 Zd f)),(12,(i64 g)),(13,(u64 j)),(14,(slc 10 Za k)),(94,(vb f2))] [bf 10 57 Za m false] ?_ ?_
         ·cases e8 with
          | false=>
           subst a5
           have f3:=someb (ifF b1 rfl)
           subst f3
           exact AWP.rgT [(2,.bool a4)]
          | true=>
           cases e9 with
           | false=>
            have f4:=someb (ifF b1 rfl)
            subst f4
            exact AWP.rgT [(2,.bool a4),(4,.len Za k),(7,.bool a5)]
           | true=>
            have a6:=ifT b1 rfl
            obtain⟨f5,f6,a6⟩:=bindb a6
            replace a6:=someb a6
            subst a6
            exact AWP.rgT [(2,.bool a4),(4,.len Za k),(7,.bool a5),(10,.call Tryz.func111 [] (Zn1 k o f5 f6))]
         refine AWP.cif hF (fun f7 hF=>?_) (fun f7 hF=>?_)
         ·refine AWP.seq (AWP.seq (AWP.rg0 [(1,.len Za m),(3,.len Za k)] [(0,(slc 10 Za b)),(1,(slc 10 Za c)),(2,(i64 d)),(3,(i64 a)),(9,(.own 0 (List.length m))),(10,(slc 10 Za o)),(11,(slc 1 Zd f)),(12,(i64 g)),(13,(u64 j)),(15,(i64 (ZI ((List.length m:Int) - (List.length k:Int)))))] ?_))
          obtain⟨a7,f8,hF⟩:=bindb hF
          refine AWP.mid (fun e st H=>e=.normal∧st=[(0,(slc 10 Za b)),(1,(slc 10 Za c)),(2,(i64 d)),(3,(i64 a)),(9,(.own 0 (List.length a7))),(10,(slc 10 Za o)),(11,(slc 1 Zd f)),(12,(i64 g))]∧H=[bf 10 57 Za a7 false]) ?_ ?_
          ·clear hF
           refine AWP.kp [0,1,2,3,9,10,11,12,13,15] 1 ?_
           refine AWP.bround (fun n st H=>∃ v,∃ u,Zea a j n v u=some a7∧st=[(0,(slc 10 Za b)),(1,(slc 10 Za c)),(2,(i64 d)),(3,(i64 a)),(9,(.own 0 (List.length v))),(10,(slc 10 Za o)),(11,(slc 1 Zd f)),(12,(i64 g)),(13,(u64 j)),(15,(i64 u))]∧H=[bf 10 57 Za v false]) fuel ⟨m,(ZI ((List.length m:Int) - (List.length k:Int))),f8,by kernel_rfl,by kernel_rfl⟩ ?_
           rintro b2 st H ⟨v,u,hF,rfl,rfl⟩
           cases b2 with
           | zero=>exact noneb hF
           | succ b2=>
            rw [Zea] at hF
            refine AWP.seq (AWP.seq (AWP.rg0 [(2,.len Za v)] [(0,(slc 10 Za b)),(1,(slc 10 Za c)),(2,(i64 d)),(3,(i64 a)),(9,(.own 0 (List.length v))),(10,(slc 10 Za o)),(11,(slc 1 Zd f)),(12,(i64 g)),(13,(u64 j)),(15,(i64 u)),(103,(vb (decide (u<(List.length v:Int)))))] ?_))
            refine AWP.cif hF (fun f9 hF=>?_) (fun f9 hF=>?_)
            ·refine AWP.skip (AWP.seq (AWP.block ?_))
             obtain⟨x,c0,hF⟩:=bindb hF
             obtain⟨c1,hF⟩:=chkb hF
             refine AWP.rg [(5,.idx Za c0),(6,.ixE Za v u c1),(7,.fdE Za v u),(8,.stEd Za c0 (fun c2=>(Arr5.set x c2 ({ (Arr5.get x c2) with Hi:=(IntKind.wrap .u32 j) }:Zb))) 0 2 1 c1)] [(0,(slc 10 Za b)),(1,(slc 10 Za c)),(2,(i64 d)),(3,(i64 a)),(9,(.own 0 (List.length v))),(10,(slc 10 Za o)),(11,(slc 1 Zd f)),(12,(i64 g)),(13,(u64 j)),(15,(i64 u))] [bf 10 57 Za (List.set v (Int.toNat u) (Arr5.set x a ({ (Arr5.get x a) with Hi:=(IntKind.wrap .u32 j) }:Zb))) false] ?_
             rw [show ([(0,(slc 10 Za b)),(1,(slc 10 Za c)),(2,(i64 d)),(3,(i64 a)),(9,(.own 0 (List.length v))),(10,(slc 10 Za o)),(11,(slc 1 Zd f)),(12,(i64 g)),(13,(u64 j)),(15,(i64 u))]:St)=[(0,(slc 10 Za b)),(1,(slc 10 Za c)),(2,(i64 d)),(3,(i64 a)),(9,(.own 0 (List.length (List.set v (Int.toNat u) (Arr5.set x a ({ (Arr5.get x a) with Hi:=(IntKind.wrap .u32 j) }:Zb)))))),(10,(slc 10 Za o)),(11,(slc 1 Zd f)),(12,(i64 g)),(13,(u64 j)),(15,(i64 u))] by simp only [List.length_set]]
             refine AWP.rg0 [] [(0,(slc 10 Za b)),(1,(slc 10 Za c)),(2,(i64 d)),(3,(i64 a)),(9,(.own 0 (List.length (List.set v (Int.toNat u) (Arr5.set x a ({ (Arr5.get x a) with Hi:=(IntKind.wrap .u32 j) }:Zb)))))),(10,(slc 10 Za o)),(11,(slc 1 Zd f)),(12,(i64 g)),(13,(u64 j)),(15,(i64 (ZI (u + (1:Int)))))] (LeQ.start (LeQ.pk [0,1,2,3,9,10,11,12,13,15] 1 ?_))
             exact⟨b2,Nat.lt_succ_self _,(List.set v (Int.toNat u) (Arr5.set x a ({ (Arr5.get x a) with Hi:=(IntKind.wrap .u32 j) }:Zb))),(ZI (u + (1:Int))),hF,by kernel_rfl,by kernel_rfl⟩
            ·refine AWP.exit (LeQ.start (LeQ.pk [0,1,2,3,9,10,11,12] 1 ?_))
             have hr:=someb hF
             subst hr
             exact⟨rfl,by kernel_rfl,by kernel_rfl⟩
          ·rintro _ _ _ ⟨rfl,rfl,rfl⟩
           refine AWP.exit (LeQ.start (LeQ.pk [0,1,2,3,9,10,11,12] 1 ?_))
           exact⟨rfl,a7,o,(someb hF).symm,by kernel_rfl,by kernel_rfl⟩
         ·refine AWP.skip (AWP.seq (AWP.rg0 [] [(0,(slc 10 Za b)),(1,(slc 10 Za c)),(2,(i64 d)),(3,(i64 a)),(9,(.own 0 (List.length m))),(10,(slc 10 Za k)),(11,(slc 1 Zd f)),(12,(i64 g)),(13,(u64 j)),(14,(slc 10 Za k))] (AWP.seq (AWP.rg0 [] [(0,(slc 10 Za b)),(1,(slc 10 Za c)),(2,(i64 d)),(3,(i64 a)),(9,(.own 0 (List.length m))),(10,(slc 10 Za k)),(11,(slc 1 Zd f)),(12,(i64 g)),(13,(u64 j)),(14,(slc 10 Za k)),(16,(i64 (0:Int)))] ?_))))
          obtain⟨a8,g0,hF⟩:=bindb hF
          refine AWP.mid (fun e st H=>e=.normal∧st=[(0,(slc 10 Za b)),(1,(slc 10 Za c)),(2,(i64 d)),(3,(i64 a)),(9,(.own 0 (List.length a8))),(10,(slc 10 Za k)),(11,(slc 1 Zd f)),(12,(i64 g))]∧H=[bf 10 57 Za a8 false]) ?_ ?_
          ·clear hF
           refine AWP.kp [0,1,2,3,9,10,11,12,13,14,16] 1 ?_
           refine AWP.bround (fun n st H=>∃ w,∃ y,Zdg a f g j k n w y=some a8∧st=[(0,(slc 10 Za b)),(1,(slc 10 Za c)),(2,(i64 d)),(3,(i64 a)),(9,(.own 0 (List.length w))),(10,(slc 10 Za k)),(11,(slc 1 Zd f)),(12,(i64 g)),(13,(u64 j)),(14,(slc 10 Za k)),(16,(i64 y))]∧H=[bf 10 57 Za w false]) fuel ⟨m,(0:Int),g0,by kernel_rfl,by kernel_rfl⟩ ?_
           rintro b3 st H ⟨w,y,hF,rfl,rfl⟩
           cases b3 with
           | zero=>exact noneb hF
           | succ b3=>
            rw [Zdg] at hF
            refine AWP.seq (AWP.seq (AWP.rg0 [(2,.len Za k)] [(0,(slc 10 Za b)),(1,(slc 10 Za c)),(2,(i64 d)),(3,(i64 a)),(9,(.own 0 (List.length w))),(10,(slc 10 Za k)),(11,(slc 1 Zd f)),(12,(i64 g)),(13,(u64 j)),(14,(slc 10 Za k)),(16,(i64 y)),(118,(vb (decide (y<(List.length k:Int)))))] ?_))
            refine AWP.cif hF (fun g1 hF=>?_) (fun g1 hF=>?_)
            ·refine AWP.skip (AWP.seq (AWP.block (AWP.seq ?_)))
             obtain⟨z,g2,hF⟩:=bindb hF
             refine AWP.rg [(2,.idx Za g2)] [(0,(slc 10 Za b)),(1,(slc 10 Za c)),(2,(i64 d)),(3,(i64 a)),(9,(.own 0 (List.length w))),(10,(slc 10 Za k)),(11,(slc 1 Zd f)),(12,(i64 g)),(13,(u64 j)),(14,(slc 10 Za k)),(16,(i64 y)),(17,(.ptr 1 0))] [bf 10 57 Za w false,.cells (Za z)] (AWP.seq ?_)
             obtain⟨a0,g3,hF⟩:=bindb hF
             obtain⟨c3,hF⟩:=chkb hF
             refine AWP.rg [(3,.idx Zd g3),(9,.ixd c3),(10,.stA (fun g4=>Za (Arr5.set z g4 (Zb.mk (IntKind.wrap .u32 a0) (IntKind.wrap .u32 j)))) 0 2 0 c3)] [(0,(slc 10 Za b)),(1,(slc 10 Za c)),(2,(i64 d)),(3,(i64 a)),(9,(.own 0 (List.length w))),(10,(slc 10 Za k)),(11,(slc 1 Zd f)),(12,(i64 g)),(13,(u64 j)),(14,(slc 10 Za k)),(16,(i64 y)),(17,(.ptr 1 0))] [bf 10 57 Za w false,.cells (Za (Arr5.set z a (Zb.mk (IntKind.wrap .u32 a0) (IntKind.wrap .u32 j))))] ?_
             obtain⟨g5,hF⟩:=chkb hF
             refine AWP.rg [(3,.app Za (fun _=>by kernel_rfl) g5)] [(0,(slc 10 Za b)),(1,(slc 10 Za c)),(2,(i64 d)),(3,(i64 a)),(9,(.own 0 (List.length (w++[(Arr5.set z a (Zb.mk (IntKind.wrap .u32 a0) (IntKind.wrap .u32 j)))])))),(10,(slc 10 Za k)),(11,(slc 1 Zd f)),(12,(i64 g)),(13,(u64 j)),(14,(slc 10 Za k)),(16,(i64 y))] [bf 10 57 Za (w++[(Arr5.set z a (Zb.mk (IntKind.wrap .u32 a0) (IntKind.wrap .u32 j)))]) false,.cells (Za (Arr5.set z a (Zb.mk (IntKind.wrap .u32 a0) (IntKind.wrap .u32 j))))] (AWP.rg0 [] [(0,(slc 10 Za b)),(1,(slc 10 Za c)),(2,(i64 d)),(3,(i64 a)),(9,(.own 0 (List.length (w++[(Arr5.set z a (Zb.mk (IntKind.wrap .u32 a0) (IntKind.wrap .u32 j)))])))),(10,(slc 10 Za k)),(11,(slc 1 Zd f)),(12,(i64 g)),(13,(u64 j)),(14,(slc 10 Za k)),(16,(i64 (ZI (y + (1:Int)))))] (LeQ.start (LeQ.pk [0,1,2,3,9,10,11,12,13,14,16] 1 ?_)))
             exact⟨b3,Nat.lt_succ_self _,(w++[(Arr5.set z a (Zb.mk (IntKind.wrap .u32 a0) (IntKind.wrap .u32 j)))]),(ZI (y + (1:Int))),hF,by kernel_rfl,by kernel_rfl⟩
            ·refine AWP.exit (LeQ.start (LeQ.pk [0,1,2,3,9,10,11,12] 1 ?_))
             have hr:=someb hF
             subst hr
             exact⟨rfl,by kernel_rfl,by kernel_rfl⟩
          ·rintro _ _ _ ⟨rfl,rfl,rfl⟩
           refine LeQ.start (LeQ.pk [0,1,2,3,9,10,11,12] 1 ?_)
           exact⟨rfl,a8,k,(someb hF).symm,by kernel_rfl,by kernel_rfl⟩
       ·rintro _ _ _ ⟨rfl,a1,a3,rfl,rfl,rfl⟩
        refine AWP.rg0 [] [(0,(slc 10 Za b)),(1,(slc 10 Za c)),(2,(i64 d)),(3,(i64 a)),(9,(.own 0 (List.length a1))),(10,(slc 10 Za a3)),(11,(slc 1 Zd f)),(12,(i64 (ZI (g + (1:Int)))))] (LeQ.start (LeQ.pk [0,1,2,3,9,10,11,12] 1 ?_))
        exact⟨a9,Nat.lt_succ_self _,a1,a3,(ZI (g + (1:Int))),hF,by kernel_rfl,by kernel_rfl⟩
      ·refine AWP.exit (LeQ.start (LeQ.pk [9] 1 ?_))
       have hr:=someb hF
       subst hr
       exact⟨rfl,by kernel_rfl,by kernel_rfl⟩
    ·rintro _ _ _ ⟨rfl,rfl,rfl⟩
     refine AWP.seq (AWP.rg0 [] [(8,(.own 0 (List.length a2)))] (AWP.ret ?_))
     have hr:=someb hF
     subst hr
     exact(FnQ.f1 0 (.inr rfl) (.inl (Wk.ownT (i:=0) (s:=10) (t:=57) (l:=a2) (sh:=false) (row:=Za) (by kernel_rfl) (.inl rfl))))
theorem Zki (a:ZL) (b:ZL) (c:Int) (d:Int) (r:ZL) (hF:Zbr fuel a b c d=some r):ACall Tryz.prog glob 60 [(slc 10 Za a),(slc 10 Za b),(i64 c),(i64 d)] [] (Zmy r):=Zrf fuel a b c d r hF
def Zrg (r:(ZL × Int)):PV→List Blk→Prop:=fun p K=>p=(.tup [(slc 10 Za r.1),(i64 r.2)])∧K=[]
theorem Zjj (a:ZL) (r:(ZL × Int)) (hF:Zem a=some r):ACall Tryz.prog glob 97 [(slc 10 Za a)] [] (Zrg r):=by
 refine ACall.body Tryz.func97 rfl (by kernel_rfl) ?_
 unfold Zem at hF
 refine AWP.seq (AWP.rg0 [] [(0,(slc 10 Za a))] (AWP.seq (AWP.seq (AWP.rg0 [(1,.len Za a)] [(0,(slc 10 Za a)),(6,(vb (decide ((List.length a:Int) > (4096:Int)))))] ?_))))
 refine AWP.cif hF (fun b hF=>?_) (fun b hF=>?_)
 ·refine AWP.seq (AWP.rg0 [] [(2,nils),(3,(i64 (3:Int)))] (AWP.ret ?_))
  have hr:=someb hF
  subst hr
  exact(FnQ.f1 0 (.inr rfl) (.inr ⟨_,_,rfl,rfl,(.cons _ _ _ _ (.nil 10) (.cons _ _ _ _ (.refl _) .nil))⟩))
 ·refine AWP.skip (AWP.seq (AWP.rg0 [] [(2,(slc 10 Za a)),(3,(i64 (0:Int)))] (AWP.ret ?_)))
  have hr:=someb hF
  subst hr
  exact(FnQ.f0 0 (.inr rfl))
def Zn2 (r:(ZL × Int)):PV→List Blk→Prop:=fun p K=>p=(.tup [(slc 10 Za r.1),(i64 r.2)])∧K=[]
abbrev Zn3 (r:(ZL × Int)):Exit→St→List Blk→Prop:=FnQ Tryz.prog Tryz.f48.results 0 (Zn2 r)
theorem Zn4 (a:ZL) (r:(ZL × Int)) (hF:Zhb a=some r):ACall Tryz.prog glob 48 [(slc 10 Za a)] [] (Zn2 r):=by
 refine ACall.body Tryz.func48 rfl (by kernel_rfl) ?_
 unfold Zhb at hF
 refine AWP.seq (AWP.rg0 [] [(0,(slc 10 Za a))] (AWP.seq (AWP.rg0 [] [(0,(slc 10 Za a)),(4,nils)] (AWP.seq (AWP.seq (AWP.rg0 [] [(0,(slc 10 Za a)),(4,nils),(5,(i64 (0:Int)))] ?_))))))
 obtain⟨i,o,hF⟩:=bindb hF
 refine AWP.mid (fun e st H=>(e=.normal∧∃ g,i=(.inl g)∧st=[(4,(slc 10 Za g))]∧H=[])∨(e=.ret∧∃ r,i=(.inr r)∧Zn3 r e st H)) ?_ ?_
 ·clear hF
  refine AWP.wk (p:=nils) (q:=(slc 10 Za ([]:ZL))) (st':=[(4,(slc 10 Za ([]:ZL))),(0,(slc 10 Za a)),(5,(i64 (0:Int)))]) 4 (by kernel_rfl) (.nil 10) (by kernel_rfl) ?_
  refine AWP.kp [0,4,5] 0 ?_
  refine AWP.bround (fun n st H=>∃ d,∃ b,Zen a n d b=some i∧st=[(0,(slc 10 Za a)),(4,(slc 10 Za d)),(5,(i64 b))]∧H=[]) fuel ⟨([]:ZL),(0:Int),o,by kernel_rfl,by kernel_rfl⟩ ?_
  rintro j st H ⟨d,b,hF,rfl,rfl⟩
  cases j with
  | zero=>exact noneb hF
  | succ j=>
   rw [Zen] at hF
   refine AWP.seq (AWP.seq (AWP.rg0 [(2,.len Za a)] [(0,(slc 10 Za a)),(4,(slc 10 Za d)),(5,(i64 b)),(11,(vb (decide (b<(List.length a:Int)))))] ?_))
   refine AWP.cif hF (fun s hF=>?_) (fun s hF=>?_)
   ·refine AWP.skip ?_
    obtain⟨k,t,hF⟩:=bindb hF
    refine AWP.seq ?_
    refine AWP.mid (fun e st H=>(e=.normal∧∃ f,k=(.inl f)∧st=[(0,(slc 10 Za a)),(4,(slc 10 Za f)),(5,(i64 b))]∧H=[])∨(e=.ret∧∃ r,k=(.inr r)∧Zn3 r e st H)) ?_ ?_
    ·clear hF
     have hF:=t
     refine AWP.block (AWP.seq (AWP.seq ?_))
     obtain⟨u,v,hF⟩:=bindb hF
     obtain⟨l,w,hF⟩:=bindb hF
     refine AWP.rg0 [(2,.idx Za v),(4,.call Tryz.func96 [] (Zgs u l w))] [(0,(slc 10 Za a)),(4,(slc 10 Za d)),(5,(i64 b)),(19,(vb (!l)))] ?_
     refine AWP.cif hF (fun x hF=>?_) (fun x hF=>?_)
     ·refine AWP.exit (LeQ.start (LeQ.pk [0,4,5] 0 ?_))
      exact(.inl ⟨rfl,d,(someb hF).symm,by kernel_rfl,by kernel_rfl⟩)
     ·refine AWP.skip (AWP.seq ?_)
      obtain⟨y,hF⟩:=chkb hF
      obtain⟨m,z,hF⟩:=bindb hF
      obtain⟨c,a0,hF⟩:=bindb hF
      refine AWP.rg0 [(5,.slice Za a y),(6,.call Tryz.func60 [] (Zki d (List.drop (Int.toNat b) (List.take (Int.toNat (ZI (b + (1:Int)))) a)) (0:Int) (0:Int) m z)),(7,.call Tryz.func97 [] (Zjj m c a0))] [(0,(slc 10 Za a)),(5,(i64 b)),(6,(slc 10 Za c.1)),(7,(i64 c.2))] (AWP.seq (AWP.seq (AWP.rg0 [] [(0,(slc 10 Za a)),(5,(i64 b)),(6,(slc 10 Za c.1)),(7,(i64 c.2)),(32,(vb (c.2 != (0:Int))))] ?_)))
      refine AWP.cif hF (fun a1 hF=>?_) (fun a1 hF=>?_)
      ·refine AWP.seq (AWP.rg0 [] [(2,nils),(3,(i64 c.2))] (AWP.ret ?_))
       exact LeQ.of (.inr ⟨rfl,(([]:ZL),c.2),(someb hF).symm,(FnQ.f1 0 (.inr rfl) (.inr ⟨_,_,rfl,rfl,(.cons _ _ _ _ (.nil 10) (.cons _ _ _ _ (.refl _) .nil))⟩))⟩)
      ·refine AWP.skip (AWP.rg0 [] [(0,(slc 10 Za a)),(4,(slc 10 Za c.1)),(5,(i64 b))] (LeQ.start (LeQ.pk [0,4,5] 0 ?_)))
       exact(.inl ⟨rfl,c.1,(someb hF).symm,by kernel_rfl,by kernel_rfl⟩)
    ·rintro _ _ _ (⟨rfl,f,rfl,rfl,rfl⟩ | ⟨rfl,a2,rfl,hq⟩)
     ·refine AWP.rg0 [] [(0,(slc 10 Za a)),(4,(slc 10 Za f)),(5,(i64 (ZI (b + (1:Int)))))] (LeQ.start (LeQ.pk [0,4,5] 0 ?_))
      exact⟨j,Nat.lt_succ_self _,f,(ZI (b + (1:Int))),hF,by kernel_rfl,by kernel_rfl⟩
     ·exact LeQ.of (.inr ⟨rfl,a2,(someb hF).symm,hq⟩)
   ·refine AWP.exit (LeQ.start (LeQ.pk [4] 0 ?_))
    exact(.inl ⟨rfl,d,(someb hF).symm,by kernel_rfl,by kernel_rfl⟩)
 ·rintro _ _ _ (⟨rfl,g,rfl,rfl,rfl⟩ | ⟨rfl,a3,rfl,hq⟩)
  ·refine AWP.seq (AWP.rg0 [] [(2,(slc 10 Za g)),(3,(i64 (0:Int)))] (AWP.ret ?_))
   have hr:=someb hF
   subst hr
   exact(FnQ.f0 0 (.inr rfl))
  ·have hr:=someb hF
   subst hr
   exact hq
def Zrh (r:(ZL × Zf)):PV→List Blk→Prop:=fun p K=>p=(slc 10 Za r.1)∧K=[.cells (Zi r.2)]
theorem Zlt (b:Zf) (a:Int) (r:(ZL × Zf)) (hF:Zg0 b a=some r):ACall Tryz.prog glob 15 [(.ptr 0 0),(i64 a)] [.cells (Zi b)] (Zrh r):=by
 refine ACall.body Tryz.func15 rfl (by kernel_rfl) ?_
 unfold Zg0 at hF
 refine AWP.seq (AWP.rg0 [] [(0,(.ptr 0 0)),(1,(i64 a))] (AWP.seq ?_))
 obtain⟨c,f,hF⟩:=bindb hF
 obtain⟨d,g,hF⟩:=bindb hF
 refine AWP.rg [(2,.call Tryz.func20 [] (Zk2 b a false c f)),(3,.call Tryz.func48 [] (Zn4 c.1 d g))] [(5,(slc 10 Za d.1))] [.cells (Zi c.2)] (AWP.seq (AWP.rg0 [] [(4,(slc 10 Za d.1))] (AWP.ret ?_)))
 have hr:=someb hF
 subst hr
 exact(FnQ.f0 1 (.inr rfl))
def Zor (r:(Zs × Zf)):PV→List Blk→Prop:=fun p K=>p=(Zcj r.1)∧K=[.cells (Zi r.2)]
theorem Zil (a:Zf) (r:(Zs × Zf)) (hF:Zei a=some r):ACall Tryz.prog glob 13 [(.ptr 0 0)] [.cells (Zi a)] (Zor r):=by
 refine ACall.body Tryz.func13 rfl (by kernel_rfl) ?_
 unfold Zei at hF
 refine AWP.seq (AWP.rg [] [(0,(.ptr 0 0)),(2,(.ptr 1 0))] [.cells (Zi a),.cells (Zn Zxj)] (AWP.seq ?_))
 obtain⟨b,i,hF⟩:=bindb hF
 obtain⟨c,j,hF⟩:=bindb hF
 obtain⟨g,k,hF⟩:=bindb hF
 obtain⟨l,m,hF⟩:=bindb hF
 obtain⟨d,n,hF⟩:=bindb hF
 obtain⟨f,o,hF⟩:=bindb hF
 refine AWP.dr [(1,.call Tryz.func45 [] (Zgh a b i)),(3,.call Tryz.func45 [] (Zgh b.2 c j)),(6,.call Tryz.func32 [] (Z3 c.2 (6:Int) g k)),(7,.idx Z0j m),(10,.call Tryz.func46 [] (Zg6 g.2 (65535:Int) d n)),(13,.call Tryz.func46 [] (Zg6 d.2 (65535:Int) f o))] 16 [] [1,3,6,10,13] [] [(2,(.ptr 1 0))] [.cells (Zi f.2),.cells (Zn (Zs.mk b.1 c.1 l (IntKind.wrap .u16 d.1) (IntKind.wrap .u16 f.1)))] (AWP.ret ?_)
 have hr:=someb hF
 subst hr
 exact(FnQ.f0 1 (.inr rfl))
def Zr0 (r:Bool):PV→List Blk→Prop:=fun p K=>p=(vb r)∧K=[]
abbrev Zys (r:Bool):Exit→St→List Blk→Prop:=FnQ Tryz.prog Tryz.f98.results 0 (Zr0 r)
theorem Zin (a:ZB) (r:Bool) (hF:Zg8 a=some r):ACall Tryz.prog glob 98 [(Zag a)] [] (Zr0 r):=by
 refine ACall.body Tryz.func98 rfl (by kernel_rfl) ?_
 unfold Zg8 at hF
 refine AWP.seq (AWP.rg [] [(1,(.ptr 0 0))] [.cells (Za a)] (AWP.seq (AWP.seq (AWP.rg0 [] [(5,(Zag a)),(6,(i64 (0:Int)))] ?_))))
 obtain⟨f,k,hF⟩:=bindb hF
 refine AWP.mid (fun e st H=>(e=.normal∧f=(.inl ())∧st=[]∧H=[.cells (Za a)])∨(e=.ret∧∃ r,f=(.inr r)∧Zys r e st H)) ?_ ?_
 ·clear hF
  refine AWP.kp [5,6] 1 ?_
  refine AWP.bround (fun n st H=>∃ b,Zat a n b=some f∧st=[(5,(Zag a)),(6,(i64 b))]∧H=[.cells (Za a)]) fuel ⟨(0:Int),k,by kernel_rfl,by kernel_rfl⟩ ?_
  rintro g st H ⟨b,hF,rfl,rfl⟩
  cases g with
  | zero=>exact noneb hF
  | succ g=>
   rw [Zat] at hF
   refine AWP.seq (AWP.rg0 [] [(5,(Zag a)),(6,(i64 b)),(7,(vb (decide (b<(5:Int)))))] (AWP.seq ?_))
   refine AWP.cif hF (fun l hF=>?_) (fun l hF=>?_)
   ·refine AWP.skip (AWP.seq (AWP.block (AWP.seq ?_)))
    obtain⟨m,hF⟩:=chkb hF
    refine AWP.rg [(1,.ixA Zk (Arr5.get a) m)] [(3,(i64 b)),(4,(.ptr 1 0)),(5,(Zag a)),(6,(i64 b))] [.cells (Za a),.cells (Zk (Arr5.get a b))] (AWP.seq ?_)
    obtain⟨o,d,hF⟩:=bindb hF
    replace d:=someb d
    obtain⟨p,i,hF⟩:=bindb hF
    refine AWP.to [(5,(Zag a)),(6,(i64 b)),(22,(vb p))] [.cells (Za a),.cells (Zk (Arr5.get a b))] ?_ ?_
    ·cases o with
     | false=>
      have c:=ifF i rfl
      obtain⟨j,c⟩:=chkb c
      replace c:=someb c
      subst c
      exact AWP.drT [(5,.bool d),(9,.ixd j),(10,.ldA Zeh (Arr5.get Za7) 0 1 0 j)] 13 [] [] []
     | true=>
      have q:=someb (ifT i rfl)
      subst q
      exact AWP.drT [(5,.bool d)] 13 [] [] []
    refine AWP.cif hF (fun s hF=>?_) (fun s hF=>?_)
    ·refine AWP.seq (AWP.rg0 [] [(2,(vb false))] (AWP.ret ?_))
     exact LeQ.of (.inr ⟨rfl,false,(someb hF).symm,(FnQ.f0 0 (.inr rfl))⟩)
    ·refine AWP.skip (AWP.rg0 [] [(5,(Zag a)),(6,(i64 (ZI (b + (1:Int)))))] (LeQ.start (LeQ.pk [5,6] 1 ?_)))
     exact⟨g,Nat.lt_succ_self _,(ZI (b + (1:Int))),hF,by kernel_rfl,by kernel_rfl⟩
   ·refine AWP.exit (LeQ.start (LeQ.pk [] 1 ?_))
    exact(.inl ⟨rfl,(someb hF).symm,by kernel_rfl,by kernel_rfl⟩)
 ·rintro _ _ _ (⟨rfl,rfl,rfl,rfl⟩ | ⟨rfl,t,rfl,hq⟩)
  ·refine AWP.seq (AWP.rg0 [] [(2,(vb true))] (AWP.ret ?_))
   have hr:=someb hF
   subst hr
   exact(FnQ.f0 0 (.inr rfl))
  ·have hr:=someb hF
   subst hr
   exact hq
def Z0t (r:Int):PV→List Blk→Prop:=fun p K=>p=(u32 r)∧K=[]
theorem Zqh (a:Int) (r:Int) (hF:Zi2 a=some r):ACall Tryz.prog glob 119 [(i64 a)] [] (Z0t r):=by
 refine ACall.body Tryz.func119 rfl (by kernel_rfl) ?_
 unfold Zi2 at hF
 refine AWP.seq (AWP.rg0 [] [(0,(i64 a))] (AWP.seq (AWP.seq ?_)))
 obtain⟨c,b,hF⟩:=bindb hF
 replace b:=someb b
 refine AWP.to [(0,(i64 a)),(8,(vb (c || (decide (a ≥ (5:Int))))))] [] ?_ ?_
 ·cases c with
  | false=>
   exact AWP.rgT [(2,.bool b)]
  | true=>
   exact AWP.rgT [(2,.bool b)]
 refine AWP.cif hF (fun f hF=>?_) (fun f hF=>?_)
 ·refine AWP.seq (AWP.rg0 [] [(2,(u32 (0:Int)))] (AWP.ret ?_))
  have hr:=someb hF
  subst hr
  exact(FnQ.f0 0 (.inr rfl))
 ·refine AWP.skip (AWP.seq ?_)
  obtain⟨d,hF⟩:=chkb hF
  refine AWP.rg0 [(1,.ixd d),(2,.ldA Zeh (Arr5.get Za7) 0 1 0 d)] [(2,(u32 (Arr5.get Za7 a)))] (AWP.ret ?_)
  have hr:=someb hF
  subst hr
  exact(FnQ.f0 0 (.inr rfl))
def Zpk (r:Bool):PV→List Blk→Prop:=fun p K=>p=(vb r)∧K=[]
theorem Zdd (a:Zh) (r:Bool) (hF:Zb5 a=some r):ACall Tryz.prog glob 70 [(Zg7 a)] [] (Zpk r):=by
 refine ACall.body Tryz.func70 rfl (by kernel_rfl) ?_
 unfold Zb5 at hF
 refine AWP.seq (AWP.rg [] [(1,(.ptr 0 0))] [.cells (Zc a)] (AWP.seq ?_))
 obtain⟨f,g,hF⟩:=bindb hF
 obtain⟨j,b,hF⟩:=bindb hF
 replace b:=someb b
 obtain⟨k,c,hF⟩:=bindb hF
 replace c:=someb c
 obtain⟨l,i,hF⟩:=bindb hF
 refine AWP.to [(2,(vb l))] [.cells (Zc a)] ?_ ?_
 ·cases j with
  | false=>
   subst c
   have m:=someb (ifF i rfl)
   subst m
   exact AWP.drT [(2,.call Tryz.func98 [] (Zin a.Match f g)),(3,.bool b)] 19 [] [] []
  | true=>
   cases k with
   | false=>
    have n:=someb (ifF i rfl)
    subst n
    exact AWP.drT [(2,.call Tryz.func98 [] (Zin a.Match f g)),(3,.bool b),(12,.bool c)] 19 [] [] []
   | true=>
    have d:=ifT i rfl
    obtain⟨o,p,d⟩:=bindb d
    replace d:=someb d
    subst d
    exact AWP.drT [(2,.call Tryz.func98 [] (Zin a.Match f g)),(3,.bool b),(12,.bool c),(16,.call Tryz.func119 [] (Zqh (3:Int) o p))] 19 [] [] []
 refine AWP.ret ?_
 have hr:=someb hF
 subst hr
 exact(FnQ.f0 0 (.inr rfl))
def Zri (r:ZL):PV→List Blk→Prop:=fun p K=>p=(slc 10 Za r)∧K=[]
theorem Zrj (a:(List Zh)) (r:ZL) (hF:Zg3 a=some r):ACall Tryz.prog glob 69 [(slc 13 Zc a)] [] (Zri r):=by
 refine ACall.body Tryz.func69 rfl (by kernel_rfl) ?_
 unfold Zg3 at hF
 refine AWP.seq (AWP.rg0 [] [(0,(slc 13 Zc a))] (AWP.seq (AWP.rg0 [] [(0,(slc 13 Zc a)),(3,nils)] ?_)))
 refine AWP.own (H':=[bf 10 57 Za ([]:ZL) false]) (st':=[(3,(.own 0 (List.length ([]:ZL)))),(0,(slc 13 Zc a))]) 3 10 57 (by kernel_rfl) (by kernel_rfl) (by kernel_rfl) ?_
 refine AWP.pick (st':=[(0,(slc 13 Zc a)),(3,(.own 0 (List.length ([]:ZL))))]) (ks:=[0,3]) (by kernel_rfl) ?_
 refine AWP.seq (AWP.seq (AWP.rg0 [(1,.len Zc a)] [(3,(.own 0 (List.length ([]:ZL)))),(6,(slc 13 Zc a)),(7,(i64 (List.length a:Int))),(8,(i64 (0:Int)))] ?_))
 obtain⟨d,o,hF⟩:=bindb hF
 refine AWP.mid (fun e st H=>e=.normal∧st=[(3,(.own 0 (List.length d)))]∧H=[bf 10 57 Za d false]) ?_ ?_
 ·clear hF
  refine AWP.kp [3,6,7,8] 1 ?_
  refine AWP.bround (fun n st H=>∃ b,∃ c,Zdo a n b c=some d∧st=[(3,(.own 0 (List.length b))),(6,(slc 13 Zc a)),(7,(i64 (List.length a:Int))),(8,(i64 c))]∧H=[bf 10 57 Za b false]) fuel ⟨([]:ZL),(0:Int),o,by kernel_rfl,by kernel_rfl⟩ ?_
  rintro j st H ⟨b,c,hF,rfl,rfl⟩
  cases j with
  | zero=>exact noneb hF
  | succ j=>
   rw [Zdo] at hF
   refine AWP.seq (AWP.rg0 [] [(3,(.own 0 (List.length b))),(6,(slc 13 Zc a)),(7,(i64 (List.length a:Int))),(8,(i64 c)),(9,(vb (decide (c<(List.length a:Int)))))] (AWP.seq ?_))
   refine AWP.cif hF (fun p hF=>?_) (fun p hF=>?_)
   ·refine AWP.skip ?_
    obtain⟨f,q,hF⟩:=bindb hF
    refine AWP.seq ?_
    refine AWP.mid (fun e st H=>e=.normal∧st=[(3,(.own 0 (List.length f))),(6,(slc 13 Zc a)),(7,(i64 (List.length a:Int))),(8,(i64 c))]∧H=[bf 10 57 Za f false]) ?_ ?_
    ·clear hF
     have hF:=q
     refine AWP.block (AWP.seq ?_)
     obtain⟨k,u,hF⟩:=bindb hF
     refine AWP.rg [(0,.idx Zc u)] [(3,(.own 0 (List.length b))),(5,(.ptr 1 0)),(6,(slc 13 Zc a)),(7,(i64 (List.length a:Int))),(8,(i64 c))] [bf 10 57 Za b false,.cells (Zc k)] ?_
     obtain⟨g,v,hF⟩:=bindb hF
     refine AWP.seq ?_
     refine AWP.mid (fun e st H=>e=.normal∧st=[(3,(.own 0 (List.length b))),(5,(.ptr 1 0)),(6,(slc 13 Zc a)),(7,(i64 (List.length a:Int))),(8,(i64 c))]∧H=[bf 10 57 Za b false,.cells (Zc g)]) ?_ ?_
     ·clear hF
      have hF:=v
      refine AWP.seq ?_
      obtain⟨m,w,hF⟩:=bindb hF
      refine AWP.rg0 [(1,.call Tryz.func70 [] (Zdd k m w))] [(3,(.own 0 (List.length b))),(5,(.ptr 1 0)),(6,(slc 13 Zc a)),(7,(i64 (List.length a:Int))),(8,(i64 c)),(14,(vb (!m)))] ?_
      refine AWP.cif hF (fun x hF=>?_) (fun x hF=>?_)
      ·refine AWP.rg [] [(3,(.own 0 (List.length b))),(5,(.ptr 1 0)),(6,(slc 13 Zc a)),(7,(i64 (List.length a:Int))),(8,(i64 c))] [bf 10 57 Za b false,.cells (Zc ({ k with Match:=(Arr5.mk (Zb.mk (1:Int) (0:Int)) Zq Zq Zq Zq) }:Zh))] (LeQ.start (LeQ.pk [3,5,6,7,8] 2 ?_))
       have hr:=someb hF
       subst hr
       exact⟨rfl,by kernel_rfl,by kernel_rfl⟩
      ·refine AWP.skip (LeQ.start (LeQ.pk [3,5,6,7,8] 2 ?_))
       have hr:=someb hF
       subst hr
       exact⟨rfl,by kernel_rfl,by kernel_rfl⟩
     ·rintro _ _ _ ⟨rfl,rfl,rfl⟩
      obtain⟨y,hF⟩:=chkb hF
      refine AWP.rg [(4,.app Za (fun _=>by kernel_rfl) y)] [(3,(.own 0 (List.length (b++[g.Match])))),(6,(slc 13 Zc a)),(7,(i64 (List.length a:Int))),(8,(i64 c))] [bf 10 57 Za (b++[g.Match]) false,.cells (Zc g)] (LeQ.start (LeQ.pk [3,6,7,8] 1 ?_))
      have hr:=someb hF
      subst hr
      exact⟨rfl,by kernel_rfl,by kernel_rfl⟩
    ·rintro _ _ _ ⟨rfl,rfl,rfl⟩
     refine AWP.rg0 [] [(3,(.own 0 (List.length f))),(6,(slc 13 Zc a)),(7,(i64 (List.length a:Int))),(8,(i64 (ZI (c + (1:Int)))))] (LeQ.start (LeQ.pk [3,6,7,8] 1 ?_))
     exact⟨j,Nat.lt_succ_self _,f,(ZI (c + (1:Int))),hF,by kernel_rfl,by kernel_rfl⟩
   ·refine AWP.exit (LeQ.start (LeQ.pk [3] 1 ?_))
    have hr:=someb hF
    subst hr
    exact⟨rfl,by kernel_rfl,by kernel_rfl⟩
 ·rintro _ _ _ ⟨rfl,rfl,rfl⟩
  refine AWP.seq (AWP.rg0 [] [(2,(.own 0 (List.length d)))] (AWP.ret ?_))
  have hr:=someb hF
  subst hr
  exact(FnQ.f1 0 (.inr rfl) (.inl (Wk.ownT (i:=0) (s:=10) (t:=57) (l:=d) (sh:=false) (row:=Za) (by kernel_rfl) (.inl rfl))))
def Zpl (r:Bool):PV→List Blk→Prop:=fun p K=>p=(vb r)∧K=[]
theorem Zhj (a:ZB) (r:Bool) (hF:Zda a=some r):ACall Tryz.prog glob 144 [(Zag a)] [] (Zpl r):=by
 refine ACall.body Tryz.func144 rfl (by kernel_rfl) ?_
 unfold Zda at hF
 refine AWP.seq (AWP.rg [] [(1,(.ptr 0 0))] [.cells (Za a)] (AWP.seq ?_))
 obtain⟨b,c,hF⟩:=bindb hF
 refine AWP.rg0 [(1,.call Tryz.func98 [] (Zin a b c))] [(2,(vb (!b)))] (AWP.ret ?_)
 have hr:=someb hF
 subst hr
 exact(FnQ.f0 0 (.inr rfl))
def Zet (a:ZL) (b:List Value) (r:Int):PV→List Blk→Prop:=fun p K=>p=(i64 r)∧K=[.cells (cel Za a b)]
abbrev Zhv (a:ZL) (b:List Value) (r:Int):Exit→St→List Blk→Prop:=FnQ Tryz.prog Tryz.f150.results 1 (Zet a b r)
theorem Zhw (a:Nat) (c:ZL) (d:List Value) (r:Int) (hF:Zbs a c=some r):ACall Tryz.prog glob 150 [(.vw 0 0 a),(.sc (.func (.func 144) #[] #[]))] [.cells (cel Za c d)] (Zet c d r):=by
 refine ACall.body Tryz.func150 rfl (by kernel_rfl) ?_
 unfold Zbs at hF
 refine AWP.seq (AWP.rg0 [] [(0,(.vw 0 0 a)),(1,(.sc (.func (.func 144) #[] #[])))] (AWP.seq (AWP.seq (AWP.rg0 [(1,.lenV a)] [(0,(.vw 0 0 a)),(1,(.sc (.func (.func 144) #[] #[]))),(7,(i64 (a:Int))),(8,(i64 (0:Int)))] ?_))))
 obtain⟨f,k,hF⟩:=bindb hF
 refine AWP.mid (fun e st H=>(e=.normal∧f=(.inl ())∧st=[]∧H=[.cells (cel Za c d)])∨(e=.ret∧∃ r,f=(.inr r)∧Zhv c d r e st H)) ?_ ?_
 ·clear hF
  refine AWP.kp [0,1,7,8] 1 ?_
  refine AWP.bround (fun n st H=>∃ b,Z9 a c n b=some f∧st=[(0,(.vw 0 0 a)),(1,(.sc (.func (.func 144) #[] #[]))),(7,(i64 (a:Int))),(8,(i64 b))]∧H=[.cells (cel Za c d)]) fuel ⟨(0:Int),k,by kernel_rfl,by kernel_rfl⟩ ?_
  rintro g st H ⟨b,hF,rfl,rfl⟩
  cases g with
  | zero=>exact noneb hF
  | succ g=>
   rw [Z9] at hF
   refine AWP.seq (AWP.rg0 [] [(0,(.vw 0 0 a)),(1,(.sc (.func (.func 144) #[] #[]))),(7,(i64 (a:Int))),(8,(i64 b)),(9,(vb (decide (b<(a:Int)))))] (AWP.seq ?_))
   refine AWP.cif hF (fun l hF=>?_) (fun l hF=>?_)
   ·refine AWP.skip (AWP.seq (AWP.block (AWP.seq (AWP.rg0 [] [(0,(.vw 0 0 a)),(1,(.sc (.func (.func 144) #[] #[]))),(5,(i64 b)),(7,(i64 (a:Int))),(8,(i64 b))] (AWP.seq ?_)))))
    obtain⟨m,i,hF⟩:=bindb hF
    obtain⟨j,o,hF⟩:=bindb hF
    refine AWP.rg0 [(3,.idxV (Zt i)),(4,.ldV Za (s:=10) (fun _=>rfl) d (Zp i) (0 + Int.toNat b * 10) (Nat.zero_add _) []),(5,.call Tryz.func144 [] (Zhj m j o))] [(0,(.vw 0 0 a)),(1,(.sc (.func (.func 144) #[] #[]))),(5,(i64 b)),(7,(i64 (a:Int))),(8,(i64 b)),(16,(vb j))] ?_
    refine AWP.cif hF (fun p hF=>?_) (fun p hF=>?_)
    ·refine AWP.seq (AWP.rg0 [] [(4,(i64 b))] (AWP.ret ?_))
     exact LeQ.of (.inr ⟨rfl,b,(someb hF).symm,(FnQ.f0 1 (.inr rfl))⟩)
    ·refine AWP.skip (AWP.rg0 [] [(0,(.vw 0 0 a)),(1,(.sc (.func (.func 144) #[] #[]))),(7,(i64 (a:Int))),(8,(i64 (ZI (b + (1:Int)))))] (LeQ.start (LeQ.pk [0,1,7,8] 1 ?_)))
     exact⟨g,Nat.lt_succ_self _,(ZI (b + (1:Int))),hF,by kernel_rfl,by kernel_rfl⟩
   ·refine AWP.exit (LeQ.start (LeQ.pk [] 1 ?_))
    exact(.inl ⟨rfl,(someb hF).symm,by kernel_rfl,by kernel_rfl⟩)
 ·rintro _ _ _ (⟨rfl,rfl,rfl,rfl⟩ | ⟨rfl,q,rfl,hq⟩)
  ·refine AWP.seq (AWP.rg0 [] [(4,(i64 (-1:Int)))] (AWP.ret ?_))
   have hr:=someb hF
   subst hr
   exact(FnQ.f0 1 (.inr rfl))
  ·have hr:=someb hF
   subst hr
   exact hq
def Zhq (a:List Value) (r:(Nat × ZL)):PV→List Blk→Prop:=fun p K=>p=(.vw 0 0 r.1)∧K=[.cells (cel Za r.2 a)]
theorem Zhr (a:Nat) (k:ZL) (b:List Value) (r:(Nat × ZL)) (hF:Zax a k=some r):ACall Tryz.prog glob 142 [(.vw 0 0 a),(.sc (.func (.func 144) #[] #[]))] [.cells (cel Za k b)] (Zhq b r):=by
 refine ACall.body Tryz.func142 rfl (by kernel_rfl) ?_
 unfold Zax at hF
 refine AWP.seq (AWP.rg0 [] [(0,(.vw 0 0 a)),(1,(.sc (.func (.func 144) #[] #[])))] (AWP.seq ?_))
 obtain⟨i,x,hF⟩:=bindb hF
 refine AWP.rg0 [(2,.callC Tryz.func150 [] (closedH.c (Zz (row:=Za) (fun _=>rfl) k b) closedH.n) (closedH.c (Zz (row:=Za) (fun _=>rfl) k b) closedH.n) (Zhw a k b i x))] [(0,(.vw 0 0 a)),(1,(.sc (.func (.func 144) #[] #[]))),(5,(i64 i))] (AWP.seq (AWP.seq (AWP.rg0 [] [(0,(.vw 0 0 a)),(1,(.sc (.func (.func 144) #[] #[]))),(5,(i64 i)),(12,(vb (i == (-1:Int))))] ?_)))
 refine AWP.cif hF (fun y hF=>?_) (fun y hF=>?_)
 ·refine AWP.seq (AWP.rg0 [] [(4,(.vw 0 0 a))] (AWP.ret ?_))
  have hr:=someb hF
  subst hr
  exact(FnQ.f0 1 (.inr rfl))
 ·refine AWP.skip (AWP.seq (AWP.seq (AWP.rg0 [] [(0,(.vw 0 0 a)),(1,(.sc (.func (.func 144) #[] #[]))),(5,(i64 i)),(6,(i64 (ZI (i + (1:Int)))))] ?_)))
  obtain⟨t,z,hF⟩:=bindb hF
  refine AWP.mid (fun e st H=>(e=.normal∧∃ l,∃ g,t=(l,g)∧st=[(0,(.vw 0 0 a)),(5,(i64 g))]∧H=[.cells (cel Za l b)])) ?_ ?_
  ·clear hF
   refine AWP.kp [0,1,5,6] 1 ?_
   refine AWP.bround (fun n st H=>∃ j,∃ d,∃ f,Z8 a n j d f=some t∧st=[(0,(.vw 0 0 a)),(1,(.sc (.func (.func 144) #[] #[]))),(5,(i64 d)),(6,(i64 f))]∧H=[.cells (cel Za j b)]) fuel ⟨k,i,(ZI (i + (1:Int))),z,by kernel_rfl,by kernel_rfl⟩ ?_
   rintro q st H ⟨j,d,f,hF,rfl,rfl⟩
   cases q with
   | zero=>exact noneb hF
   | succ q=>
    rw [Z8] at hF
    refine AWP.seq (AWP.seq (AWP.rg0 [(2,.lenV a)] [(0,(.vw 0 0 a)),(1,(.sc (.func (.func 144) #[] #[]))),(5,(i64 d)),(6,(i64 f)),(19,(vb (decide (f<(a:Int)))))] ?_))
    refine AWP.cif hF (fun a0 hF=>?_) (fun a0 hF=>?_)
    ·refine AWP.skip ?_
     obtain⟨a1,a2,hF⟩:=bindb hF
     refine AWP.seq ?_
     refine AWP.mid (fun e st H=>(e=.normal∧∃ p,∃ o,a1=(p,o)∧st=[(0,(.vw 0 0 a)),(1,(.sc (.func (.func 144) #[] #[]))),(5,(i64 o)),(6,(i64 f))]∧H=[.cells (cel Za p b)])) ?_ ?_
     ·clear hF
      have hF:=a2
      refine AWP.block (AWP.seq ?_)
      obtain⟨m,u,hF⟩:=bindb hF
      refine AWP.rg [(2,.idxV (Zt u)),(3,.ldV Za (s:=10) (fun _=>rfl) b (Zp u) (0 + Int.toNat f * 10) (Nat.zero_add _) [])] [(0,(.vw 0 0 a)),(1,(.sc (.func (.func 144) #[] #[]))),(5,(i64 d)),(6,(i64 f)),(7,(.ptr 1 0))] [.cells (cel Za j b),.cells (Za m)] (AWP.seq ?_)
      obtain⟨v,a3,hF⟩:=bindb hF
      refine AWP.rg0 [(2,.call Tryz.func144 [] (Zhj m v a3))] [(0,(.vw 0 0 a)),(1,(.sc (.func (.func 144) #[] #[]))),(5,(i64 d)),(6,(i64 f)),(7,(.ptr 1 0)),(29,(vb (!v)))] ?_
      refine AWP.cif hF (fun a4 hF=>?_) (fun a4 hF=>?_)
      ·refine AWP.seq ?_
       obtain⟨a8,w,hF⟩:=bindb hF
       refine AWP.rg [(3,.idxV (Zt w)),(4,.stV Za (s:=10) (fun _=>rfl) b (Zp w) m (0 + Int.toNat d * 10) (Nat.zero_add _) [])] [(0,(.vw 0 0 a)),(1,(.sc (.func (.func 144) #[] #[]))),(5,(i64 d)),(6,(i64 f))] [.cells (cel Za (List.set j (Int.toNat d) m) b),.cells (Za m)] (AWP.rg0 [] [(0,(.vw 0 0 a)),(1,(.sc (.func (.func 144) #[] #[]))),(5,(i64 (ZI (d + (1:Int))))),(6,(i64 f))] (LeQ.start (LeQ.pk [0,1,5,6] 1 ?_)))
       exact⟨rfl,(List.set j (Int.toNat d) m),(ZI (d + (1:Int))),(someb hF).symm,by kernel_rfl,by kernel_rfl⟩
      ·refine AWP.skip (LeQ.start (LeQ.pk [0,1,5,6] 1 ?_))
       exact⟨rfl,j,d,(someb hF).symm,by kernel_rfl,by kernel_rfl⟩
     ·rintro _ _ _ ⟨rfl,p,o,rfl,rfl,rfl⟩
      refine AWP.rg0 [] [(0,(.vw 0 0 a)),(1,(.sc (.func (.func 144) #[] #[]))),(5,(i64 o)),(6,(i64 (ZI (f + (1:Int)))))] (LeQ.start (LeQ.pk [0,1,5,6] 1 ?_))
      exact⟨q,Nat.lt_succ_self _,p,o,(ZI (f + (1:Int))),hF,by kernel_rfl,by kernel_rfl⟩
    ·refine AWP.exit (LeQ.start (LeQ.pk [0,5] 1 ?_))
     exact⟨rfl,j,d,(someb hF).symm,by kernel_rfl,by kernel_rfl⟩
  ·rintro _ _ _ ⟨rfl,l,g,rfl,rfl,rfl⟩
   refine AWP.seq ?_
   obtain⟨a5,hF⟩:=chkb hF
   obtain⟨a6,hF⟩:=chkb hF
   refine AWP.rg [(2,.sliceV a5),(3,.clrV Za (s:=10) (fun _=>rfl) (fun _=>rfl) b l Zm (lo:=Int.toNat g) (n:=(Int.toNat (a:Int) - Int.toNat g)) a6 (0 + Int.toNat g * 10) (Nat.zero_add _))] [(0,(.vw 0 0 a)),(5,(i64 g))] [.cells (cel Za (List.take (Int.toNat g) l++List.replicate (Int.toNat (a:Int) - Int.toNat g) Zm++List.drop (Int.toNat g + (Int.toNat (a:Int) - Int.toNat g)) l) b)] (AWP.seq ?_)
   obtain⟨a7,hF⟩:=chkb hF
   refine AWP.rg0 [(2,.sliceV a7)] [(4,(.vw 0 0 (Int.toNat g)))] (AWP.ret ?_)
   have hr:=someb hF
   subst hr
   exact(FnQ.f0 1 (.inr rfl))
def Zeg (r:Int):PV→List Blk→Prop:=fun p K=>p=(i64 r)∧K=[]
abbrev Zhk (r:Int):Exit→St→List Blk→Prop:=FnQ Tryz.prog Tryz.f150.results 0 (Zeg r)
theorem Zhl (a:ZL) (r:Int) (hF:Zcq a=some r):ACall Tryz.prog glob 150 [(slc 10 Za a),(.sc (.func (.func 144) #[] #[]))] [] (Zeg r):=by
 refine ACall.body Tryz.func150 rfl (by kernel_rfl) ?_
 unfold Zcq at hF
 refine AWP.seq (AWP.rg0 [] [(0,(slc 10 Za a)),(1,(.sc (.func (.func 144) #[] #[])))] (AWP.seq (AWP.seq (AWP.rg0 [(1,.len Za a)] [(0,(slc 10 Za a)),(1,(.sc (.func (.func 144) #[] #[]))),(7,(i64 (List.length a:Int))),(8,(i64 (0:Int)))] ?_))))
 obtain⟨c,g,hF⟩:=bindb hF
 refine AWP.mid (fun e st H=>(e=.normal∧c=(.inl ())∧st=[]∧H=[])∨(e=.ret∧∃ r,c=(.inr r)∧Zhk r e st H)) ?_ ?_
 ·clear hF
  refine AWP.kp [0,1,7,8] 0 ?_
  refine AWP.bround (fun n st H=>∃ b,Zbc a n b=some c∧st=[(0,(slc 10 Za a)),(1,(.sc (.func (.func 144) #[] #[]))),(7,(i64 (List.length a:Int))),(8,(i64 b))]∧H=[]) fuel ⟨(0:Int),g,by kernel_rfl,by kernel_rfl⟩ ?_
  rintro d st H ⟨b,hF,rfl,rfl⟩
  cases d with
  | zero=>exact noneb hF
  | succ d=>
   rw [Zbc] at hF
   refine AWP.seq (AWP.rg0 [] [(0,(slc 10 Za a)),(1,(.sc (.func (.func 144) #[] #[]))),(7,(i64 (List.length a:Int))),(8,(i64 b)),(9,(vb (decide (b<(List.length a:Int)))))] (AWP.seq ?_))
   refine AWP.cif hF (fun i hF=>?_) (fun i hF=>?_)
   ·refine AWP.skip (AWP.seq (AWP.block (AWP.seq (AWP.rg0 [] [(0,(slc 10 Za a)),(1,(.sc (.func (.func 144) #[] #[]))),(5,(i64 b)),(7,(i64 (List.length a:Int))),(8,(i64 b))] (AWP.seq ?_)))))
    obtain⟨j,k,hF⟩:=bindb hF
    obtain⟨f,l,hF⟩:=bindb hF
    refine AWP.rg0 [(3,.idx Za k),(5,.call Tryz.func144 [] (Zhj j f l))] [(0,(slc 10 Za a)),(1,(.sc (.func (.func 144) #[] #[]))),(5,(i64 b)),(7,(i64 (List.length a:Int))),(8,(i64 b)),(16,(vb f))] ?_
    refine AWP.cif hF (fun m hF=>?_) (fun m hF=>?_)
    ·refine AWP.seq (AWP.rg0 [] [(4,(i64 b))] (AWP.ret ?_))
     exact LeQ.of (.inr ⟨rfl,b,(someb hF).symm,(FnQ.f0 0 (.inr rfl))⟩)
    ·refine AWP.skip (AWP.rg0 [] [(0,(slc 10 Za a)),(1,(.sc (.func (.func 144) #[] #[]))),(7,(i64 (List.length a:Int))),(8,(i64 (ZI (b + (1:Int)))))] (LeQ.start (LeQ.pk [0,1,7,8] 0 ?_)))
     exact⟨d,Nat.lt_succ_self _,(ZI (b + (1:Int))),hF,by kernel_rfl,by kernel_rfl⟩
   ·refine AWP.exit (LeQ.start (LeQ.pk [] 0 ?_))
    exact(.inl ⟨rfl,(someb hF).symm,by kernel_rfl,by kernel_rfl⟩)
 ·rintro _ _ _ (⟨rfl,rfl,rfl,rfl⟩ | ⟨rfl,o,rfl,hq⟩)
  ·refine AWP.seq (AWP.rg0 [] [(4,(i64 (-1:Int)))] (AWP.ret ?_))
   have hr:=someb hF
   subst hr
   exact(FnQ.f0 0 (.inr rfl))
  ·have hr:=someb hF
   subst hr
   exact hq
def Zgw (r:ZL):PV→List Blk→Prop:=fun p K=>p=(slc 10 Za r)∧K=[]
theorem Zgx (r:ZL) (hF:Zb7=some r):ACall Tryz.prog glob 142 [(slc 10 Za ([]:ZL)),(.sc (.func (.func 144) #[] #[]))] [] (Zgw r):=by
 refine ACall.body Tryz.func142 rfl (by kernel_rfl) ?_
 unfold Zb7 at hF
 refine AWP.seq (AWP.rg0 [] [(0,(slc 10 Za ([]:ZL))),(1,(.sc (.func (.func 144) #[] #[])))] (AWP.seq ?_))
 obtain⟨c,j,hF⟩:=bindb hF
 refine AWP.rg0 [(2,.call Tryz.func150 [] (Zhl ([]:ZL) c j))] [(0,(slc 10 Za ([]:ZL))),(1,(.sc (.func (.func 144) #[] #[]))),(5,(i64 c))] (AWP.seq (AWP.seq (AWP.rg0 [] [(0,(slc 10 Za ([]:ZL))),(1,(.sc (.func (.func 144) #[] #[]))),(5,(i64 c)),(12,(vb (c == (-1:Int))))] ?_)))
 refine AWP.cif hF (fun k hF=>?_) (fun k hF=>?_)
 ·refine AWP.seq (AWP.rg0 [] [(4,(slc 10 Za ([]:ZL)))] (AWP.ret ?_))
  have hr:=someb hF
  subst hr
  exact(FnQ.f0 0 (.inr rfl))
 ·refine AWP.skip (AWP.seq (AWP.seq (AWP.rg0 [] [(0,(slc 10 Za ([]:ZL))),(1,(.sc (.func (.func 144) #[] #[]))),(5,(i64 c)),(6,(i64 (ZI (c + (1:Int)))))] ?_)))
  obtain⟨f,l,hF⟩:=bindb hF
  refine AWP.mid (fun e st H=>e=.normal∧st=[(0,(slc 10 Za ([]:ZL))),(5,(i64 f))]∧H=[]) ?_ ?_
  ·clear hF
   refine AWP.kp [0,1,5,6] 0 ?_
   refine AWP.bround (fun n st H=>∃ b,∃ a,Zay n b a=some f∧st=[(0,(slc 10 Za ([]:ZL))),(1,(.sc (.func (.func 144) #[] #[]))),(5,(i64 b)),(6,(i64 a))]∧H=[]) fuel ⟨c,(ZI (c + (1:Int))),l,by kernel_rfl,by kernel_rfl⟩ ?_
   rintro d st H ⟨b,a,hF,rfl,rfl⟩
   cases d with
   | zero=>exact noneb hF
   | succ d=>
    rw [Zay] at hF
    refine AWP.seq (AWP.seq (AWP.rg0 [(2,.len Za ([]:ZL))] [(0,(slc 10 Za ([]:ZL))),(1,(.sc (.func (.func 144) #[] #[]))),(5,(i64 b)),(6,(i64 a)),(19,(vb (decide (a<(List.length ([]:ZL):Int)))))] ?_))
    refine AWP.cif hF (fun m hF=>?_) (fun m hF=>?_)
    ·refine AWP.skip ?_
     obtain⟨o,p,hF⟩:=bindb hF
     refine AWP.seq ?_
     refine AWP.mid (fun e st H=>(e=.normal∧o=()∧st=[(0,(slc 10 Za ([]:ZL))),(1,(.sc (.func (.func 144) #[] #[]))),(5,(i64 b)),(6,(i64 a))]∧H=[])) ?_ ?_
     ·clear hF
      have hF:=p
      refine AWP.block (AWP.seq ?_)
      obtain⟨g,q,hF⟩:=bindb hF
      refine AWP.rg [(2,.idx Za q)] [(0,(slc 10 Za ([]:ZL))),(1,(.sc (.func (.func 144) #[] #[]))),(5,(i64 b)),(6,(i64 a)),(7,(.ptr 0 0))] [.cells (Za g)] (AWP.seq ?_)
      obtain⟨i,s,hF⟩:=bindb hF
      refine AWP.rg0 [(2,.call Tryz.func144 [] (Zhj g i s))] [(0,(slc 10 Za ([]:ZL))),(1,(.sc (.func (.func 144) #[] #[]))),(5,(i64 b)),(6,(i64 a)),(7,(.ptr 0 0)),(29,(vb (!i)))] ?_
      refine AWP.cif hF (fun t hF=>?_) (fun t hF=>?_)
      ·refine AWP.seq ?_
       exact noneb hF
      ·refine AWP.skip (LeQ.start (LeQ.pk [0,1,5,6] 0 ?_))
       exact⟨rfl,(someb hF).symm,by kernel_rfl,by kernel_rfl⟩
     ·rintro _ _ _ ⟨rfl,rfl,rfl,rfl⟩
      refine AWP.rg0 [] [(0,(slc 10 Za ([]:ZL))),(1,(.sc (.func (.func 144) #[] #[]))),(5,(i64 b)),(6,(i64 (ZI (a + (1:Int)))))] (LeQ.start (LeQ.pk [0,1,5,6] 0 ?_))
      exact⟨d,Nat.lt_succ_self _,b,(ZI (a + (1:Int))),hF,by kernel_rfl,by kernel_rfl⟩
    ·refine AWP.exit (LeQ.start (LeQ.pk [0,5] 0 ?_))
     have hr:=someb hF
     subst hr
     exact⟨rfl,by kernel_rfl,by kernel_rfl⟩
  ·rintro _ _ _ ⟨rfl,rfl,rfl⟩
   refine AWP.seq ?_
   exact noneb hF
def Zrk (r:ZL):PV→List Blk→Prop:=fun p K=>p=(slc 10 Za r)∧K=[]
theorem Zjk (a:ZL) (r:ZL) (hF:Zft a=some r):ACall Tryz.prog glob 129 [(slc 10 Za a)] [] (Zrk r):=by
 refine ACall.body Tryz.func129 rfl (by kernel_rfl) ?_
 unfold Zft at hF
 refine AWP.seq (AWP.rg0 [] [(0,(slc 10 Za a))] (AWP.seq ?_))
 obtain⟨c,hF⟩:=chkb hF
 obtain⟨b,d,hF⟩:=bindb hF
 refine AWP.rg [(1,.clone Tryz.func143 Za (fun _=>by kernel_rfl) c),(2,.callBE (s:=10) Za Tryz.func142 (fun _=>rfl) d (fun h sp_=>Zhr (List.length a) a sp_ _ h) (fun h=>Zgx _ h))] [(2,(slc 10 Za (List.take b.1 b.2)))] [bf 10 57 Za b.2 true] (AWP.ret ?_)
 have hr:=someb hF
 subst hr
 exact(FnQ.f0 0 (.inr rfl))
def Zrl (r:ZL):PV→List Blk→Prop:=fun p K=>p=(slc 10 Za r)∧K=[]
theorem Zrm (c:Int) (b:ZL) (r:ZL) (hF:Zg1 c b=some r):ACall Tryz.prog glob 145 [(i64 c),(slc 10 Za b)] [] (Zrl r):=by
 refine ACall.body Tryz.func145 rfl (by kernel_rfl) ?_
 unfold Zg1 at hF
 refine AWP.seq (AWP.rg0 [] [(0,(i64 c)),(1,(slc 10 Za b))] (AWP.seq ?_))
 obtain⟨v,hF⟩:=chkb hF
 refine AWP.rg [(1,.clone Tryz.func143 Za (fun _=>by kernel_rfl) v)] [(0,(i64 c)),(5,(.own 0 (List.length b)))] [bf 10 57 Za b false] (AWP.seq (AWP.seq (AWP.rg0 [(1,.len Za b)] [(0,(i64 c)),(5,(.own 0 (List.length b))),(11,(i64 (List.length b:Int))),(12,(i64 (0:Int)))] ?_)))
 obtain⟨j,w,hF⟩:=bindb hF
 refine AWP.mid (fun e st H=>e=.normal∧st=[(5,(.own 0 (List.length j)))]∧H=[bf 10 57 Za j false]) ?_ ?_
 ·clear hF
  refine AWP.kp [0,5,11,12] 1 ?_
  refine AWP.bround (fun n st H=>∃ g,∃ a,Zdn c b n g a=some j∧st=[(0,(i64 c)),(5,(.own 0 (List.length g))),(11,(i64 (List.length b:Int))),(12,(i64 a))]∧H=[bf 10 57 Za g false]) fuel ⟨b,(0:Int),w,by kernel_rfl,by kernel_rfl⟩ ?_
  rintro o st H ⟨g,a,hF,rfl,rfl⟩
  cases o with
  | zero=>exact noneb hF
  | succ o=>
   rw [Zdn] at hF
   refine AWP.seq (AWP.rg0 [] [(0,(i64 c)),(5,(.own 0 (List.length g))),(11,(i64 (List.length b:Int))),(12,(i64 a)),(13,(vb (decide (a<(List.length b:Int)))))] (AWP.seq ?_))
   refine AWP.cif hF (fun x hF=>?_) (fun x hF=>?_)
   ·refine AWP.skip (AWP.seq (AWP.block (AWP.seq (AWP.rg0 [] [(0,(i64 c)),(5,(.own 0 (List.length g))),(6,(i64 a)),(11,(i64 (List.length b:Int))),(12,(i64 a))] (AWP.seq (AWP.rg0 [] [(0,(i64 c)),(5,(.own 0 (List.length g))),(6,(i64 a)),(7,(i64 (0:Int))),(11,(i64 (List.length b:Int))),(12,(i64 a))] ?_))))))
    obtain⟨k,y,hF⟩:=bindb hF
    refine AWP.mid (fun e st H=>e=.normal∧st=[(0,(i64 c)),(5,(.own 0 (List.length k))),(11,(i64 (List.length b:Int))),(12,(i64 a))]∧H=[bf 10 57 Za k false]) ?_ ?_
    ·clear hF
     refine AWP.kp [0,5,6,7,11,12] 1 ?_
     refine AWP.bround (fun n st H=>∃ f,∃ d,Zby c a n f d=some k∧st=[(0,(i64 c)),(5,(.own 0 (List.length f))),(6,(i64 a)),(7,(i64 d)),(11,(i64 (List.length b:Int))),(12,(i64 a))]∧H=[bf 10 57 Za f false]) fuel ⟨g,(0:Int),y,by kernel_rfl,by kernel_rfl⟩ ?_
     rintro p st H ⟨f,d,hF,rfl,rfl⟩
     cases p with
     | zero=>exact noneb hF
     | succ p=>
      rw [Zby] at hF
      refine AWP.seq (AWP.seq (AWP.rg0 [] [(0,(i64 c)),(5,(.own 0 (List.length f))),(6,(i64 a)),(7,(i64 d)),(11,(i64 (List.length b:Int))),(12,(i64 a)),(17,(vb (decide (d≤c))))] ?_))
      refine AWP.cif hF (fun z hF=>?_) (fun z hF=>?_)
      ·refine AWP.skip (AWP.seq (AWP.block ?_))
       obtain⟨m,q,hF⟩:=bindb hF
       obtain⟨u,hF⟩:=chkb hF
       refine AWP.rg [(4,.idx Za q),(5,.ixE Za f a u),(6,.stEd Za q (fun a0=>(Arr5.set m a0 (Zb.mk (0:Int) (0:Int)))) 0 2 0 u)] [(0,(i64 c)),(5,(.own 0 (List.length f))),(6,(i64 a)),(7,(i64 d)),(11,(i64 (List.length b:Int))),(12,(i64 a))] [bf 10 57 Za (List.set f (Int.toNat a) (Arr5.set m d (Zb.mk (0:Int) (0:Int)))) false] ?_
       rw [show ([(0,(i64 c)),(5,(.own 0 (List.length f))),(6,(i64 a)),(7,(i64 d)),(11,(i64 (List.length b:Int))),(12,(i64 a))]:St)=[(0,(i64 c)),(5,(.own 0 (List.length (List.set f (Int.toNat a) (Arr5.set m d (Zb.mk (0:Int) (0:Int))))))),(6,(i64 a)),(7,(i64 d)),(11,(i64 (List.length b:Int))),(12,(i64 a))] by simp only [List.length_set]]
       refine AWP.rg0 [] [(0,(i64 c)),(5,(.own 0 (List.length (List.set f (Int.toNat a) (Arr5.set m d (Zb.mk (0:Int) (0:Int))))))),(6,(i64 a)),(7,(i64 (ZI (d + (1:Int))))),(11,(i64 (List.length b:Int))),(12,(i64 a))] (LeQ.start (LeQ.pk [0,5,6,7,11,12] 1 ?_))
       exact⟨p,Nat.lt_succ_self _,(List.set f (Int.toNat a) (Arr5.set m d (Zb.mk (0:Int) (0:Int)))),(ZI (d + (1:Int))),hF,by kernel_rfl,by kernel_rfl⟩
      ·refine AWP.exit (LeQ.start (LeQ.pk [0,5,11,12] 1 ?_))
       have hr:=someb hF
       subst hr
       exact⟨rfl,by kernel_rfl,by kernel_rfl⟩
    ·rintro _ _ _ ⟨rfl,rfl,rfl⟩
     refine AWP.rg0 [] [(0,(i64 c)),(5,(.own 0 (List.length k))),(11,(i64 (List.length b:Int))),(12,(i64 (ZI (a + (1:Int)))))] (LeQ.start (LeQ.pk [0,5,11,12] 1 ?_))
     exact⟨o,Nat.lt_succ_self _,k,(ZI (a + (1:Int))),hF,by kernel_rfl,by kernel_rfl⟩
   ·refine AWP.exit (LeQ.start (LeQ.pk [5] 1 ?_))
    have hr:=someb hF
    subst hr
    exact⟨rfl,by kernel_rfl,by kernel_rfl⟩
 ·rintro _ _ _ ⟨rfl,rfl,rfl⟩
  refine AWP.seq (AWP.rg0 [] [(4,(.own 0 (List.length j)))] (AWP.ret ?_))
  have hr:=someb hF
  subst hr
  exact(FnQ.f1 0 (.inr rfl) (.inl (Wk.ownT (i:=0) (s:=10) (t:=57) (l:=j) (sh:=false) (row:=Za) (by kernel_rfl) (.inl rfl))))
def Zhx (r:Bool):PV→List Blk→Prop:=fun p K=>p=(vb r)∧K=[]
abbrev Zkj (r:Bool):Exit→St→List Blk→Prop:=FnQ Tryz.prog Tryz.f146.results 0 (Zhx r)
theorem Zd5 (a:ZL) (b:ZL) (r:Bool) (hF:Zaq a b=some r):ACall Tryz.prog glob 146 [(slc 10 Za a),(slc 10 Za b)] [] (Zhx r):=by
 refine ACall.body Tryz.func146 rfl (by kernel_rfl) ?_
 unfold Zaq at hF
 refine AWP.seq (AWP.rg0 [] [(0,(slc 10 Za a)),(1,(slc 10 Za b))] (AWP.seq (AWP.seq (AWP.rg0 [(1,.len Za a),(3,.len Za b)] [(0,(slc 10 Za a)),(1,(slc 10 Za b)),(10,(vb ((List.length a:Int) != (List.length b:Int))))] ?_))))
 refine AWP.cif hF (fun g hF=>?_) (fun g hF=>?_)
 ·refine AWP.seq (AWP.rg0 [] [(4,(vb false))] (AWP.ret ?_))
  have hr:=someb hF
  subst hr
  exact(FnQ.f0 0 (.inr rfl))
 ·refine AWP.skip (AWP.seq (AWP.seq (AWP.rg0 [(1,.len Za a)] [(0,(slc 10 Za a)),(1,(slc 10 Za b)),(12,(i64 (List.length a:Int))),(13,(i64 (0:Int)))] ?_)))
  obtain⟨d,i,hF⟩:=bindb hF
  refine AWP.mid (fun e st H=>(e=.normal∧d=(.inl ())∧st=[]∧H=[])∨(e=.ret∧∃ r,d=(.inr r)∧Zkj r e st H)) ?_ ?_
  ·clear hF
   refine AWP.kp [0,1,12,13] 0 ?_
   refine AWP.bround (fun n st H=>∃ c,Za3 a b n c=some d∧st=[(0,(slc 10 Za a)),(1,(slc 10 Za b)),(12,(i64 (List.length a:Int))),(13,(i64 c))]∧H=[]) fuel ⟨(0:Int),i,by kernel_rfl,by kernel_rfl⟩ ?_
   rintro f st H ⟨c,hF,rfl,rfl⟩
   cases f with
   | zero=>exact noneb hF
   | succ f=>
    rw [Za3] at hF
    refine AWP.seq (AWP.rg0 [] [(0,(slc 10 Za a)),(1,(slc 10 Za b)),(12,(i64 (List.length a:Int))),(13,(i64 c)),(14,(vb (decide (c<(List.length a:Int)))))] (AWP.seq ?_))
    refine AWP.cif hF (fun j hF=>?_) (fun j hF=>?_)
    ·refine AWP.skip (AWP.seq (AWP.block (AWP.seq (AWP.rg0 [] [(0,(slc 10 Za a)),(1,(slc 10 Za b)),(5,(i64 c)),(12,(i64 (List.length a:Int))),(13,(i64 c))] (AWP.seq ?_)))))
     obtain⟨k,l,hF⟩:=bindb hF
     obtain⟨m,o,hF⟩:=bindb hF
     refine AWP.dr [(2,.idx Za l),(6,.idx Za o)] 9 [] [] [] [(0,(slc 10 Za a)),(1,(slc 10 Za b)),(12,(i64 (List.length a:Int))),(13,(i64 c)),(24,(vb (!(Zer k m))))] [] ?_
     refine AWP.cif hF (fun p hF=>?_) (fun p hF=>?_)
     ·refine AWP.seq (AWP.rg0 [] [(4,(vb false))] (AWP.ret ?_))
      exact LeQ.of (.inr ⟨rfl,false,(someb hF).symm,(FnQ.f0 0 (.inr rfl))⟩)
     ·refine AWP.skip (AWP.rg0 [] [(0,(slc 10 Za a)),(1,(slc 10 Za b)),(12,(i64 (List.length a:Int))),(13,(i64 (ZI (c + (1:Int)))))] (LeQ.start (LeQ.pk [0,1,12,13] 0 ?_)))
      exact⟨f,Nat.lt_succ_self _,(ZI (c + (1:Int))),hF,by kernel_rfl,by kernel_rfl⟩
    ·refine AWP.exit (LeQ.start (LeQ.pk [] 0 ?_))
     exact(.inl ⟨rfl,(someb hF).symm,by kernel_rfl,by kernel_rfl⟩)
  ·rintro _ _ _ (⟨rfl,rfl,rfl,rfl⟩ | ⟨rfl,q,rfl,hq⟩)
   ·refine AWP.seq (AWP.rg0 [] [(4,(vb true))] (AWP.ret ?_))
    have hr:=someb hF
    subst hr
    exact(FnQ.f0 0 (.inr rfl))
   ·have hr:=someb hF
    subst hr
    exact hq
def Zip (r:Bool):PV→List Blk→Prop:=fun p K=>p=(vb r)∧K=[]
abbrev Zk3 (r:Bool):Exit→St→List Blk→Prop:=FnQ Tryz.prog Tryz.f130.results 0 (Zip r)
theorem Zn5:∀(nr:Nat) (a:Int) (g:ZL) (r:Bool) (hF:Zbp nr a g=some r),ACall Tryz.prog glob 130 [(i64 a),(slc 10 Za g)] [] (Zip r):=by
 intro nr
 induction nr with
 | zero=>intro a g r hF; exact noneb (by rw [Zbp] at hF; exact hF)
 | succ nr ih=>
  intro a g r hF
  refine ACall.body Tryz.func130 rfl (by kernel_rfl) ?_
  rw [Zbp] at hF
  refine AWP.seq (AWP.rg0 [] [(0,(i64 a)),(1,(slc 10 Za g))] (AWP.seq (AWP.seq (AWP.rg0 [] [(0,(i64 a)),(1,(slc 10 Za g)),(9,(vb (a == (5:Int))))] ?_))))
  refine AWP.cif hF (fun a4 hF=>?_) (fun a4 hF=>?_)
  ·refine AWP.seq (AWP.rg0 [(1,.len Za g)] [(4,(vb (decide ((List.length g:Int)≤(1:Int)))))] (AWP.ret ?_))
   have hr:=someb hF
   subst hr
   exact(FnQ.f0 0 (.inr rfl))
  ·refine AWP.skip (AWP.seq (AWP.rg [] [(0,(i64 a)),(1,(slc 10 Za g)),(5,(.ptr 0 0))] [.cells (Ze Zgy)] (AWP.seq ?_)))
   obtain⟨s,a5,hF⟩:=bindb hF
   refine AWP.mid (fun e st H=>(e=.normal∧∃ t,s=(.inl t)∧st=[]∧H=[.cells (Ze t)])∨(e=.ret∧∃ r,s=(.inr r)∧Zk3 r e st H)) ?_ ?_
   ·clear hF
    refine AWP.kp [0,1,5] 1 ?_
    refine AWP.bround (fun n st H=>∃ c,∃ b,Zcd a (Zbp nr) n c b=some s∧st=[(0,(i64 a)),(1,(slc 10 Za b)),(5,(.ptr 0 0))]∧H=[.cells (Ze c)]) fuel ⟨Zgy,g,a5,by kernel_rfl,by kernel_rfl⟩ ?_
    rintro u st H ⟨c,b,hF,rfl,rfl⟩
    cases u with
    | zero=>exact noneb hF
    | succ u=>
     rw [Zcd] at hF
     refine AWP.seq (AWP.seq (AWP.rg0 [(1,.len Za b)] [(0,(i64 a)),(1,(slc 10 Za b)),(5,(.ptr 0 0)),(15,(vb (decide ((List.length b:Int) > (0:Int)))))] ?_))
     refine AWP.cif hF (fun a6 hF=>?_) (fun a6 hF=>?_)
     ·refine AWP.skip (AWP.block (AWP.seq (AWP.rg0 [] [(0,(i64 a)),(1,(slc 10 Za b)),(5,(.ptr 0 0)),(6,(i64 (1:Int)))] (AWP.seq ?_))))
      obtain⟨d,a7,hF⟩:=bindb hF
      refine AWP.mid (fun e st H=>e=.normal∧st=[(0,(i64 a)),(1,(slc 10 Za b)),(5,(.ptr 0 0)),(6,(i64 d))]∧H=[.cells (Ze c)]) ?_ ?_
      ·clear hF
       refine AWP.kp [0,1,5,6] 1 ?_
       refine AWP.bround (fun n st H=>∃ l,Zc4 a b n l=some d∧st=[(0,(i64 a)),(1,(slc 10 Za b)),(5,(.ptr 0 0)),(6,(i64 l))]∧H=[.cells (Ze c)]) fuel ⟨(1:Int),a7,by kernel_rfl,by kernel_rfl⟩ ?_
       rintro v st H ⟨l,hF,rfl,rfl⟩
       cases v with
       | zero=>exact noneb hF
       | succ v=>
        rw [Zc4] at hF
        refine AWP.seq (AWP.seq ?_)
        obtain⟨a8,p,hF⟩:=bindb hF
        replace p:=someb p
        obtain⟨a9,w,hF⟩:=bindb hF
        refine AWP.to [(0,(i64 a)),(1,(slc 10 Za b)),(5,(.ptr 0 0)),(6,(i64 l)),(33,(vb a9))] [.cells (Ze c)] ?_ ?_
        ·cases a8 with
         | false=>
          have b0:=someb (ifF w rfl)
          subst b0
          exact AWP.drT [(2,.len Za b),(4,.bool p)] 18 [] [] []
         | true=>
          have f:=ifT w rfl
          obtain⟨b1,b2,f⟩:=bindb f
          obtain⟨x,f⟩:=chkb f
          obtain⟨b3,b4,f⟩:=bindb f
          obtain⟨y,f⟩:=chkb f
          replace f:=someb f
          subst f
          exact AWP.drT [(2,.len Za b),(4,.bool p),(8,.idx Za b2),(9,.ixd x),(10,.ldA Zk (Arr5.get b1) 0 2 0 x),(13,.idx Za b4),(14,.ixd y),(15,.ldA Zk (Arr5.get b3) 0 2 0 y)] 18 [] [] []
        refine AWP.cif hF (fun b5 hF=>?_) (fun b5 hF=>?_)
        ·refine AWP.skip (AWP.block (AWP.rg0 [] [(0,(i64 a)),(1,(slc 10 Za b)),(5,(.ptr 0 0)),(6,(i64 (ZI (l + (1:Int)))))] (LeQ.start (LeQ.pk [0,1,5,6] 1 ?_))))
         exact⟨v,Nat.lt_succ_self _,(ZI (l + (1:Int))),hF,by kernel_rfl,by kernel_rfl⟩
        ·refine AWP.exit (LeQ.start (LeQ.pk [0,1,5,6] 1 ?_))
         have hr:=someb hF
         subst hr
         exact⟨rfl,by kernel_rfl,by kernel_rfl⟩
      ·rintro _ _ _ ⟨rfl,rfl,rfl⟩
       refine AWP.seq ?_
       obtain⟨j,b6,hF⟩:=bindb hF
       obtain⟨z,hF⟩:=chkb hF
       obtain⟨b7,hF⟩:=chkb hF
       obtain⟨i,b8,hF⟩:=bindb hF
       refine AWP.dr [(2,.idx Za b6),(3,.ixd z),(4,.ldA Zk (Arr5.get j) 0 2 0 z),(8,.slice Za b b7),(9,.call Tryz.func145 [] (Zrm a (List.drop (Int.toNat (0:Int)) (List.take (Int.toNat d) b)) i b8))] 12 [] [11] [] [(0,(i64 a)),(1,(slc 10 Za b)),(5,(.ptr 0 0)),(6,(i64 d)),(7,(.ptr 1 0))] [.cells (Ze c),.cells (Ze (Zg.mk (Arr5.get j a) i))] (AWP.seq (AWP.seq ?_))
       obtain⟨b9,hF⟩:=chkb hF
       obtain⟨a0,c0,hF⟩:=bindb hF
       refine AWP.rg0 [(4,.slice Za b b9),(5,.call Tryz.func130 [] (ih (ZI (a + (1:Int))) (List.drop (Int.toNat (0:Int)) (List.take (Int.toNat d) b)) a0 c0))] [(0,(i64 a)),(1,(slc 10 Za b)),(5,(.ptr 0 0)),(6,(i64 d)),(7,(.ptr 1 0)),(53,(vb (!a0)))] ?_
       refine AWP.cif hF (fun c1 hF=>?_) (fun c1 hF=>?_)
       ·refine AWP.seq (AWP.rg0 [] [(4,(vb false))] (AWP.ret ?_))
        exact LeQ.of (.inr ⟨rfl,false,(someb hF).symm,(FnQ.f0 0 (.inr rfl))⟩)
       ·refine AWP.skip ?_
        obtain⟨a1,c2,hF⟩:=bindb hF
        refine AWP.seq ?_
        refine AWP.mid (fun e st H=>(e=.normal∧a1=(.inl ())∧st=[(0,(i64 a)),(1,(slc 10 Za b)),(5,(.ptr 0 0)),(6,(i64 d)),(7,(.ptr 1 0))]∧H=[.cells (Ze c),.cells (Ze (Zg.mk (Arr5.get j a) i))])∨(e=.ret∧∃ r,a1=(.inr r)∧Zk3 r e st H)) ?_ ?_
        ·clear hF
         have hF:=c2
         refine AWP.seq (AWP.rg0 [(2,.len Za c.f_rest)] [(0,(i64 a)),(1,(slc 10 Za b)),(5,(.ptr 0 0)),(6,(i64 d)),(7,(.ptr 1 0)),(57,(vb (decide ((List.length c.f_rest:Int) > (0:Int)))))] ?_)
         refine AWP.cif hF (fun c3 hF=>?_) (fun c3 hF=>?_)
         ·refine AWP.seq ?_
          obtain⟨c4,m,hF⟩:=bindb hF
          replace m:=someb m
          obtain⟨c5,a2,hF⟩:=bindb hF
          refine AWP.to [(0,(i64 a)),(1,(slc 10 Za b)),(5,(.ptr 0 0)),(6,(i64 d)),(7,(.ptr 1 0)),(81,(vb c5))] [.cells (Ze c),.cells (Ze (Zg.mk (Arr5.get j a) i))] ?_ ?_
          ·cases c4 with
           | false=>
            have k:=ifF a2 rfl
            obtain⟨c6,q,k⟩:=bindb k
            replace q:=someb q
            obtain⟨d4,a3,k⟩:=bindb k
            replace k:=someb k
            subst k
            cases c6 with
            | false=>
             have c7:=someb (ifF a3 rfl)
             subst c7
             exact AWP.rgT [(7,.bool m),(16,.bool q)]
            | true=>
             have o:=ifT a3 rfl
             obtain⟨c8,c9,o⟩:=bindb o
             replace o:=someb o
             subst o
             exact AWP.rgT [(7,.bool m),(16,.bool q),(21,.call Tryz.func146 [] (Zd5 i c.f_rest c8 c9))]
           | true=>
            have d0:=someb (ifT a2 rfl)
            subst d0
            exact AWP.rgT [(7,.bool m)]
          refine AWP.cif hF (fun d1 hF=>?_) (fun d1 hF=>?_)
          ·refine AWP.seq (AWP.rg0 [] [(4,(vb false))] (AWP.ret ?_))
           exact LeQ.of (.inr ⟨rfl,false,(someb hF).symm,(FnQ.f0 0 (.inr rfl))⟩)
          ·refine AWP.skip (LeQ.start (LeQ.pk [0,1,5,6,7] 2 ?_))
           exact(.inl ⟨rfl,(someb hF).symm,by kernel_rfl,by kernel_rfl⟩)
         ·refine AWP.skip (LeQ.start (LeQ.pk [0,1,5,6,7] 2 ?_))
          exact(.inl ⟨rfl,(someb hF).symm,by kernel_rfl,by kernel_rfl⟩)
        ·rintro _ _ _ (⟨rfl,rfl,rfl,rfl⟩ | ⟨rfl,d2,rfl,hq⟩)
         ·obtain⟨d3,hF⟩:=chkb hF
          refine AWP.dr [(3,.slice Za b d3)] 5 [] [4] [] [(0,(i64 a)),(1,(slc 10 Za (List.drop (Int.toNat d) (List.take (Int.toNat (List.length b:Int)) b)))),(5,(.ptr 0 0))] [.cells (Ze (Zg.mk (Arr5.get j a) i)),.cells (Ze (Zg.mk (Arr5.get j a) i))] (LeQ.start (LeQ.pk [0,1,5] 1 ?_))
          exact⟨u,Nat.lt_succ_self _,(Zg.mk (Arr5.get j a) i),(List.drop (Int.toNat d) (List.take (Int.toNat (List.length b:Int)) b)),hF,by kernel_rfl,by kernel_rfl⟩
         ·exact LeQ.of (.inr ⟨rfl,d2,(someb hF).symm,hq⟩)
     ·refine AWP.exit (LeQ.start (LeQ.pk [] 1 ?_))
      exact(.inl ⟨rfl,c,(someb hF).symm,by kernel_rfl,by kernel_rfl⟩)
   ·rintro _ _ _ (⟨rfl,t,rfl,rfl,rfl⟩ | ⟨rfl,d5,rfl,hq⟩)
    ·refine AWP.seq (AWP.rg0 [] [(4,(vb true))] (AWP.ret ?_))
     have hr:=someb hF
     subst hr
     exact(FnQ.f0 0 (.inr rfl))
    ·have hr:=someb hF
     subst hr
     exact hq
theorem Zpm (a:Int) (b:ZL) (r:Bool) (hF:Zbp fuel a b=some r):ACall Tryz.prog glob 130 [(i64 a),(slc 10 Za b)] [] (Zip r):=Zn5 fuel a b r hF
def Zrn (r:Bool):PV→List Blk→Prop:=fun p K=>p=(vb r)∧K=[]
theorem Zlu (a:ZL) (r:Bool) (hF:Zeo a=some r):ACall Tryz.prog glob 99 [(slc 10 Za a)] [] (Zrn r):=by
 refine ACall.body Tryz.func99 rfl (by kernel_rfl) ?_
 unfold Zeo at hF
 refine AWP.seq (AWP.rg0 [] [(0,(slc 10 Za a))] (AWP.seq ?_))
 obtain⟨l,b,hF⟩:=bindb hF
 replace b:=someb b
 obtain⟨u,j,hF⟩:=bindb hF
 obtain⟨m,c,hF⟩:=bindb hF
 replace c:=someb c
 obtain⟨n,i,hF⟩:=bindb hF
 refine AWP.to [(2,(vb n))] [] ?_ ?_
 ·cases l with
  | false=>
   have o:=someb (ifF j rfl)
   subst o
   subst c
   have p:=someb (ifF i rfl)
   subst p
   exact AWP.rgT [(1,.len Za a),(3,.bool b)]
  | true=>
   have d:=ifT j rfl
   obtain⟨g,k,d⟩:=bindb d
   replace d:=someb d
   subst d
   cases m with
   | false=>
    have q:=someb (ifF i rfl)
    subst q
    exact AWP.rgT [(1,.len Za a),(3,.bool b),(5,.call Tryz.func129 [] (Zjk a g k)),(6,.len Za g),(8,.len Za a),(11,.bool c)]
   | true=>
    have f:=ifT i rfl
    obtain⟨s,t,f⟩:=bindb f
    replace f:=someb f
    subst f
    exact AWP.rgT [(1,.len Za a),(3,.bool b),(5,.call Tryz.func129 [] (Zjk a g k)),(6,.len Za g),(8,.len Za a),(11,.bool c),(13,.call Tryz.func130 [] (Zpm (0:Int) a s t))]
 refine AWP.ret ?_
 have hr:=someb hF
 subst hr
 exact(FnQ.f0 0 (.inr rfl))
def Zqi (r:Bool):PV→List Blk→Prop:=fun p K=>p=(vb r)∧K=[]
theorem Zli (c:Bool) (a:Bool) (r:Bool) (hF:Ze8 c a=some r):ACall Tryz.prog glob 132 [(vb c),(vb a)] [] (Zqi r):=by
 refine ACall.body Tryz.func132 rfl (by kernel_rfl) ?_
 unfold Ze8 at hF
 refine AWP.seq (AWP.rg0 [] [(0,(vb c)),(1,(vb a))] (AWP.seq ?_))
 obtain⟨d,b,hF⟩:=bindb hF
 replace b:=someb b
 refine AWP.to [(4,(vb (d || a)))] [] ?_ ?_
 ·cases d with
  | false=>
   exact AWP.rgT [(1,.bool b)]
  | true=>
   exact AWP.rgT [(1,.bool b)]
 refine AWP.ret ?_
 have hr:=someb hF
 subst hr
 exact(FnQ.f0 0 (.inr rfl))
def Zro (r:Int):PV→List Blk→Prop:=fun p K=>p=(i64 r)∧K=[]
theorem Zrp (a:Int) (r:Int) (hF:Zh8 a=some r):ACall Tryz.prog glob 170 [(u64 a)] [] (Zro r):=by
 refine ACall.body Tryz.func170 rfl (by kernel_rfl) ?_
 unfold Zh8 at hF
 refine AWP.seq (AWP.rg0 [] [(0,(u64 a)),(2,(i64 (0:Int)))] ?_)
 obtain⟨j,k,hF⟩:=bindb hF
 refine AWP.seq ?_
 refine AWP.mid (fun e st H=>(e=.normal∧∃ b,∃ d,j=(b,d)∧st=[(0,(u64 b)),(2,(i64 d))]∧H=[])) ?_ ?_
 ·clear hF
  have hF:=k
  refine AWP.seq (AWP.rg0 [] [(0,(u64 a)),(2,(i64 (0:Int))),(4,(vb (decide (a ≥ (4294967296:Int)))))] ?_)
  refine AWP.cif hF (fun l hF=>?_) (fun l hF=>?_)
  ·refine AWP.seq (AWP.rg0 [] [(0,(u64 (bShr .u64 a (32:Int))))] (AWP.rg0 [] [(0,(u64 (bShr .u64 a (32:Int)))),(2,(i64 (32:Int)))] (LeQ.start (LeQ.pk [0,2] 0 ?_))))
   exact⟨rfl,(bShr .u64 a (32:Int)),(32:Int),(someb hF).symm,by kernel_rfl,by kernel_rfl⟩
  ·refine AWP.skip (LeQ.start (LeQ.pk [0,2] 0 ?_))
   exact⟨rfl,a,(0:Int),(someb hF).symm,by kernel_rfl,by kernel_rfl⟩
 ·rintro _ _ _ ⟨rfl,b,d,rfl,rfl,rfl⟩
  obtain⟨m,n,hF⟩:=bindb hF
  refine AWP.seq ?_
  refine AWP.mid (fun e st H=>(e=.normal∧∃ c,∃ f,m=(c,f)∧st=[(0,(u64 c)),(2,(i64 f))]∧H=[])) ?_ ?_
  ·clear hF
   have hF:=n
   refine AWP.seq (AWP.rg0 [] [(0,(u64 b)),(2,(i64 d)),(8,(vb (decide (b ≥ (65536:Int)))))] ?_)
   refine AWP.cif hF (fun o hF=>?_) (fun o hF=>?_)
   ·refine AWP.seq (AWP.rg0 [] [(0,(u64 (bShr .u64 b (16:Int)))),(2,(i64 d))] (AWP.rg0 [] [(0,(u64 (bShr .u64 b (16:Int)))),(2,(i64 (ZI (d + (16:Int)))))] (LeQ.start (LeQ.pk [0,2] 0 ?_))))
    exact⟨rfl,(bShr .u64 b (16:Int)),(ZI (d + (16:Int))),(someb hF).symm,by kernel_rfl,by kernel_rfl⟩
   ·refine AWP.skip (LeQ.start (LeQ.pk [0,2] 0 ?_))
    exact⟨rfl,b,d,(someb hF).symm,by kernel_rfl,by kernel_rfl⟩
  ·rintro _ _ _ ⟨rfl,c,f,rfl,rfl,rfl⟩
   obtain⟨p,q,hF⟩:=bindb hF
   refine AWP.seq ?_
   refine AWP.mid (fun e st H=>(e=.normal∧∃ i,∃ g,p=(i,g)∧st=[(0,(u64 i)),(2,(i64 g))]∧H=[])) ?_ ?_
   ·clear hF
    have hF:=q
    refine AWP.seq (AWP.rg0 [] [(0,(u64 c)),(2,(i64 f)),(14,(vb (decide (c ≥ (256:Int)))))] ?_)
    refine AWP.cif hF (fun s hF=>?_) (fun s hF=>?_)
    ·refine AWP.seq (AWP.rg0 [] [(0,(u64 (bShr .u64 c (8:Int)))),(2,(i64 f))] (AWP.rg0 [] [(0,(u64 (bShr .u64 c (8:Int)))),(2,(i64 (ZI (f + (8:Int)))))] (LeQ.start (LeQ.pk [0,2] 0 ?_))))
     exact⟨rfl,(bShr .u64 c (8:Int)),(ZI (f + (8:Int))),(someb hF).symm,by kernel_rfl,by kernel_rfl⟩
    ·refine AWP.skip (LeQ.start (LeQ.pk [0,2] 0 ?_))
     exact⟨rfl,c,f,(someb hF).symm,by kernel_rfl,by kernel_rfl⟩
   ·rintro _ _ _ ⟨rfl,i,g,rfl,rfl,rfl⟩
    refine AWP.seq ?_
    obtain⟨t,u,hF⟩:=bindb hF
    refine AWP.rg0 [(3,.str u)] [(2,(i64 (ZI (g + (ZI t)))))] (AWP.ret ?_)
    have hr:=someb hF
    subst hr
    exact(FnQ.f0 0 (.inr rfl))
def Zt2 (r:Int):PV→List Blk→Prop:=fun p K=>p=(i64 r)∧K=[]
theorem Zmz (a:Int) (r:Int) (hF:Zgm a=some r):ACall Tryz.prog glob 158 [(u64 a)] [] (Zt2 r):=by
 refine ACall.body Tryz.func158 rfl (by kernel_rfl) ?_
 unfold Zgm at hF
 refine AWP.seq (AWP.rg0 [] [(0,(u64 a))] (AWP.seq ?_))
 refine AWP.cF ?_
 refine AWP.skip (AWP.seq ?_)
 obtain⟨b,c,hF⟩:=bindb hF
 refine AWP.rg0 [(1,.call Tryz.func170 [] (Zrp a b c))] [(2,(i64 b))] (AWP.ret ?_)
 have hr:=someb hF
 subst hr
 exact(FnQ.f0 0 (.inr rfl))
def Zqj (r:Bool):PV→List Blk→Prop:=fun p K=>p=(vb r)∧K=[]
theorem Zgi (a:Int) (r:Bool) (hF:Zgf a=some r):ACall Tryz.prog glob 176 [(u64 a)] [] (Zqj r):=by
 refine ACall.body Tryz.func176 rfl (by kernel_rfl) ?_
 unfold Zgf at hF
 refine AWP.seq (AWP.rg0 [] [(0,(u64 a))] (AWP.seq (AWP.rg0 [] [(2,(vb (a != a)))] (AWP.ret ?_))))
 have hr:=someb hF
 subst hr
 exact(FnQ.f0 0 (.inr rfl))
def Zrq (r:Bool):PV→List Blk→Prop:=fun p K=>p=(vb r)∧K=[]
theorem Zba (a:Int) (b:Int) (r:Bool) (hF:Zae a b=some r):ACall Tryz.prog glob 166 [(u64 a),(u64 b)] [] (Zrq r):=by
 refine ACall.body Tryz.func166 rfl (by kernel_rfl) ?_
 unfold Zae at hF
 refine AWP.seq (AWP.rg0 [] [(0,(u64 a)),(1,(u64 b))] (AWP.seq ?_))
 obtain⟨g,i,hF⟩:=bindb hF
 obtain⟨n,c,hF⟩:=bindb hF
 replace c:=someb c
 obtain⟨p,j,hF⟩:=bindb hF
 obtain⟨k,d,hF⟩:=bindb hF
 replace d:=someb d
 refine AWP.to [(4,(vb (k || (decide (a<b)))))] [] ?_ ?_
 ·cases n with
  | false=>
   have o:=someb (ifF j rfl)
   subst o
   subst d
   exact AWP.rgT [(1,.call Tryz.func176 [] (Zgi a g i)),(2,.bool c)]
  | true=>
   have f:=ifT j rfl
   obtain⟨l,m,f⟩:=bindb f
   replace f:=someb f
   subst f
   cases k with
   | false=>
    exact AWP.rgT [(1,.call Tryz.func176 [] (Zgi a g i)),(2,.bool c),(4,.call Tryz.func176 [] (Zgi b l m)),(7,.bool d)]
   | true=>
    exact AWP.rgT [(1,.call Tryz.func176 [] (Zgi a g i)),(2,.bool c),(4,.call Tryz.func176 [] (Zgi b l m)),(7,.bool d)]
 refine AWP.ret ?_
 have hr:=someb hF
 subst hr
 exact(FnQ.f0 0 (.inr rfl))
def Zi3 (a:List Value) (r:(List Int)):PV→List Blk→Prop:=fun p K=>p=(.tup [])∧K=[.cells (cel Zd r a)]
theorem Zi4 (d:Nat) (m:(List Int)) (f:List Value) (b:Int) (g:Int) (r:(List Int)) (hF:Zb3 d m b g=some r):ACall Tryz.prog glob 160 [(.vw 0 0 d),(i64 b),(i64 g)] [.cells (cel Zd m f)] (Zi3 f r):=by
 refine ACall.body Tryz.func160 rfl (by kernel_rfl) ?_
 unfold Zb3 at hF
 refine AWP.seq (AWP.rg0 [] [(0,(.vw 0 0 d)),(1,(i64 b)),(2,(i64 g)),(6,(i64 (ZI (b + (1:Int)))))] ?_)
 obtain⟨v,a3,hF⟩:=bindb hF
 refine AWP.mid (fun e st H=>e=.normal∧st=[]∧H=[.cells (cel Zd v f)]) ?_ ?_
 ·clear hF
  refine AWP.kp [0,1,2,6] 1 ?_
  refine AWP.bround (fun n st H=>∃ k,∃ c,Zan d b g n k c=some v∧st=[(0,(.vw 0 0 d)),(1,(i64 b)),(2,(i64 g)),(6,(i64 c))]∧H=[.cells (cel Zd k f)]) fuel ⟨m,(ZI (b + (1:Int))),a3,by kernel_rfl,by kernel_rfl⟩ ?_
  rintro o st H ⟨k,c,hF,rfl,rfl⟩
  cases o with
  | zero=>exact noneb hF
  | succ o=>
   rw [Zan] at hF
   refine AWP.seq (AWP.seq (AWP.rg0 [] [(0,(.vw 0 0 d)),(1,(i64 b)),(2,(i64 g)),(6,(i64 c)),(12,(vb (decide (c<g))))] ?_))
   refine AWP.cif hF (fun a4 hF=>?_) (fun a4 hF=>?_)
   ·refine AWP.skip (AWP.seq (AWP.block (AWP.seq (AWP.rg0 [] [(0,(.vw 0 0 d)),(1,(i64 b)),(2,(i64 g)),(6,(i64 c)),(7,(i64 c))] ?_))))
    obtain⟨p,a5,hF⟩:=bindb hF
    refine AWP.mid (fun e st H=>e=.normal∧st=[(0,(.vw 0 0 d)),(1,(i64 b)),(2,(i64 g)),(6,(i64 c))]∧H=[.cells (cel Zd p f)]) ?_ ?_
    ·clear hF
     refine AWP.kp [0,1,2,6,7] 1 ?_
     refine AWP.bround (fun n st H=>∃ j,∃ a,Zam d b n j a=some p∧st=[(0,(.vw 0 0 d)),(1,(i64 b)),(2,(i64 g)),(6,(i64 c)),(7,(i64 a))]∧H=[.cells (cel Zd j f)]) fuel ⟨k,c,a5,by kernel_rfl,by kernel_rfl⟩ ?_
     rintro q st H ⟨j,a,hF,rfl,rfl⟩
     cases q with
     | zero=>exact noneb hF
     | succ q=>
      rw [Zam] at hF
      refine AWP.seq (AWP.seq ?_)
      obtain⟨a6,l,hF⟩:=bindb hF
      replace l:=someb l
      obtain⟨a7,w,hF⟩:=bindb hF
      refine AWP.to [(0,(.vw 0 0 d)),(1,(i64 b)),(2,(i64 g)),(6,(i64 c)),(7,(i64 a)),(30,(vb a7))] [.cells (cel Zd j f)] ?_ ?_
      ·cases a6 with
       | false=>
        have a8:=someb (ifF w rfl)
        subst a8
        exact AWP.drT [(3,.bool l)] 15 [] [] []
       | true=>
        have i:=ifT w rfl
        obtain⟨a9,x,i⟩:=bindb i
        obtain⟨b0,y,i⟩:=bindb i
        obtain⟨b1,b2,i⟩:=bindb i
        replace i:=someb i
        subst i
        exact AWP.drT [(3,.bool l),(6,.idxV (Zt x)),(7,.ldV Zd (s:=1) (fun _=>rfl) f (Zp x) (0 + Int.toNat a * 1) (Nat.zero_add _) []),(11,.idxV (Zt y)),(12,.ldV Zd (s:=1) (fun _=>rfl) f (Zp y) (0 + Int.toNat (ZI (a - (1:Int))) * 1) (Nat.zero_add _) []),(13,.call Tryz.func166 [] (Zba a9 b0 b1 b2))] 15 [] [] []
      refine AWP.cif hF (fun b3 hF=>?_) (fun b3 hF=>?_)
      ·refine AWP.skip (AWP.seq (AWP.block ?_))
       obtain⟨t,z,hF⟩:=bindb hF
       obtain⟨u,a0,hF⟩:=bindb hF
       obtain⟨b4,a1,hF⟩:=bindb hF
       obtain⟨b5,a2,hF⟩:=bindb hF
       refine AWP.dr [(8,.idxV (Zt z)),(9,.ldV Zd (s:=1) (fun _=>rfl) f (Zp z) (0 + Int.toNat (ZI (a - (1:Int))) * 1) (Nat.zero_add _) []),(12,.idxV (Zt a0)),(13,.ldV Zd (s:=1) (fun _=>rfl) f (Zp a0) (0 + Int.toNat a * 1) (Nat.zero_add _) []),(14,.idxV (Zt a1)),(15,.stV Zd (s:=1) (fun _=>rfl) f (Zp a1) t (0 + Int.toNat a * 1) (Nat.zero_add _) []),(16,.idxV (Zt a2)),(17,.stV Zd (s:=1) (fun _=>rfl) f (Zp a2) u (0 + Int.toNat (ZI (a - (1:Int))) * 1) (Nat.zero_add _) [])] 16 [] [15] [] [(0,(.vw 0 0 d)),(1,(i64 b)),(2,(i64 g)),(6,(i64 c)),(7,(i64 a))] [.cells (cel Zd (List.set (List.set j (Int.toNat a) t) (Int.toNat (ZI (a - (1:Int)))) u) f)] (AWP.rg0 [] [(0,(.vw 0 0 d)),(1,(i64 b)),(2,(i64 g)),(6,(i64 c)),(7,(i64 (ZI (a - (1:Int)))))] (LeQ.start (LeQ.pk [0,1,2,6,7] 1 ?_)))
       exact⟨q,Nat.lt_succ_self _,(List.set (List.set j (Int.toNat a) t) (Int.toNat (ZI (a - (1:Int)))) u),(ZI (a - (1:Int))),hF,by kernel_rfl,by kernel_rfl⟩
      ·refine AWP.exit (LeQ.start (LeQ.pk [0,1,2,6] 1 ?_))
       have hr:=someb hF
       subst hr
       exact⟨rfl,by kernel_rfl,by kernel_rfl⟩
    ·rintro _ _ _ ⟨rfl,rfl,rfl⟩
     refine AWP.rg0 [] [(0,(.vw 0 0 d)),(1,(i64 b)),(2,(i64 g)),(6,(i64 (ZI (c + (1:Int)))))] (LeQ.start (LeQ.pk [0,1,2,6] 1 ?_))
     exact⟨o,Nat.lt_succ_self _,p,(ZI (c + (1:Int))),hF,by kernel_rfl,by kernel_rfl⟩
   ·refine AWP.exit (LeQ.start (LeQ.pk [] 1 ?_))
    have hr:=someb hF
    subst hr
    exact⟨rfl,by kernel_rfl,by kernel_rfl⟩
 ·rintro _ _ _ ⟨rfl,rfl,rfl⟩
  have hr:=someb hF
  subst hr
  exact(FnQ.f0 1 (.inl rfl))
def Zhm (a:List Value) (r:(List Int)):PV→List Blk→Prop:=fun p K=>p=(.tup [])∧K=[.cells (cel Zd r a)]
abbrev Zj7 (a:List Value) (r:(List Int)):Exit→St→List Blk→Prop:=FnQ Tryz.prog Tryz.f171.results 1 (Zhm a r)
theorem Zhn (f:Nat) (m:(List Int)) (c:List Value) (k:Int) (d:Int) (a:Int) (r:(List Int)) (hF:Zb2 f m k d a=some r):ACall Tryz.prog glob 171 [(.vw 0 0 f),(i64 k),(i64 d),(i64 a)] [.cells (cel Zd m c)] (Zhm c r):=by
 refine ACall.body Tryz.func171 rfl (by kernel_rfl) ?_
 unfold Zb2 at hF
 refine AWP.seq (AWP.rg0 [] [(0,(.vw 0 0 f)),(2,(i64 d)),(3,(i64 a)),(8,(i64 k))] ?_)
 obtain⟨o,a5,hF⟩:=bindb hF
 refine AWP.mid (fun e st H=>(e=.normal∧∃ p,o=(.inl p)∧st=[]∧H=[.cells (cel Zd p c)])∨(e=.ret∧∃ r,o=(.inr r)∧Zj7 c r e st H)) ?_ ?_
 ·clear hF
  refine AWP.kp [0,2,3,8] 1 ?_
  refine AWP.bround (fun n st H=>∃ g,∃ b,Zai f d a n g b=some o∧st=[(0,(.vw 0 0 f)),(2,(i64 d)),(3,(i64 a)),(8,(i64 b))]∧H=[.cells (cel Zd g c)]) fuel ⟨m,k,a5,by kernel_rfl,by kernel_rfl⟩ ?_
  rintro q st H ⟨g,b,hF,rfl,rfl⟩
  cases q with
  | zero=>exact noneb hF
  | succ q=>
   rw [Zai] at hF
   refine AWP.block (AWP.seq (AWP.rg0 [] [(0,(.vw 0 0 f)),(2,(i64 d)),(3,(i64 a)),(8,(i64 b)),(9,(i64 (ZI ((ZI ((2:Int) * b)) + (1:Int)))))] (AWP.seq (AWP.seq (AWP.rg0 [] [(0,(.vw 0 0 f)),(2,(i64 d)),(3,(i64 a)),(8,(i64 b)),(9,(i64 (ZI ((ZI ((2:Int) * b)) + (1:Int))))),(16,(vb (decide ((ZI ((ZI ((2:Int) * b)) + (1:Int))) ≥ d))))] ?_)))))
   refine AWP.cif hF (fun a6 hF=>?_) (fun a6 hF=>?_)
   ·refine AWP.exit (LeQ.start (LeQ.pk [] 1 ?_))
    exact(.inl ⟨rfl,g,(someb hF).symm,by kernel_rfl,by kernel_rfl⟩)
   ·refine AWP.skip ?_
    obtain⟨i,a7,hF⟩:=bindb hF
    refine AWP.seq ?_
    refine AWP.mid (fun e st H=>e=.normal∧st=[(0,(.vw 0 0 f)),(2,(i64 d)),(3,(i64 a)),(8,(i64 b)),(9,(i64 i))]∧H=[.cells (cel Zd g c)]) ?_ ?_
    ·clear hF
     have hF:=a7
     refine AWP.seq ?_
     obtain⟨a8,l,hF⟩:=bindb hF
     replace l:=someb l
     obtain⟨a9,v,hF⟩:=bindb hF
     refine AWP.to [(0,(.vw 0 0 f)),(2,(i64 d)),(3,(i64 a)),(8,(i64 b)),(9,(i64 (ZI ((ZI ((2:Int) * b)) + (1:Int))))),(36,(vb a9))] [.cells (cel Zd g c)] ?_ ?_
     ·cases a8 with
      | false=>
       have b0:=someb (ifF v rfl)
       subst b0
       exact AWP.drT [(4,.bool l)] 20 [] [] []
      | true=>
       have j:=ifT v rfl
       obtain⟨b1,w,j⟩:=bindb j
       obtain⟨b2,x,j⟩:=bindb j
       obtain⟨b3,b4,j⟩:=bindb j
       replace j:=someb j
       subst j
       exact AWP.drT [(4,.bool l),(9,.idxV (Zt w)),(10,.ldV Zd (s:=1) (fun _=>rfl) c (Zp w) (0 + Int.toNat (ZI (a + (ZI ((ZI ((2:Int) * b)) + (1:Int))))) * 1) (Nat.zero_add _) []),(16,.idxV (Zt x)),(17,.ldV Zd (s:=1) (fun _=>rfl) c (Zp x) (0 + Int.toNat (ZI ((ZI (a + (ZI ((ZI ((2:Int) * b)) + (1:Int))))) + (1:Int))) * 1) (Nat.zero_add _) []),(18,.call Tryz.func166 [] (Zba b1 b2 b3 b4))] 20 [] [] []
     refine AWP.cif hF (fun b5 hF=>?_) (fun b5 hF=>?_)
     ·refine AWP.rg0 [] [(0,(.vw 0 0 f)),(2,(i64 d)),(3,(i64 a)),(8,(i64 b)),(9,(i64 (ZI ((ZI ((ZI ((2:Int) * b)) + (1:Int))) + (1:Int)))))] (LeQ.start (LeQ.pk [0,2,3,8,9] 1 ?_))
      have hr:=someb hF
      subst hr
      exact⟨rfl,by kernel_rfl,by kernel_rfl⟩
     ·refine AWP.skip (LeQ.start (LeQ.pk [0,2,3,8,9] 1 ?_))
      have hr:=someb hF
      subst hr
      exact⟨rfl,by kernel_rfl,by kernel_rfl⟩
    ·rintro _ _ _ ⟨rfl,rfl,rfl⟩
     refine AWP.seq (AWP.seq ?_)
     obtain⟨b6,y,hF⟩:=bindb hF
     obtain⟨b7,z,hF⟩:=bindb hF
     obtain⟨a0,b8,hF⟩:=bindb hF
     refine AWP.dr [(4,.idxV (Zt y)),(5,.ldV Zd (s:=1) (fun _=>rfl) c (Zp y) (0 + Int.toNat (ZI (a + b)) * 1) (Nat.zero_add _) []),(10,.idxV (Zt z)),(11,.ldV Zd (s:=1) (fun _=>rfl) c (Zp z) (0 + Int.toNat (ZI (a + i)) * 1) (Nat.zero_add _) []),(12,.call Tryz.func166 [] (Zba b6 b7 a0 b8))] 14 [] [] [] [(0,(.vw 0 0 f)),(2,(i64 d)),(3,(i64 a)),(8,(i64 b)),(9,(i64 i)),(52,(vb (!a0)))] [.cells (cel Zd g c)] ?_
     refine AWP.cif hF (fun b9 hF=>?_) (fun b9 hF=>?_)
     ·refine AWP.ret ?_
      exact LeQ.of (.inr ⟨rfl,g,(someb hF).symm,(FnQ.f0 1 (.inr rfl))⟩)
     ·refine AWP.skip (AWP.seq ?_)
      obtain⟨t,a1,hF⟩:=bindb hF
      obtain⟨u,a2,hF⟩:=bindb hF
      obtain⟨c0,a3,hF⟩:=bindb hF
      obtain⟨c1,a4,hF⟩:=bindb hF
      refine AWP.dr [(12,.idxV (Zt a1)),(13,.ldV Zd (s:=1) (fun _=>rfl) c (Zp a1) (0 + Int.toNat (ZI (a + i)) * 1) (Nat.zero_add _) []),(18,.idxV (Zt a2)),(19,.ldV Zd (s:=1) (fun _=>rfl) c (Zp a2) (0 + Int.toNat (ZI (a + b)) * 1) (Nat.zero_add _) []),(20,.idxV (Zt a3)),(21,.stV Zd (s:=1) (fun _=>rfl) c (Zp a3) t (0 + Int.toNat (ZI (a + b)) * 1) (Nat.zero_add _) []),(22,.idxV (Zt a4)),(23,.stV Zd (s:=1) (fun _=>rfl) c (Zp a4) u (0 + Int.toNat (ZI (a + i)) * 1) (Nat.zero_add _) [])] 22 [] [21] [] [(0,(.vw 0 0 f)),(2,(i64 d)),(3,(i64 a)),(9,(i64 i))] [.cells (cel Zd (List.set (List.set g (Int.toNat (ZI (a + b))) t) (Int.toNat (ZI (a + i))) u) c)] (AWP.rg0 [] [(0,(.vw 0 0 f)),(2,(i64 d)),(3,(i64 a)),(8,(i64 i))] (LeQ.start (LeQ.pk [0,2,3,8] 1 ?_)))
      exact⟨q,Nat.lt_succ_self _,(List.set (List.set g (Int.toNat (ZI (a + b))) t) (Int.toNat (ZI (a + i))) u),i,hF,by kernel_rfl,by kernel_rfl⟩
 ·rintro _ _ _ (⟨rfl,p,rfl,rfl,rfl⟩ | ⟨rfl,c2,rfl,hq⟩)
  ·have hr:=someb hF
   subst hr
   exact(FnQ.f0 1 (.inl rfl))
  ·have hr:=someb hF
   subst hr
   exact hq
def Zj8 (a:List Value) (r:(List Int)):PV→List Blk→Prop:=fun p K=>p=(.tup [])∧K=[.cells (cel Zd r a)]
theorem Zj9 (b:Nat) (q:(List Int)) (d:List Value) (a:Int) (f:Int) (r:(List Int)) (hF:Zcr b q a f=some r):ACall Tryz.prog glob 161 [(.vw 0 0 b),(i64 a),(i64 f)] [.cells (cel Zd q d)] (Zj8 d r):=by
 refine ACall.body Tryz.func161 rfl (by kernel_rfl) ?_
 unfold Zcr at hF
 refine AWP.seq (AWP.rg0 [] [(0,(.vw 0 0 b)),(1,(i64 a)),(2,(i64 f)),(6,(i64 a))] (AWP.seq (AWP.rg0 [] [(0,(.vw 0 0 b)),(1,(i64 a)),(2,(i64 f)),(6,(i64 a)),(7,(i64 (0:Int)))] (AWP.seq (AWP.rg0 [] [(0,(.vw 0 0 b)),(6,(i64 a)),(7,(i64 (0:Int))),(8,(i64 (ZI (f - a))))] (AWP.seq ?_))))))
 refine AWP.seq (AWP.rg0 [] [(0,(.vw 0 0 b)),(6,(i64 a)),(7,(i64 (0:Int))),(8,(i64 (ZI (f - a)))),(9,(i64 (ZI (Int.tdiv (ZI ((ZI (f - a)) - (1:Int))) (2:Int)))))] ?_)
 obtain⟨t,a1,hF⟩:=bindb hF
 refine AWP.mid (fun e st H=>e=.normal∧st=[(0,(.vw 0 0 b)),(6,(i64 a)),(7,(i64 (0:Int))),(8,(i64 (ZI (f - a))))]∧H=[.cells (cel Zd t d)]) ?_ ?_
 ·clear hF
  refine AWP.kp [0,6,7,8,9] 1 ?_
  refine AWP.bround (fun n st H=>∃ k,∃ i,Za0 b a f n k i=some t∧st=[(0,(.vw 0 0 b)),(6,(i64 a)),(7,(i64 (0:Int))),(8,(i64 (ZI (f - a)))),(9,(i64 i))]∧H=[.cells (cel Zd k d)]) fuel ⟨q,(ZI (Int.tdiv (ZI ((ZI (f - a)) - (1:Int))) (2:Int))),a1,by kernel_rfl,by kernel_rfl⟩ ?_
  rintro u st H ⟨k,i,hF,rfl,rfl⟩
  cases u with
  | zero=>exact noneb hF
  | succ u=>
   rw [Za0] at hF
   refine AWP.seq (AWP.seq (AWP.rg0 [] [(0,(.vw 0 0 b)),(6,(i64 a)),(7,(i64 (0:Int))),(8,(i64 (ZI (f - a)))),(9,(i64 i)),(19,(vb (decide (i ≥ (0:Int)))))] ?_))
   refine AWP.cif hF (fun a2 hF=>?_) (fun a2 hF=>?_)
   ·refine AWP.skip (AWP.seq (AWP.block ?_))
    obtain⟨l,a3,hF⟩:=bindb hF
    refine AWP.rg [(4,.callC Tryz.func171 [] (closedH.c (Zz (row:=Zd) (fun _=>rfl) k d) closedH.n) (closedH.c (Zz (row:=Zd) (fun _=>rfl) l d) closedH.n) (Zhn b k d i (ZI (f - a)) a l a3))] [(0,(.vw 0 0 b)),(6,(i64 a)),(7,(i64 (0:Int))),(8,(i64 (ZI (f - a)))),(9,(i64 i))] [.cells (cel Zd l d)] (AWP.rg0 [] [(0,(.vw 0 0 b)),(6,(i64 a)),(7,(i64 (0:Int))),(8,(i64 (ZI (f - a)))),(9,(i64 (ZI (i - (1:Int)))))] (LeQ.start (LeQ.pk [0,6,7,8,9] 1 ?_)))
    exact⟨u,Nat.lt_succ_self _,l,(ZI (i - (1:Int))),hF,by kernel_rfl,by kernel_rfl⟩
   ·refine AWP.exit (LeQ.start (LeQ.pk [0,6,7,8] 1 ?_))
    have hr:=someb hF
    subst hr
    exact⟨rfl,by kernel_rfl,by kernel_rfl⟩
 ·rintro _ _ _ ⟨rfl,rfl,rfl⟩
  refine AWP.seq (AWP.rg0 [] [(0,(.vw 0 0 b)),(6,(i64 a)),(7,(i64 (0:Int))),(10,(i64 (ZI ((ZI (f - a)) - (1:Int)))))] ?_)
  obtain⟨w,a4,hF⟩:=bindb hF
  refine AWP.mid (fun e st H=>e=.normal∧st=[]∧H=[.cells (cel Zd w d)]) ?_ ?_
  ·clear hF
   refine AWP.kp [0,6,7,10] 1 ?_
   refine AWP.bround (fun n st H=>∃ j,∃ g,Za1 b a n j g=some w∧st=[(0,(.vw 0 0 b)),(6,(i64 a)),(7,(i64 (0:Int))),(10,(i64 g))]∧H=[.cells (cel Zd j d)]) fuel ⟨t,(ZI ((ZI (f - a)) - (1:Int))),a4,by kernel_rfl,by kernel_rfl⟩ ?_
   rintro v st H ⟨j,g,hF,rfl,rfl⟩
   cases v with
   | zero=>exact noneb hF
   | succ v=>
    rw [Za1] at hF
    refine AWP.seq (AWP.seq (AWP.rg0 [] [(0,(.vw 0 0 b)),(6,(i64 a)),(7,(i64 (0:Int))),(10,(i64 g)),(30,(vb (decide (g ≥ (0:Int)))))] ?_))
    refine AWP.cif hF (fun a5 hF=>?_) (fun a5 hF=>?_)
    ·refine AWP.skip (AWP.seq (AWP.block (AWP.seq ?_)))
     obtain⟨m,x,hF⟩:=bindb hF
     obtain⟨o,y,hF⟩:=bindb hF
     obtain⟨a7,z,hF⟩:=bindb hF
     obtain⟨a8,a0,hF⟩:=bindb hF
     refine AWP.dr [(10,.idxV (Zt x)),(11,.ldV Zd (s:=1) (fun _=>rfl) d (Zp x) (0 + Int.toNat (ZI (a + g)) * 1) (Nat.zero_add _) []),(14,.idxV (Zt y)),(15,.ldV Zd (s:=1) (fun _=>rfl) d (Zp y) (0 + Int.toNat a * 1) (Nat.zero_add _) []),(16,.idxV (Zt z)),(17,.stV Zd (s:=1) (fun _=>rfl) d (Zp z) m (0 + Int.toNat a * 1) (Nat.zero_add _) []),(18,.idxV (Zt a0)),(19,.stV Zd (s:=1) (fun _=>rfl) d (Zp a0) o (0 + Int.toNat (ZI (a + g)) * 1) (Nat.zero_add _) [])] 18 [] [17] [] [(0,(.vw 0 0 b)),(6,(i64 a)),(7,(i64 (0:Int))),(10,(i64 g))] [.cells (cel Zd (List.set (List.set j (Int.toNat a) m) (Int.toNat (ZI (a + g))) o) d)] ?_
     obtain⟨p,a6,hF⟩:=bindb hF
     refine AWP.rg [(4,.callC Tryz.func171 [] (closedH.c (Zz (row:=Zd) (fun _=>rfl) (List.set (List.set j (Int.toNat a) m) (Int.toNat (ZI (a + g))) o) d) closedH.n) (closedH.c (Zz (row:=Zd) (fun _=>rfl) p d) closedH.n) (Zhn b (List.set (List.set j (Int.toNat a) m) (Int.toNat (ZI (a + g))) o) d (0:Int) g a p a6))] [(0,(.vw 0 0 b)),(6,(i64 a)),(7,(i64 (0:Int))),(10,(i64 g))] [.cells (cel Zd p d)] (AWP.rg0 [] [(0,(.vw 0 0 b)),(6,(i64 a)),(7,(i64 (0:Int))),(10,(i64 (ZI (g - (1:Int)))))] (LeQ.start (LeQ.pk [0,6,7,10] 1 ?_)))
     exact⟨v,Nat.lt_succ_self _,p,(ZI (g - (1:Int))),hF,by kernel_rfl,by kernel_rfl⟩
    ·refine AWP.exit (LeQ.start (LeQ.pk [] 1 ?_))
     have hr:=someb hF
     subst hr
     exact⟨rfl,by kernel_rfl,by kernel_rfl⟩
  ·rintro _ _ _ ⟨rfl,rfl,rfl⟩
   have hr:=someb hF
   subst hr
   exact(FnQ.f0 1 (.inl rfl))
def Zmn (r:Int):PV→List Blk→Prop:=fun p K=>p=(u64 r)∧K=[]
theorem Zmo (a:Int) (r:Int) (hF:Zfy a=some r):ACall Tryz.prog glob 172 [(i64 a)] [] (Zmn r):=by
 refine ACall.body Tryz.func172 rfl (by kernel_rfl) ?_
 unfold Zfy at hF
 refine AWP.seq (AWP.rg0 [] [(0,(i64 a))] (AWP.seq ?_))
 obtain⟨b,c,hF⟩:=bindb hF
 obtain⟨d,hF⟩:=chkb hF
 refine AWP.rg0 [(2,.call Tryz.func158 [] (Zmz (IntKind.wrap .u64 a) b c)),(3,.sh d)] [(2,(u64 (bShl .u64 (1:Int) b)))] (AWP.ret ?_)
 have hr:=someb hF
 subst hr
 exact(FnQ.f0 0 (.inr rfl))
def Zng (r:(Int × Int)):PV→List Blk→Prop:=fun p K=>p=(u64 r.1)∧K=[.cells (Zd r.2)]
theorem Znh (a:Int) (r:(Int × Int)) (hF:Zex a=some r):ACall Tryz.prog glob 173 [(.ptr 0 0)] [.cells (Zd a)] (Zng r):=by
 refine ACall.body Tryz.func173 rfl (by kernel_rfl) ?_
 unfold Zex at hF
 refine AWP.seq (AWP.rg0 [] [(0,(.ptr 0 0))] (AWP.seq (AWP.dr [] 8 [] [] [] [(0,(.ptr 0 0))] [.cells (Zd (bXor .u64 a (bShl .u64 a (13:Int))))] (AWP.seq (AWP.dr [] 8 [] [] [] [(0,(.ptr 0 0))] [.cells (Zd (bXor .u64 (bXor .u64 a (bShl .u64 a (13:Int))) (bShr .u64 (bXor .u64 a (bShl .u64 a (13:Int))) (7:Int))))] (AWP.seq ?_))))))
 refine AWP.dr [] 8 [] [] [] [(0,(.ptr 0 0))] [.cells (Zd (bXor .u64 (bXor .u64 (bXor .u64 a (bShl .u64 a (13:Int))) (bShr .u64 (bXor .u64 a (bShl .u64 a (13:Int))) (7:Int))) (bShl .u64 (bXor .u64 (bXor .u64 a (bShl .u64 a (13:Int))) (bShr .u64 (bXor .u64 a (bShl .u64 a (13:Int))) (7:Int))) (17:Int))))] (AWP.seq (AWP.rg0 [] [(2,(u64 (bXor .u64 (bXor .u64 (bXor .u64 a (bShl .u64 a (13:Int))) (bShr .u64 (bXor .u64 a (bShl .u64 a (13:Int))) (7:Int))) (bShl .u64 (bXor .u64 (bXor .u64 a (bShl .u64 a (13:Int))) (bShr .u64 (bXor .u64 a (bShl .u64 a (13:Int))) (7:Int))) (17:Int)))))] (AWP.ret ?_)))
 have hr:=someb hF
 subst hr
 exact(FnQ.f0 1 (.inr rfl))
def Zi5 (a:List Value) (r:(List Int)):PV→List Blk→Prop:=fun p K=>p=(.tup [])∧K=[.cells (cel Zd r a)]
theorem Zi6 (c:Nat) (m:(List Int)) (g:List Value) (a:Int) (b:Int) (r:(List Int)) (hF:Zbb c m a b=some r):ACall Tryz.prog glob 162 [(.vw 0 0 c),(i64 a),(i64 b)] [.cells (cel Zd m g)] (Zi5 g r):=by
 refine ACall.body Tryz.func162 rfl (by kernel_rfl) ?_
 unfold Zbb at hF
 refine AWP.seq (AWP.rg0 [] [(0,(.vw 0 0 c)),(1,(i64 a)),(6,(i64 (ZI (b - a))))] (AWP.seq (AWP.rg0 [] [(0,(.vw 0 0 c)),(1,(i64 a)),(6,(i64 (ZI (b - a)))),(15,(vb (decide ((ZI (b - a)) ≥ (8:Int)))))] ?_)))
 refine AWP.cif hF (fun a2 hF=>?_) (fun a2 hF=>?_)
 ·refine AWP.seq (AWP.rg [] [(0,(.vw 0 0 c)),(1,(i64 a)),(6,(i64 (ZI (b - a)))),(7,(.ptr 1 0))] [.cells (cel Zd m g),.cells (Zd (IntKind.wrap .u64 (ZI (b - a))))] (AWP.seq ?_))
  obtain⟨d,a3,hF⟩:=bindb hF
  refine AWP.rg0 [(1,.call Tryz.func172 [] (Zmo (ZI (b - a)) d a3))] [(0,(.vw 0 0 c)),(1,(i64 a)),(6,(i64 (ZI (b - a)))),(7,(.ptr 1 0)),(8,(u64 d))] (AWP.seq (AWP.rg0 [] [(0,(.vw 0 0 c)),(1,(i64 a)),(6,(i64 (ZI (b - a)))),(7,(.ptr 1 0)),(8,(u64 d)),(9,(i64 (ZI ((ZI (a + (ZI ((ZI (Int.tdiv (ZI (b - a)) (4:Int))) * (2:Int))))) - (1:Int)))))] ?_))
  obtain⟨x,a4,hF⟩:=bindb hF
  refine AWP.mid (fun e st H=>(e=.normal∧∃ q,∃ t,x=(q,t)∧st=[]∧H=[.cells (cel Zd q g),.cells (Zd t)])) ?_ ?_
  ·clear hF
   refine AWP.kp [0,1,6,7,8,9] 2 ?_
   refine AWP.bround (fun n st H=>∃ j,∃ k,∃ f,Zy c a b d n j k f=some x∧st=[(0,(.vw 0 0 c)),(1,(i64 a)),(6,(i64 (ZI (b - a)))),(7,(.ptr 1 0)),(8,(u64 d)),(9,(i64 f))]∧H=[.cells (cel Zd j g),.cells (Zd k)]) fuel ⟨m,(IntKind.wrap .u64 (ZI (b - a))),(ZI ((ZI (a + (ZI ((ZI (Int.tdiv (ZI (b - a)) (4:Int))) * (2:Int))))) - (1:Int))),a4,by kernel_rfl,by kernel_rfl⟩ ?_
   rintro u st H ⟨j,k,f,hF,rfl,rfl⟩
   cases u with
   | zero=>exact noneb hF
   | succ u=>
    rw [Zy] at hF
    refine AWP.seq (AWP.seq (AWP.rg0 [] [(0,(.vw 0 0 c)),(1,(i64 a)),(6,(i64 (ZI (b - a)))),(7,(.ptr 1 0)),(8,(u64 d)),(9,(i64 f)),(33,(vb (decide (f≤(ZI ((ZI (a + (ZI ((ZI (Int.tdiv (ZI (b - a)) (4:Int))) * (2:Int))))) + (1:Int)))))))] ?_))
    refine AWP.cif hF (fun a5 hF=>?_) (fun a5 hF=>?_)
    ·refine AWP.skip ?_
     obtain⟨a6,a7,hF⟩:=bindb hF
     refine AWP.seq ?_
     refine AWP.mid (fun e st H=>(e=.normal∧∃ o,∃ p,a6=(o,p)∧st=[(0,(.vw 0 0 c)),(1,(i64 a)),(6,(i64 (ZI (b - a)))),(7,(.ptr 1 0)),(8,(u64 d)),(9,(i64 f))]∧H=[.cells (cel Zd o g),.cells (Zd p)])) ?_ ?_
     ·clear hF
      have hF:=a7
      refine AWP.block (AWP.seq ?_)
      obtain⟨i,a8,hF⟩:=bindb hF
      refine AWP.rg [(0,.call Tryz.func173 [] (Znh k i a8))] [(0,(.vw 0 0 c)),(1,(i64 a)),(6,(i64 (ZI (b - a)))),(7,(.ptr 1 0)),(8,(u64 d)),(9,(i64 f)),(10,(i64 (ZI (bAnd .u64 i.1 (IntKind.wrap .u64 (d - (1:Int)))))))] [.cells (cel Zd j g),.cells (Zd i.2)] ?_
      obtain⟨l,a9,hF⟩:=bindb hF
      refine AWP.seq ?_
      refine AWP.mid (fun e st H=>e=.normal∧st=[(0,(.vw 0 0 c)),(1,(i64 a)),(6,(i64 (ZI (b - a)))),(7,(.ptr 1 0)),(8,(u64 d)),(9,(i64 f)),(10,(i64 l))]∧H=[.cells (cel Zd j g),.cells (Zd i.2)]) ?_ ?_
      ·clear hF
       have hF:=a9
       refine AWP.seq (AWP.rg0 [] [(0,(.vw 0 0 c)),(1,(i64 a)),(6,(i64 (ZI (b - a)))),(7,(.ptr 1 0)),(8,(u64 d)),(9,(i64 f)),(10,(i64 (ZI (bAnd .u64 i.1 (IntKind.wrap .u64 (d - (1:Int))))))),(43,(vb (decide ((ZI (bAnd .u64 i.1 (IntKind.wrap .u64 (d - (1:Int))))) ≥ (ZI (b - a))))))] ?_)
       refine AWP.cif hF (fun b0 hF=>?_) (fun b0 hF=>?_)
       ·refine AWP.rg0 [] [(0,(.vw 0 0 c)),(1,(i64 a)),(6,(i64 (ZI (b - a)))),(7,(.ptr 1 0)),(8,(u64 d)),(9,(i64 f)),(10,(i64 (ZI ((ZI (bAnd .u64 i.1 (IntKind.wrap .u64 (d - (1:Int))))) - (ZI (b - a))))))] (LeQ.start (LeQ.pk [0,1,6,7,8,9,10] 2 ?_))
        have hr:=someb hF
        subst hr
        exact⟨rfl,by kernel_rfl,by kernel_rfl⟩
       ·refine AWP.skip (LeQ.start (LeQ.pk [0,1,6,7,8,9,10] 2 ?_))
        have hr:=someb hF
        subst hr
        exact⟨rfl,by kernel_rfl,by kernel_rfl⟩
      ·rintro _ _ _ ⟨rfl,rfl,rfl⟩
       obtain⟨v,y,hF⟩:=bindb hF
       obtain⟨w,z,hF⟩:=bindb hF
       obtain⟨b1,a0,hF⟩:=bindb hF
       obtain⟨b2,a1,hF⟩:=bindb hF
       refine AWP.dr [(10,.idxV (Zt y)),(11,.ldV Zd (s:=1) (fun _=>rfl) g (Zp y) (0 + Int.toNat (ZI (a + l)) * 1) (Nat.zero_add _) []),(14,.idxV (Zt z)),(15,.ldV Zd (s:=1) (fun _=>rfl) g (Zp z) (0 + Int.toNat f * 1) (Nat.zero_add _) []),(16,.idxV (Zt a0)),(17,.stV Zd (s:=1) (fun _=>rfl) g (Zp a0) v (0 + Int.toNat f * 1) (Nat.zero_add _) []),(18,.idxV (Zt a1)),(19,.stV Zd (s:=1) (fun _=>rfl) g (Zp a1) w (0 + Int.toNat (ZI (a + l)) * 1) (Nat.zero_add _) [])] 18 [] [17] [] [(0,(.vw 0 0 c)),(1,(i64 a)),(6,(i64 (ZI (b - a)))),(7,(.ptr 1 0)),(8,(u64 d)),(9,(i64 f))] [.cells (cel Zd (List.set (List.set j (Int.toNat f) v) (Int.toNat (ZI (a + l))) w) g),.cells (Zd i.2)] (LeQ.start (LeQ.pk [0,1,6,7,8,9] 2 ?_))
       exact⟨rfl,(List.set (List.set j (Int.toNat f) v) (Int.toNat (ZI (a + l))) w),i.2,(someb hF).symm,by kernel_rfl,by kernel_rfl⟩
     ·rintro _ _ _ ⟨rfl,o,p,rfl,rfl,rfl⟩
      refine AWP.rg0 [] [(0,(.vw 0 0 c)),(1,(i64 a)),(6,(i64 (ZI (b - a)))),(7,(.ptr 1 0)),(8,(u64 d)),(9,(i64 (ZI (f + (1:Int)))))] (LeQ.start (LeQ.pk [0,1,6,7,8,9] 2 ?_))
      exact⟨u,Nat.lt_succ_self _,o,p,(ZI (f + (1:Int))),hF,by kernel_rfl,by kernel_rfl⟩
    ·refine AWP.exit (LeQ.start (LeQ.pk [] 2 ?_))
     exact⟨rfl,j,k,(someb hF).symm,by kernel_rfl,by kernel_rfl⟩
  ·rintro _ _ _ ⟨rfl,q,t,rfl,rfl,rfl⟩
   have hr:=someb hF
   subst hr
   exact(FnQ.f0 1 (.inl rfl))
 ·refine AWP.skip ?_
  have hr:=someb hF
  subst hr
  exact(FnQ.f0 1 (.inl rfl))
def Zky (a:(List Int)) (b:List Value) (r:(Int × Int × Int)):PV→List Blk→Prop:=fun p K=>p=(.tup [(i64 r.1),(i64 r.2.1)])∧K=[.cells (cel Zd a b),.cells (Zaj r.2.2)]
theorem Zfv (g:Nat) (d:(List Int)) (c:List Value) (a:Int) (b:Int) (f:Int) (r:(Int × Int × Int)) (hF:Zbo g d a b f=some r):ACall Tryz.prog glob 177 [(.vw 0 0 g),(i64 a),(i64 b),(.ptr 1 0)] [.cells (cel Zd d c),.cells (Zaj f)] (Zky d c r):=by
 refine ACall.body Tryz.func177 rfl (by kernel_rfl) ?_
 unfold Zbo at hF
 refine AWP.seq (AWP.rg0 [] [(0,(.vw 0 0 g)),(1,(i64 a)),(2,(i64 b)),(3,(.ptr 1 0))] (AWP.seq (AWP.seq ?_)))
 obtain⟨l,i,hF⟩:=bindb hF
 obtain⟨m,j,hF⟩:=bindb hF
 obtain⟨k,n,hF⟩:=bindb hF
 refine AWP.dr [(2,.idxV (Zt i)),(3,.ldV Zd (s:=1) (fun _=>rfl) c (Zp i) (0 + Int.toNat b * 1) (Nat.zero_add _) []),(6,.idxV (Zt j)),(7,.ldV Zd (s:=1) (fun _=>rfl) c (Zp j) (0 + Int.toNat a * 1) (Nat.zero_add _) []),(8,.call Tryz.func166 [] (Zba l m k n))] 9 [] [] [] [(1,(i64 a)),(2,(i64 b)),(3,(.ptr 1 0)),(18,(vb k))] [.cells (cel Zd d c),.cells (Zaj f)] ?_
 refine AWP.cif hF (fun o hF=>?_) (fun o hF=>?_)
 ·refine AWP.seq (AWP.rg [] [(1,(i64 a)),(2,(i64 b))] [.cells (cel Zd d c),.cells (Zaj (ZI (f + (1:Int))))] (AWP.seq (AWP.rg0 [] [(8,(i64 b)),(9,(i64 a))] (AWP.ret ?_))))
  have hr:=someb hF
  subst hr
  exact(FnQ.f0 2 (.inr rfl))
 ·refine AWP.skip (AWP.seq (AWP.rg0 [] [(8,(i64 a)),(9,(i64 b))] (AWP.ret ?_)))
  have hr:=someb hF
  subst hr
  exact(FnQ.f0 2 (.inr rfl))
def Zkz (a:(List Int)) (b:List Value) (r:(Int × Int)):PV→List Blk→Prop:=fun p K=>p=(i64 r.1)∧K=[.cells (cel Zd a b),.cells (Zaj r.2)]
theorem Zh4 (f:Nat) (a:(List Int)) (b:List Value) (k:Int) (l:Int) (i:Int) (m:Int) (r:(Int × Int)) (hF:Zcb f a k l i m=some r):ACall Tryz.prog glob 175 [(.vw 0 0 f),(i64 k),(i64 l),(i64 i),(.ptr 1 0)] [.cells (cel Zd a b),.cells (Zaj m)] (Zkz a b r):=by
 refine ACall.body Tryz.func175 rfl (by kernel_rfl) ?_
 unfold Zcb at hF
 refine AWP.seq (AWP.rg0 [] [(0,(.vw 0 0 f)),(1,(i64 k)),(2,(i64 l)),(3,(i64 i)),(4,(.ptr 1 0))] (AWP.seq ?_))
 obtain⟨d,o,hF⟩:=bindb hF
 refine AWP.rg [(4,.callC Tryz.func177 [] (closedH.c (Zz (row:=Zd) (fun _=>rfl) a b) (closedH.c (cs:=Zaj m) rfl closedH.n)) (closedH.c (Zz (row:=Zd) (fun _=>rfl) a b) (closedH.c (cs:=Zaj d.2.2) rfl closedH.n)) (Zfv f a b k l m d o))] [(0,(.vw 0 0 f)),(1,(i64 d.1)),(2,(i64 d.2.1)),(3,(i64 i)),(4,(.ptr 1 0))] [.cells (cel Zd a b),.cells (Zaj d.2.2)] (AWP.seq ?_)
 obtain⟨g,p,hF⟩:=bindb hF
 refine AWP.rg [(4,.callC Tryz.func177 [] (closedH.c (Zz (row:=Zd) (fun _=>rfl) a b) (closedH.c (cs:=Zaj d.2.2) rfl closedH.n)) (closedH.c (Zz (row:=Zd) (fun _=>rfl) a b) (closedH.c (cs:=Zaj g.2.2) rfl closedH.n)) (Zfv f a b d.2.1 i d.2.2 g p))] [(0,(.vw 0 0 f)),(1,(i64 d.1)),(2,(i64 g.1)),(4,(.ptr 1 0))] [.cells (cel Zd a b),.cells (Zaj g.2.2)] (AWP.seq ?_)
 obtain⟨j,q,hF⟩:=bindb hF
 refine AWP.rg [(4,.callC Tryz.func177 [] (closedH.c (Zz (row:=Zd) (fun _=>rfl) a b) (closedH.c (cs:=Zaj g.2.2) rfl closedH.n)) (closedH.c (Zz (row:=Zd) (fun _=>rfl) a b) (closedH.c (cs:=Zaj j.2.2) rfl closedH.n)) (Zfv f a b d.1 g.1 g.2.2 j q))] [(2,(i64 j.2.1))] [.cells (cel Zd a b),.cells (Zaj j.2.2)] (AWP.seq (AWP.rg0 [] [(10,(i64 j.2.1))] (AWP.ret ?_)))
 have hr:=someb hF
 subst hr
 exact(FnQ.f0 2 (.inr rfl))
def Ziu (a:(List Int)) (b:List Value) (r:(Int × Int)):PV→List Blk→Prop:=fun p K=>p=(i64 r.1)∧K=[.cells (cel Zd a b),.cells (Zaj r.2)]
theorem Zd6 (f:Nat) (a:(List Int)) (b:List Value) (d:Int) (g:Int) (r:(Int × Int)) (hF:Zas f a d g=some r):ACall Tryz.prog glob 174 [(.vw 0 0 f),(i64 d),(.ptr 1 0)] [.cells (cel Zd a b),.cells (Zaj g)] (Ziu a b r):=by
 refine ACall.body Tryz.func174 rfl (by kernel_rfl) ?_
 unfold Zas at hF
 refine AWP.seq (AWP.rg0 [] [(0,(.vw 0 0 f)),(1,(i64 d)),(2,(.ptr 1 0))] (AWP.seq ?_))
 obtain⟨i,j,hF⟩:=bindb hF
 refine AWP.rg [(7,.callC Tryz.func175 [] (closedH.c (Zz (row:=Zd) (fun _=>rfl) a b) (closedH.c (cs:=Zaj g) rfl closedH.n)) (closedH.c (Zz (row:=Zd) (fun _=>rfl) a b) (closedH.c (cs:=Zaj i.2) rfl closedH.n)) (Zh4 f a b (ZI (d - (1:Int))) d (ZI (d + (1:Int))) g i j))] [(6,(i64 i.1))] [.cells (cel Zd a b),.cells (Zaj i.2)] (AWP.ret ?_)
 have hr:=someb hF
 subst hr
 exact(FnQ.f0 2 (.inr rfl))
end Go.AM

/- Parts of a proof, printed short. No condition. -/
import Derived.Test.YtkeeaccnnljimaaGreatDoorProg
import Derived.Test.YtkeeaccnnljimaaGreatDoorImQ2
set_option maxRecDepth 100000
namespace Go.AM
open Go
structure Arr5 (α:Type) where
 x0:α
 x1:α
 x2:α
 x3:α
 x4:α
def Arr5.get {α:Type} (a:Arr5 α) (i:Int):α:=if i=0 then a.x0 else if i=1 then a.x1 else if i=2 then a.x2 else if i=3 then a.x3 else a.x4
def Arr5.set {α:Type} (a:Arr5 α) (i:Int) (v:α):Arr5 α:=if i=0 then { a with x0:=v } else if i=1 then { a with x1:=v } else if i=2 then { a with x2:=v } else if i=3 then { a with x3:=v } else { a with x4:=v }
def Zsi (x:(Arr5 Int)):List PV:=[.sc (.int .u32 x.x0),.sc (.int .u32 x.x1),.sc (.int .u32 x.x2),.sc (.int .u32 x.x3),.sc (.int .u32 x.x4)]
def Zzb (x:(Arr5 Int)):List Value:=[.int .u32 x.x0,.int .u32 x.x1,.int .u32 x.x2,.int .u32 x.x3,.int .u32 x.x4]
def Zjh (x:(Arr5 Int)):PV:=.sc (.agg ⟨Zzb x⟩)
def Zzc (x:(List Int)):List PV:=[.sl 1 (List.map Zag x)]
def Zrf (x:(List Int)):Prop:=x.length≤9223372036854775807∧∀ y∈x,Zr6 y
structure Zb where
 Lo:Int
 Hi:Int
abbrev ZB:=Arr5 Zb
abbrev ZL:=List (Arr5 Zb)
def Zi (x:Zb):List PV:=[.sc (.int .u32 x.Lo),.sc (.int .u32 x.Hi)]
def Zgq (x:Zb):Prop:=Zo4 x.Lo∧Zo4 x.Hi∧True
def Zv8 (x:Zb):List Value:=[.int .u32 x.Lo,.int .u32 x.Hi]
def Zlq (x:Zb):PV:=.sc (.agg ⟨Zv8 x⟩)
def Zdj (x y:Zb):Bool:=((x.Lo == y.Lo) && ((x.Hi == y.Hi) && true))
def Zn:Zb:=Zb.mk (0:Int) (0:Int)
def Za (x:(Arr5 Zb)):List PV:=[.sc (.int .u32 x.x0.Lo),.sc (.int .u32 x.x0.Hi),.sc (.int .u32 x.x1.Lo),.sc (.int .u32 x.x1.Hi),.sc (.int .u32 x.x2.Lo),.sc (.int .u32 x.x2.Hi),.sc (.int .u32 x.x3.Lo),.sc (.int .u32 x.x3.Hi),.sc (.int .u32 x.x4.Lo),.sc (.int .u32 x.x4.Hi)]
def Zg4 (x:(Arr5 Zb)):Prop:=Zgq x.x0∧Zgq x.x1∧Zgq x.x2∧Zgq x.x3∧Zgq x.x4∧True
def Zsj (x:(Arr5 Zb)):List Value:=[.int .u32 x.x0.Lo,.int .u32 x.x0.Hi,.int .u32 x.x1.Lo,.int .u32 x.x1.Hi,.int .u32 x.x2.Lo,.int .u32 x.x2.Hi,.int .u32 x.x3.Lo,.int .u32 x.x3.Hi,.int .u32 x.x4.Lo,.int .u32 x.x4.Hi]
def Zt (x:(Arr5 Zb)):PV:=.sc (.agg ⟨Zsj x⟩)
def Zfy (x y:(Arr5 Zb)):Bool:=((Zdj x.x0 y.x0) && ((Zdj x.x1 y.x1) && ((Zdj x.x2 y.x2) && ((Zdj x.x3 y.x3) && ((Zdj x.x4 y.x4) && true)))))
def Zo:(Arr5 Zb):=Arr5.mk Zn Zn Zn Zn Zn
structure Zk where
 From:(Arr5 Zb)
 To:(Arr5 Zb)
def Zd (x:Zk):List PV:=[.sc (.int .u32 x.From.x0.Lo),.sc (.int .u32 x.From.x0.Hi),.sc (.int .u32 x.From.x1.Lo),.sc (.int .u32 x.From.x1.Hi),.sc (.int .u32 x.From.x2.Lo),.sc (.int .u32 x.From.x2.Hi),.sc (.int .u32 x.From.x3.Lo),.sc (.int .u32 x.From.x3.Hi),.sc (.int .u32 x.From.x4.Lo),.sc (.int .u32 x.From.x4.Hi),.sc (.int .u32 x.To.x0.Lo),.sc (.int .u32 x.To.x0.Hi),.sc (.int .u32 x.To.x1.Lo),.sc (.int .u32 x.To.x1.Hi),.sc (.int .u32 x.To.x2.Lo),.sc (.int .u32 x.To.x2.Hi),.sc (.int .u32 x.To.x3.Lo),.sc (.int .u32 x.To.x3.Hi),.sc (.int .u32 x.To.x4.Lo),.sc (.int .u32 x.To.x4.Hi)]
def Zmw (x:Zk):Prop:=Zg4 x.From∧Zg4 x.To∧True
def Zxd (x:Zk):List Value:=[.int .u32 x.From.x0.Lo,.int .u32 x.From.x0.Hi,.int .u32 x.From.x1.Lo,.int .u32 x.From.x1.Hi,.int .u32 x.From.x2.Lo,.int .u32 x.From.x2.Hi,.int .u32 x.From.x3.Lo,.int .u32 x.From.x3.Hi,.int .u32 x.From.x4.Lo,.int .u32 x.From.x4.Hi,.int .u32 x.To.x0.Lo,.int .u32 x.To.x0.Hi,.int .u32 x.To.x1.Lo,.int .u32 x.To.x1.Hi,.int .u32 x.To.x2.Lo,.int .u32 x.To.x2.Hi,.int .u32 x.To.x3.Lo,.int .u32 x.To.x3.Hi,.int .u32 x.To.x4.Lo,.int .u32 x.To.x4.Hi]
def Zhy (x:Zk):PV:=.sc (.agg ⟨Zxd x⟩)
def Zeq:Zk:=Zk.mk Zo Zo
def Ztn (x:(List Zk)):List PV:=[.sl 20 (List.map Zd x)]
def Zog (x:(List Zk)):Prop:=x.length≤9223372036854775807∧∀ y∈x,Zmw y
structure Zsk where
 Src:Int
 Dst:Int
 Proto:Int
 SrcPort:Int
 DstPort:Int
structure Zh where
 f_l:(List Int)
 f_i:Int
def Zj (x:Zh):List PV:=[.sl 1 (List.map Zag x.f_l),.sc (.int .i64 x.f_i)]
structure Za6 where
 Addr:Int
 Bits:Int
def Zc6 (x:Za6):List PV:=[.sc (.int .u32 x.Addr),.sc (.int .i64 x.Bits)]
def Zvi (x:Za6):List Value:=[.int .u32 x.Addr,.int .i64 x.Bits]
def Zk4 (x:Za6):PV:=.sc (.agg ⟨Zvi x⟩)
def Zv9:Za6:=Za6.mk (0:Int) (0:Int)
def Zf (x:(List (Arr5 Zb))):List PV:=[.sl 10 (List.map Za x)]
def Zk6 (x:(List (Arr5 Zb))):Prop:=x.length≤9223372036854775807∧∀ y∈x,Zg4 y
structure Zl where
 f_err:Int
def Zm (x:Zl):List PV:=[.sc (.int .i64 x.f_err)]
def Zce:Zl:=Zl.mk (0:Int)
structure Zg where
 f_values:Zb
 f_rest:(List (Arr5 Zb))
def Ze (x:Zg):List PV:=[.sc (.int .u32 x.f_values.Lo),.sc (.int .u32 x.f_values.Hi),.sl 10 (List.map Za x.f_rest)]
def Zge:Zg:=Zg.mk Zn ([]:(List (Arr5 Zb)))
structure Zp where
 f_failed:Bool
def Zr (x:Zp):List PV:=[.sc (.bool x.f_failed)]
structure Z13 where
 Match:(Arr5 Zb)
 Addr:Int
 Ports:Zb
def Za2:(Arr5 Int):=Arr5.mk 4294967295 4294967295 255 65535 65535
abbrev ZI:Int→Int:=IntKind.wrap .i64
end Go.AM
set_option maxRecDepth 100000
namespace Go.AM
open Go
def Zkq:Option Bool:=
 some true
def Zju (a:(List Int)):Option Zh:=
 some (Zh.mk a (0:Int))
def Zhk (b:Int) (a:Int):Option Int:=
 if (IntKind.wrap .u64 a) ≠ 0 then
 some (IntKind.wrap .i64 (Int.tmod (IntKind.wrap .u64 b) (IntKind.wrap .u64 a)))
 else none
def Zu (a:Zh) (b:Int):Option (Int × Zh):=
 (some (decide (b≤(1:Int)))).bind fun c=>
 if (c || (decide (a.f_i ≥ (List.length a.f_l:Int))))=true then
  some ((0:Int),a)
 else
  (idx a.f_l (IntKind.wrap .i64 ((IntKind.wrap .i64 (a.f_i + (1:Int))) - (1:Int)))).bind fun d=>
  (Zhk d b).bind fun f=>
  some (f,({ a with f_i:=(IntKind.wrap .i64 (a.f_i + (1:Int))) }:Zh))
def Zga (a:Int):Option Int:=
 ((if (a == (0:Int))=true then
  some (a == (0:Int))
 else
  some (a == (1:Int))).bind fun b=>
  if b=true then
   some (.inr (4294967295:Int))
  else
   if (a == (2:Int))=true then
    some (.inr (255:Int))
   else
    (if (a == (3:Int))=true then
     some (a == (3:Int))
    else
     some (a == (4:Int))).bind fun c=>
     if c=true then
      some (.inr (65535:Int))
     else
      some (.inl ())).bind fun(d:(Unit ⊕ Int))=>
 match d with
 | .inl ()=>
   some (0:Int)
 | .inr f=>
   some f
def Zhi:Nat→ZB→Int→Option ZB
 | 0,_,_=>none
 | c+1,b,a=>
  if (decide (a<(5:Int)))=true then
   (Zga a).bind fun d=>
   if 0≤a∧a<5 then
   Zhi c (Arr5.set b a ({ (Arr5.get b a) with Hi:=d }:Zb)) (IntKind.wrap .i64 (a + (1:Int)))
   else none
  else
   some b
def Zgm:Option ZB:=
 (Zhi fuel Zo (0:Int)).bind fun a=>
  some a
def Zcm (c:Zh) (a:Int):Option (Int × Zh):=
 (Zu c (17:Int)).bind fun b=>
 (idx [(0:Int),(1:Int),(2:Int),(5:Int),(7:Int),(8:Int),(9:Int),(15:Int),(16:Int),(80:Int),(255:Int),(256:Int),(1024:Int),(65535:Int),(IntKind.wrap .u32 (Int.tdiv a (2:Int))),(IntKind.wrap .u32 (a - (1:Int))),a] b.1).bind fun d=>
 some ((iMin d a),b.2)
def Ze5 (a:Int):Option Za6:=
 (Zhk a (6:Int)).bind fun b=>
 (idx [(Za6.mk (167772160:Int) (24:Int)),(Za6.mk (167772416:Int) (24:Int)),(Za6.mk (167772672:Int) (25:Int)),(Za6.mk (167772800:Int) (26:Int)),(Za6.mk (2886729728:Int) (16:Int)),(Za6.mk (3232237321:Int) (32:Int))] b).bind fun c=>
 some c
def Zil (a:Int):Option Int:=
 if 0≤(IntKind.wrap .u64 (IntKind.wrap .i64 ((32:Int) - a))) then
 some (bShl .u64 (1:Int) (IntKind.wrap .u64 (IntKind.wrap .i64 ((32:Int) - a))))
 else none
def Zjv (a:Za6):Option Bool:=
 (some (decide (a.Bits ≥ (0:Int)))).bind fun c=>
 (some (c && (decide (a.Bits≤(32:Int))))).bind fun d=>
 (if d=true then
  (Zil a.Bits).bind fun b=>
  if b ≠ 0 then
  some ((Int.tmod (IntKind.wrap .u64 a.Addr) b) == (0:Int))
  else none
  else some false).bind fun f=>
 some f
def Zhl (a:Za6):Option (Zb × Bool):=
 (Zjv a).bind fun b=>
 if (!b)=true then
  some ((Zb.mk (0:Int) (0:Int)),false)
 else
  (Zil a.Bits).bind fun c=>
  some ((Zb.mk a.Addr (IntKind.wrap .u32 (IntKind.wrap .u64 ((IntKind.wrap .u64 ((IntKind.wrap .u64 a.Addr) + c)) - (1:Int))))),true)
def Zfs (n:Zh):Option (Zk × Zh):=
 (Zgm).bind fun i=>
 (Zu n (2:Int)).bind fun j=>
 (idx [(6:Int),(17:Int)] j.1).bind fun c=>
 (Zu j.2 (2:Int)).bind fun k=>
 (idx [(3405803781:Int),(3405803782:Int)] k.1).bind fun d=>
 (Zcm k.2 (65000:Int)).bind fun a=>
 (Zu a.2 (3:Int)).bind fun f=>
 (Zu f.2 (4:Int)).bind fun b=>
 (Zu b.2 (5:Int)).bind fun l=>
 (Ze5 l.1).bind fun o=>
 (Zhl o).bind fun m=>
 (Zcm l.2 (65000:Int)).bind fun g=>
 some ((Zk.mk ({ ({ ({ i with x2:=(Zb.mk c c) }:ZB) with x1:=(Zb.mk d (IntKind.wrap .u32 (d + (IntKind.wrap .u32 f.1)))) }:ZB) with x4:=(Zb.mk a.1 (IntKind.wrap .u32 (a.1 + (iMin (IntKind.wrap .u32 b.1) (IntKind.wrap .u32 ((65535:Int) - a.1)))))) }:ZB) ({ ({ ({ ({ ({ i with x2:=(Zb.mk c c) }:ZB) with x1:=(Zb.mk d (IntKind.wrap .u32 (d + (IntKind.wrap .u32 f.1)))) }:ZB) with x4:=(Zb.mk a.1 (IntKind.wrap .u32 (a.1 + (iMin (IntKind.wrap .u32 b.1) (IntKind.wrap .u32 ((65535:Int) - a.1)))))) }:ZB) with x1:=(Zb.mk m.1.Lo (IntKind.wrap .u32 (m.1.Lo + (IntKind.wrap .u32 f.1)))) }:ZB) with x4:=(Zb.mk (iMin g.1 (IntKind.wrap .u32 ((65535:Int) - (iMin (IntKind.wrap .u32 b.1) (IntKind.wrap .u32 ((65535:Int) - a.1)))))) (IntKind.wrap .u32 ((iMin g.1 (IntKind.wrap .u32 ((65535:Int) - (iMin (IntKind.wrap .u32 b.1) (IntKind.wrap .u32 ((65535:Int) - a.1)))))) + (iMin (IntKind.wrap .u32 b.1) (IntKind.wrap .u32 ((65535:Int) - a.1)))))) }:ZB)),g.2)
def Zdl (d:Zh) (b:ZB):Option (ZB × Zh):=
 (Zu d (5:Int)).bind fun a=>
 ((Zu a.2 (3:Int)).bind fun c=>
 if (c.1 == (0:Int))=true then
  if 0≤a.1∧a.1<5 then
  if 0≤a.1∧a.1<5 then
  if 0≤a.1∧a.1<5 then
  if 0≤a.1∧a.1<5 then
  some (c.2,(Arr5.set (Arr5.set b a.1 ({ (Arr5.get b a.1) with Lo:=(Arr5.get b a.1).Hi }:Zb)) a.1 ({ (Arr5.get (Arr5.set b a.1 ({ (Arr5.get b a.1) with Lo:=(Arr5.get b a.1).Hi }:Zb)) a.1) with Hi:=(Arr5.get b a.1).Lo }:Zb)))
  else none
  else none
  else none
  else none
 else
  if (c.1 == (1:Int))=true then
   if 0≤a.1∧a.1<5 then
   some (c.2,(Arr5.set b a.1 ({ (Arr5.get b a.1) with Hi:=(4294967295:Int) }:Zb)))
   else none
  else
   if 0≤a.1∧a.1<5 then
   some (c.2,(Arr5.set b a.1 (Zb.mk (1:Int) (0:Int))))
   else none).bind fun f=>
 match f with
 | (g,i)=>
  some (i,g)
def Zb2 (c:Bool):Nat→Zh→(List Zk)→Int→Option (Zh × (List Zk))
 | 0,_,_,_=>none
 | p+1,i,d,j=>
  if (decide (j > (0:Int)))=true then
   ((Zfs i).bind fun a=>
   ((some c).bind fun q=>
   (if q=true then
    (Zu a.2 (6:Int)).bind fun k=>
    some ((k.1 == (5:Int)),k.2)
    else some (false,a.2)).bind fun f=>
   if f.1=true then
    (Zdl f.2 a.1.To).bind fun l=>
    some (l.2,({ a.1 with To:=l.1 }:Zk))
   else
    some (f.2,a.1)).bind fun r=>
   match r with
   | (m,b)=>
    ((some c).bind fun s=>
    (if s=true then
     (Zu m (6:Int)).bind fun n=>
     some ((n.1 == (5:Int)),n.2)
     else some (false,m)).bind fun g=>
    if g.1=true then
     some (g.2,({ ({ b with From:=b.To }:Zk) with To:=b.From }:Zk))
    else
     some (g.2,b)).bind fun t=>
    match t with
    | (u,o)=>
     if List.length d + List.length [o]≤lim then
     some (u,(d++[o]))
     else none).bind fun v=>
   match v with
   | (w,x)=>
    Zb2 c p w x (IntKind.wrap .i64 (j - (1:Int)))
  else
   some (i,d)
def Zfi (b:Zh) (c:Int) (d:Bool):Option ((List Zk) × Zh):=
 (Zu b (IntKind.wrap .i64 (c + (1:Int)))).bind fun a=>
 (Zb2 d fuel a.2 ([]:(List Zk)) a.1).bind fun f=>
 match f with
 | (g,i)=>
  some (i,g)
def Zea (a:(List Zk)):Nat→ZL→Int→Option ZL
 | 0,_,_=>none
 | g+1,c,b=>
  if (decide (b<(List.length a:Int)))=true then
   (idx a b).bind fun d=>
   (idx a b).bind fun f=>
   if List.length c + List.length [d.From,f.To]≤lim then
   Zea a g (c++[d.From,f.To]) (IntKind.wrap .i64 (b + (1:Int)))
   else none
  else
   some c
def Zhm (a:(List Zk)):Option ZL:=
 (Zea a fuel ([]:ZL) (0:Int)).bind fun b=>
  some b
def Zd0 (g:Zh):Option (Int × Zh):=
 (Zu g (5:Int)).bind fun b=>
 if (b.1 == (4:Int))=true then
  (Zu b.2 (6:Int)).bind fun c=>
  (idx [(0:Int),(4294967295:Int),(3405803781:Int),(3325256705:Int),(168296448:Int),(2130706433:Int)] c.1).bind fun i=>
  some (i,c.2)
 else
  (Zu b.2 (6:Int)).bind fun d=>
  (Ze5 d.1).bind fun j=>
  (Zhl j).bind fun a=>
  (Zu d.2 (5:Int)).bind fun f=>
  (idx [a.1.Lo,a.1.Hi,(IntKind.wrap .u32 (a.1.Lo + (5:Int))),(IntKind.wrap .u32 (a.1.Hi + (1:Int))),(IntKind.wrap .u32 (a.1.Lo - (1:Int)))] f.1).bind fun k=>
  some (k,f.2)
def Zhv (a:Zk):Option Zk:=
 some (Zk.mk a.To a.From)
def Zaq (b:ZB):Nat→Int→Option (Unit ⊕ Bool)
 | 0,_=>none
 | c+1,a=>
  if (decide (a<(5:Int)))=true then
   if 0≤a∧a<5 then
   (some (decide ((Arr5.get b a).Lo > (Arr5.get b a).Hi))).bind fun d=>
   (if d=true then some true else
    if 0≤a∧a<5 then
    some (decide ((Arr5.get b a).Hi > (Arr5.get Za2 a)))
    else none
    ).bind fun f=>
   if f=true then
    some (.inr false)
   else
    Zaq b c (IntKind.wrap .i64 (a + (1:Int)))
   else none
  else
   some (.inl ())
def Zgl (a:ZB):Option Bool:=
 (Zaq a fuel (0:Int)).bind fun(b:(Unit ⊕ Bool))=>
 match b with
 | .inl ()=>
   some true
 | .inr c=>
   some c
def Zcw (b:Zk):Nat→Int→Option (Unit ⊕ Bool)
 | 0,_=>none
 | c+1,a=>
  if (decide (a<(5:Int)))=true then
   if 0≤a∧a<5 then
   if 0≤a∧a<5 then
   if 0≤a∧a<5 then
   if ((IntKind.wrap .u32 ((Arr5.get b.From a).Hi - (Arr5.get b.From a).Lo)) != (IntKind.wrap .u32 ((Arr5.get b.To a).Hi - (Arr5.get b.To a).Lo)))=true then
    some (.inr false)
   else
    Zcw b c (IntKind.wrap .i64 (a + (1:Int)))
   else none
   else none
   else none
  else
   some (.inl ())
def Zc2 (a:Zk):Option Bool:=
 (Zgl a.From).bind fun b=>
 (some (!b)).bind fun c=>
 (if c=true then some true else
  (Zgl a.To).bind fun d=>
  some (!d)
  ).bind fun f=>
 if f=true then
  some false
 else
  (Zcw a fuel (0:Int)).bind fun(g:(Unit ⊕ Bool))=>
  match g with
  | .inl ()=>
    some true
  | .inr i=>
    some i
def Zab (b:ZB):Nat→Int→Option (Unit ⊕ Bool)
 | 0,_=>none
 | c+1,a=>
  if (decide (a<(5:Int)))=true then
   if 0≤a∧a<5 then
   if 0≤a∧a<5 then
   (some (decide ((Arr5.get b a).Lo > (Arr5.get b a).Hi))).bind fun d=>
   (if d=true then some true else
    if 0≤a∧a<5 then
    (Zga a).bind fun f=>
    some (decide ((Arr5.get b a).Hi > f))
    else none
    ).bind fun g=>
   if g=true then
    some (.inr false)
   else
    Zab b c (IntKind.wrap .i64 (a + (1:Int)))
   else none
   else none
  else
   some (.inl ())
def Zcn (a:ZB):Option Bool:=
 (Zab a fuel (0:Int)).bind fun(b:(Unit ⊕ Bool))=>
 match b with
 | .inl ()=>
   some true
 | .inr c=>
   some c
def Zcx (b:Zk):Nat→Int→Option (Unit ⊕ Bool)
 | 0,_=>none
 | c+1,a=>
  if (decide (a<(5:Int)))=true then
   if 0≤a∧a<5 then
   if 0≤a∧a<5 then
   if 0≤a∧a<5 then
   if 0≤a∧a<5 then
   if ((IntKind.wrap .u32 ((Arr5.get b.From a).Hi - (Arr5.get b.From a).Lo)) != (IntKind.wrap .u32 ((Arr5.get b.To a).Hi - (Arr5.get b.To a).Lo)))=true then
    some (.inr false)
   else
    Zcx b c (IntKind.wrap .i64 (a + (1:Int)))
   else none
   else none
   else none
   else none
  else
   some (.inl ())
def Zek (a:Zk):Option Bool:=
 (Zcx a fuel (0:Int)).bind fun(b:(Unit ⊕ Bool))=>
 match b with
 | .inl ()=>
   (Zcn a.From).bind fun c=>
   (some c).bind fun d=>
   (if d=true then
    (Zcn a.To).bind fun f=>
    some f
    else some false).bind fun g=>
   some g
 | .inr i=>
   some i
def Zb3 (b:ZB) (c:ZB):Nat→ZB→Int→Option ZB
 | 0,_,_=>none
 | f+1,d,a=>
  if (decide (a<(5:Int)))=true then
   if 0≤a∧a<5 then
   if 0≤a∧a<5 then
   if 0≤a∧a<5 then
   if 0≤a∧a<5 then
   if 0≤a∧a<5 then
   Zb3 b c f (Arr5.set d a (Zb.mk (iMax ((Arr5.get b a).Lo) ((Arr5.get c a).Lo)) (iMin ((Arr5.get b a).Hi) ((Arr5.get c a).Hi)))) (IntKind.wrap .i64 (a + (1:Int)))
   else none
   else none
   else none
   else none
   else none
  else
   some d
def Zfj (a:ZB) (b:ZB):Option (ZB × Bool):=
 (Zb3 a b fuel Zo (0:Int)).bind fun c=>
  (Zcn a).bind fun d=>
  (some (!d)).bind fun f=>
  (if f=true then some true else
   (Zcn b).bind fun g=>
   some (!g)
   ).bind fun i=>
  (some i).bind fun j=>
  (if j=true then some true else
   (Zcn c).bind fun k=>
   some (!k)
   ).bind fun l=>
  if l=true then
   some ((Arr5.mk Zn Zn Zn Zn Zn),false)
  else
   some (c,true)
def Zd1 (c:ZB) (d:ZB):Nat→ZB→Int→Option ZB
 | 0,_,_=>none
 | f+1,b,a=>
  if (decide (a<(5:Int)))=true then
   if 0≤a∧a<5 then
   if 0≤a∧a<5 then
   if 0≤a∧a<5 then
   if 0≤a∧a<5 then
   if 0≤a∧a<5 then
   if 0≤a∧a<5 then
   if 0≤a∧a<5 then
   Zd1 c d f (Arr5.set b a (Zb.mk (IntKind.wrap .u32 ((IntKind.wrap .u32 ((Arr5.get b a).Lo - (Arr5.get c a).Lo)) + (Arr5.get d a).Lo)) (IntKind.wrap .u32 ((IntKind.wrap .u32 ((Arr5.get b a).Hi - (Arr5.get c a).Lo)) + (Arr5.get d a).Lo)))) (IntKind.wrap .i64 (a + (1:Int)))
   else none
   else none
   else none
   else none
   else none
   else none
   else none
  else
   some b
def Zg5 (a:ZB) (b:ZB) (c:ZB):Option ZB:=
 (Zd1 b c fuel a (0:Int)).bind fun d=>
  some d
def Zdc (g:Zh):Option (Zb × Zh):=
 (Zu g (4:Int)).bind fun a=>
 if (a.1 == (0:Int))=true then
  (Zu a.2 (6:Int)).bind fun f=>
  (Ze5 f.1).bind fun i=>
  (Zhl i).bind fun j=>
  some (j.1,f.2)
 else
  if (a.1 == (1:Int))=true then
   (Zd0 a.2).bind fun b=>
   (Zd0 b.2).bind fun c=>
   some ((Zb.mk (iMin b.1 c.1) (iMax b.1 c.1)),c.2)
  else
   if (a.1 == (2:Int))=true then
    (Zd0 a.2).bind fun d=>
    some ((Zb.mk d.1 d.1),d.2)
   else
    some ((Zb.mk (0:Int) (4294967295:Int)),a.2)
def Zel (d:Zh) (c:Int):Option (Zb × Zh):=
 (Zcm d c).bind fun a=>
 (Zcm a.2 c).bind fun b=>
 some ((Zb.mk (iMin a.1 b.1) (iMax a.1 b.1)),b.2)
def Zco:Nat→Zh→ZB→Int→Option (Zh × ZB)
 | 0,_,_,_=>none
 | m+1,c,b,d=>
  if (decide (d > (0:Int)))=true then
   ((Zu c (5:Int)).bind fun a=>
   if (a.1 == (0:Int))=true then
    (Zdc a.2).bind fun f=>
    some (f.2,({ b with x0:=f.1 }:ZB))
   else
    if (a.1 == (1:Int))=true then
     (Zdc a.2).bind fun g=>
     some (g.2,({ b with x1:=g.1 }:ZB))
    else
     if (a.1 == (2:Int))=true then
      (Zu a.2 (6:Int)).bind fun i=>
      (idx [(6:Int),(17:Int),(1:Int),(0:Int),(7:Int),(255:Int)] i.1).bind fun j=>
      some (i.2,({ b with x2:=(Zb.mk j j) }:ZB))
     else
      if (a.1 == (3:Int))=true then
       (Zel a.2 (65535:Int)).bind fun k=>
       some (k.2,({ b with x3:=k.1 }:ZB))
      else
       (Zel a.2 (65535:Int)).bind fun l=>
       some (l.2,({ b with x4:=l.1 }:ZB))).bind fun n=>
   match n with
   | (o,p)=>
    Zco m o p (IntKind.wrap .i64 (d - (1:Int)))
  else
   some (c,b)
def Zgf (b:Zh):Option (ZB × Zh):=
 (Zgm).bind fun c=>
 (Zu b (3:Int)).bind fun a=>
 (Zco fuel a.2 c (IntKind.wrap .i64 ((1:Int) + a.1))).bind fun d=>
 match d with
 | (f,g)=>
  some (g,f)
def Zb4 (d:Bool):Nat→Zh→ZL→Int→Option (Zh × ZL)
 | 0,_,_,_=>none
 | l+1,f,b,g=>
  if (decide (g > (0:Int)))=true then
   ((Zgf f).bind fun a=>
   ((some d).bind fun m=>
   (if m=true then
    (Zu a.2 (8:Int)).bind fun i=>
    some ((i.1 == (7:Int)),i.2)
    else some (false,a.2)).bind fun c=>
   if c.1=true then
    (Zdl c.2 a.1).bind fun j=>
    some (j.2,j.1)
   else
    some (c.2,a.1)).bind fun n=>
   match n with
   | (o,k)=>
    if List.length b + List.length [k]≤lim then
    some (o,(b++[k]))
    else none).bind fun p=>
   match p with
   | (q,r)=>
    Zb4 d l q r (IntKind.wrap .i64 (g - (1:Int)))
  else
   some (f,b)
def Zem (b:Zh) (c:Int) (d:Bool):Option (ZL × Zh):=
 (Zu b (IntKind.wrap .i64 (c + (1:Int)))).bind fun a=>
 (Zb4 d fuel a.2 ([]:ZL) a.1).bind fun f=>
 match f with
 | (g,i)=>
  some (i,g)
def Zg6 (c:Int) (a:Bool) (b:Bool):Option Bool:=
 if (c == (0:Int))=true then
  (some a).bind fun d=>
  some (d || b)
 else
  if (c == (1:Int))=true then
   (some a).bind fun f=>
   some (f && b)
  else
   if (c == (2:Int))=true then
    (some a).bind fun g=>
    some (g && (!b))
   else
    some (!(a == b))
def Zhn (b:Int) (a:Bool) (c:Bool):Option Bool:=
 if (b == (1:Int))=true then
  (some (!a)).bind fun d=>
  some (d || (!c))
 else
  if (b == (2:Int))=true then
   some (!a)
  else
   (some (!a)).bind fun f=>
   some (f && (!c))
def Zdq (b:ZL) (a:Int):Nat→(List Zb)→Int→Option (List Zb)
 | 0,_,_=>none
 | g+1,c,d=>
  if (decide (d<(List.length b:Int)))=true then
   (idx b d).bind fun f=>
   if 0≤a∧a<5 then
   if List.length c + List.length [(Arr5.get f a)]≤lim then
   Zdq b a g (c++[(Arr5.get f a)]) (IntKind.wrap .i64 (d + (1:Int)))
   else none
   else none
  else
   some c
def Zdr (b:ZL) (a:Int):Nat→(List Zb)→Int→Option (List Zb)
 | 0,_,_=>none
 | g+1,c,d=>
  if (decide (d<(List.length b:Int)))=true then
   (idx b d).bind fun f=>
   if 0≤a∧a<5 then
   if List.length c + List.length [(Arr5.get f a)]≤lim then
   Zdr b a g (c++[(Arr5.get f a)]) (IntKind.wrap .i64 (d + (1:Int)))
   else none
   else none
  else
   some c
def Zgr (b:ZL) (c:ZL) (a:Int):Option (List Zb):=
 (Zdq b a fuel ([]:(List Zb)) (0:Int)).bind fun d=>
  (Zdr c a fuel d (0:Int)).bind fun f=>
   some f
def Zds (b:(List Int)) (c:Int):Nat→Int→Option Int
 | 0,_=>none
 | d+1,a=>
  (some (decide (a<(List.length b:Int)))).bind fun f=>
  (if f=true then
   (idx b a).bind fun g=>
   some (decide (g<c))
   else some false).bind fun i=>
  if i=true then
   Zds b c d (IntKind.wrap .i64 (a + (1:Int)))
  else
   some a
def Zfm (a:(List Int)) (c:Int) (d:Int):Option (List Int):=
 if (decide (c > (IntKind.wrap .u64 d)))=true then
  some a
 else
  (Zds a c fuel (0:Int)).bind fun b=>
   (some (decide (b<(List.length a:Int)))).bind fun f=>
   (if f=true then
    (idx a b).bind fun g=>
    some (g == c)
    else some false).bind fun i=>
   if i=true then
    some a
   else
    if 0≤(0:Int)∧(0:Int)≤b∧b≤(List.length a:Int) then
    if List.length ([]:(List Int)) + List.length (List.drop (Int.toNat (0:Int)) (List.take (Int.toNat b) a))≤lim then
    if List.length (([]:(List Int))++(List.drop (Int.toNat (0:Int)) (List.take (Int.toNat b) a))) + List.length [c]≤lim then
    if 0≤b∧b≤(List.length a:Int)∧(List.length a:Int)≤(List.length a:Int) then
    if List.length ((([]:(List Int))++(List.drop (Int.toNat (0:Int)) (List.take (Int.toNat b) a)))++[c]) + List.length (List.drop (Int.toNat b) (List.take (Int.toNat (List.length a:Int)) a))≤lim then
    some (((([]:(List Int))++(List.drop (Int.toNat (0:Int)) (List.take (Int.toNat b) a)))++[c])++(List.drop (Int.toNat b) (List.take (Int.toNat (List.length a:Int)) a)))
    else none
    else none
    else none
    else none
    else none
def Zdt (a:(List Zb)) (c:Int):Nat→(List Int)→Int→Option (List Int)
 | 0,_,_=>none
 | f+1,d,b=>
  if (decide (b<(List.length a:Int)))=true then
   ((idx a b).bind fun g=>
   (idx a b).bind fun i=>
   if (decide (g.Lo≤i.Hi))=true then
    (idx a b).bind fun j=>
    (Zfm d (IntKind.wrap .u64 j.Lo) c).bind fun k=>
    (idx a b).bind fun l=>
    (Zfm k (IntKind.wrap .u64 ((IntKind.wrap .u64 l.Hi) + (1:Int))) c).bind fun m=>
    some m
   else
    some d).bind fun n=>
    Zdt a c f n (IntKind.wrap .i64 (b + (1:Int)))
  else
   some d
def Zgs (a:(List Zb)) (b:Int):Option (List Int):=
 (Zdt a b fuel [(0:Int)] (0:Int)).bind fun c=>
  some c
def Ze6 (b:ZL) (a:Int) (f:Int):Nat→ZL→Int→Option ZL
 | 0,_,_=>none
 | i+1,d,c=>
  if (decide (c<(List.length b:Int)))=true then
   ((idx b c).bind fun j=>
   if 0≤a∧a<5 then
   (some (decide ((IntKind.wrap .u64 (Arr5.get j a).Lo)≤f))).bind fun k=>
   (if k=true then
    (idx b c).bind fun l=>
    if 0≤a∧a<5 then
    some (decide (f≤(IntKind.wrap .u64 (Arr5.get l a).Hi)))
    else none
    else some false).bind fun m=>
   if m=true then
    (idx b c).bind fun g=>
    if List.length d + List.length [g]≤lim then
    some (d++[g])
    else none
   else
    some d
   else none).bind fun n=>
    Ze6 b a f i n (IntKind.wrap .i64 (c + (1:Int)))
  else
   some d
def Zho (a:ZL) (b:Int) (c:Int):Option ZL:=
 (Ze6 a b c fuel ([]:ZL) (0:Int)).bind fun d=>
  some d
def Zeb (b:ZL) (c:ZL):Nat→Int→Option (Unit ⊕ Bool)
 | 0,_=>none
 | d+1,a=>
  if (decide (a<(List.length b:Int)))=true then
   (idx b a).bind fun f=>
   (idx c a).bind fun g=>
   if (!(Zfy f g))=true then
    some (.inr false)
   else
    Zeb b c d (IntKind.wrap .i64 (a + (1:Int)))
  else
   some (.inl ())
def Zfn (a:ZL) (b:ZL):Option Bool:=
 if ((List.length a:Int) != (List.length b:Int))=true then
  some false
 else
  (Zeb a b fuel (0:Int)).bind fun(c:(Unit ⊕ Bool))=>
  match c with
  | .inl ()=>
    some true
  | .inr d=>
    some d
def Zd2 (a:Int) (d:Int):Nat→ZL→Int→Option ZL
 | 0,_,_=>none
 | g+1,b,c=>
  if (decide (c<(List.length b:Int)))=true then
   (idx b c).bind fun f=>
   if 0≤a∧a<5 then
   Zd2 a d g (List.set b (Int.toNat c) (Arr5.set f a ({ (Arr5.get f a) with Hi:=(IntKind.wrap .u32 d) }:Zb))) (IntKind.wrap .i64 (c + (1:Int)))
   else none
  else
   some b
def Zc9 (a:Int) (g:(List Int)) (i:Int) (b:Int) (c:ZL):Nat→ZL→Int→Option ZL
 | 0,_,_=>none
 | l+1,d,f=>
  if (decide (f<(List.length c:Int)))=true then
   (idx c f).bind fun j=>
   (idx g i).bind fun k=>
   if 0≤a∧a<5 then
   if List.length d + List.length [(Arr5.set j a (Zb.mk (IntKind.wrap .u32 k) (IntKind.wrap .u32 b)))]≤lim then
   Zc9 a g i b c l (d++[(Arr5.set j a (Zb.mk (IntKind.wrap .u32 k) (IntKind.wrap .u32 b)))]) (IntKind.wrap .i64 (f + (1:Int)))
   else none
   else none
  else
   some d
def Zd3 (g:ZL) (i:ZL) (j:Int) (b:Int) (k:ZL→ZL→Int→Int→Option ZL) (c:(List Int)):Nat→ZL→ZL→Int→Option ZL
 | 0,_,_,_=>none
 | n+1,f,l,a=>
  if (decide (a<(List.length c:Int)))=true then
   ((Zga b).bind fun o=>
   (if (decide ((IntKind.wrap .i64 (a + (1:Int)))<(List.length c:Int)))=true then
    (idx c (IntKind.wrap .i64 (a + (1:Int)))).bind fun p=>
    some (IntKind.wrap .u64 (p - (1:Int)))
   else
    some (IntKind.wrap .u64 o)).bind fun m=>
    (idx c a).bind fun q=>
    (Zho g b q).bind fun r=>
    (idx c a).bind fun s=>
    (Zho i b s).bind fun t=>
    (k r t j (IntKind.wrap .i64 (b + (1:Int)))).bind fun d=>
    (some (decide (a > (0:Int)))).bind fun u=>
    (some (u && (decide ((List.length d:Int) > (0:Int))))).bind fun v=>
    (if v=true then
     (Zfn d l).bind fun w=>
     some w
     else some false).bind fun x=>
    if x=true then
     (Zd2 b m fuel f (IntKind.wrap .i64 ((List.length f:Int) - (List.length d:Int)))).bind fun y=>
      some (y,l)
    else
     (Zc9 b c a m d fuel f (0:Int)).bind fun z=>
      some (z,d)).bind fun a0=>
   match a0 with
   | (a1,a2)=>
    Zd3 g i j b k c n a1 a2 (IntKind.wrap .i64 (a + (1:Int)))
  else
   some f
def Zbv:Nat→ZL→ZL→Int→Int→Option ZL
 | 0,_,_,_,_=>none
 | nr+1,a,b,d,c=>
  if (c == (5:Int))=true then
   (Zg6 d (decide ((List.length a:Int) > (0:Int))) (decide ((List.length b:Int) > (0:Int)))).bind fun f=>
   if f=true then
    some [(Arr5.mk Zn Zn Zn Zn Zn)]
   else
    some ([]:ZL)
  else
   (Zhn d (decide ((List.length a:Int) > (0:Int))) (decide ((List.length b:Int) > (0:Int)))).bind fun g=>
   if g=true then
    some ([]:ZL)
   else
    (Zgr a b c).bind fun i=>
    (Zga c).bind fun j=>
    (Zgs i j).bind fun k=>
    (Zd3 a b d c (Zbv nr) k fuel ([]:ZL) ([]:ZL) (0:Int)).bind fun l=>
     some l
def Zfa (a:ZL):Option (ZL × Int):=
 if (decide ((List.length a:Int) > (4096:Int)))=true then
  some (([]:ZL),(3:Int))
 else
  some (a,(0:Int))
def Zec (b:ZL):Nat→ZL→Int→Option (ZL ⊕ (ZL × Int))
 | 0,_,_=>none
 | f+1,c,a=>
  if (decide (a<(List.length b:Int)))=true then
   ((idx b a).bind fun g=>
   (Zcn g).bind fun i=>
   if (!i)=true then
    some (.inl c)
   else
    if 0≤a∧a≤(IntKind.wrap .i64 (a + (1:Int)))∧(IntKind.wrap .i64 (a + (1:Int)))≤(List.length b:Int) then
    (Zbv fuel c (List.drop (Int.toNat a) (List.take (Int.toNat (IntKind.wrap .i64 (a + (1:Int)))) b)) (0:Int) (0:Int)).bind fun j=>
    (Zfa j).bind fun d=>
    if (d.2 != (0:Int))=true then
     some (.inr (([]:ZL),d.2))
    else
     some (.inl d.1)
    else none).bind fun(k:(ZL ⊕ (ZL × Int)))=>
   match k with
   | .inl l=>
     Zec b f l (IntKind.wrap .i64 (a + (1:Int)))
   | .inr m=>
     some (.inr m)
  else
   some (.inl c)
def Zgn (a:ZL):Option (ZL × Int):=
 (Zec a fuel ([]:ZL) (0:Int)).bind fun(b:(ZL ⊕ (ZL × Int)))=>
 match b with
 | .inl c=>
   some (c,(0:Int))
 | .inr d=>
   some d
def Zgg (b:Zh) (c:Int):Option (ZL × Zh):=
 (Zem b c false).bind fun a=>
 (Zgn a.1).bind fun d=>
 some (d.1,a.2)
def Zed (a:(List Zk)):Nat→ZL→Int→Option ZL
 | 0,_,_=>none
 | g+1,b,c=>
  if (decide (c<(List.length a:Int)))=true then
   ((idx a c).bind fun d=>
   ((Zc2 d).bind fun i=>
   if (!i)=true then
    some ({ d with From:=(Arr5.mk (Zb.mk (1:Int) (0:Int)) Zn Zn Zn Zn) }:Zk)
   else
    some d).bind fun f=>
    if List.length b + List.length [f.From]≤lim then
    some (b++[f.From])
    else none).bind fun j=>
    Zed a g j (IntKind.wrap .i64 (c + (1:Int)))
  else
   some b
def Zgo (a:(List Zk)):Option ZL:=
 (Zed a fuel ([]:ZL) (0:Int)).bind fun b=>
  some b
def Zc3 (a:ZB):Option Bool:=
 (Zgl a).bind fun b=>
 some (!b)
def Z7 (b:Nat) (c:ZL):Nat→Int→Option (Unit ⊕ Int)
 | 0,_=>none
 | d+1,a=>
  if (decide (a<(b:Int)))=true then
   (idxn b c a).bind fun f=>
   (Zc3 f).bind fun g=>
   if g=true then
    some (.inr a)
   else
    Z7 b c d (IntKind.wrap .i64 (a + (1:Int)))
  else
   some (.inl ())
def Zbm (a:Nat) (b:ZL):Option Int:=
 (Z7 a b fuel (0:Int)).bind fun(c:(Unit ⊕ Int))=>
 match c with
 | .inl ()=>
   some (-1:Int)
 | .inr d=>
   some d
def Z6 (c:Nat):Nat→ZL→Int→Int→Option (ZL × Int)
 | 0,_,_,_=>none
 | g+1,a,b,d=>
  if (decide (d<(c:Int)))=true then
   ((idxn c a d).bind fun f=>
   (Zc3 f).bind fun i=>
   if (!i)=true then
    (idxn c a b).bind fun _=>
    some ((List.set a (Int.toNat b) f),(IntKind.wrap .i64 (b + (1:Int))))
   else
    some (a,b)).bind fun j=>
   match j with
   | (k,l)=>
    Z6 c g k l (IntKind.wrap .i64 (d + (1:Int)))
  else
   some (a,b)
def Zau (b:Nat) (c:ZL):Option (Nat × ZL):=
 (Zbm b c).bind fun d=>
 if (d == (-1:Int))=true then
  some (b,c)
 else
  (Z6 b fuel c d (IntKind.wrap .i64 (d + (1:Int)))).bind fun g=>
  match g with
  | (f,a)=>
   if 0≤a∧a≤(b:Int)∧(b:Int)≤(b:Int) then
   if Int.toNat a + (Int.toNat (b:Int) - Int.toNat a)≤List.length f then
   if 0≤(0:Int)∧(0:Int)≤a∧a≤(b:Int) then
   some ((Int.toNat a),(List.take (Int.toNat a) f++List.replicate (Int.toNat (b:Int) - Int.toNat a) Zo++List.drop (Int.toNat a + (Int.toNat (b:Int) - Int.toNat a)) f))
   else none
   else none
   else none
def Za7 (b:ZL):Nat→Int→Option (Unit ⊕ Int)
 | 0,_=>none
 | c+1,a=>
  if (decide (a<(List.length b:Int)))=true then
   (idx b a).bind fun d=>
   (Zc3 d).bind fun f=>
   if f=true then
    some (.inr a)
   else
    Za7 b c (IntKind.wrap .i64 (a + (1:Int)))
  else
   some (.inl ())
def Zci (a:ZL):Option Int:=
 (Za7 a fuel (0:Int)).bind fun(b:(Unit ⊕ Int))=>
 match b with
 | .inl ()=>
   some (-1:Int)
 | .inr c=>
   some c
def Zav:Nat→Int→Int→Option Int
 | 0,_,_=>none
 | c+1,b,a=>
  if (decide (a<(List.length ([]:ZL):Int)))=true then
   ((idx ([]:ZL) a).bind fun d=>
   (Zc3 d).bind fun f=>
   if (!f)=true then
    none
   else
    some ()).bind fun g=>
   match g with
   | ()=>
    Zav c b (IntKind.wrap .i64 (a + (1:Int)))
  else
   some b
def Zby:Option ZL:=
 (Zci ([]:ZL)).bind fun a=>
 if (a == (-1:Int))=true then
  some ([]:ZL)
 else
  (Zav fuel a (IntKind.wrap .i64 (a + (1:Int)))).bind fun _=>
   none
def Zfb (a:ZL):Option ZL:=
 if List.length a≤lim then
 (handB a (Zau (List.length a) a) (Zby)).bind fun b=>
 some (List.take b.1 b.2)
 else none
def Zbr (d:Int) (b:Int):Nat→ZL→Int→Option ZL
 | 0,_,_=>none
 | f+1,c,a=>
  if (decide (a≤d))=true then
   (idx c b).bind fun g=>
   if 0≤a∧a<5 then
   Zbr d b f (List.set c (Int.toNat b) (Arr5.set g a (Zb.mk (0:Int) (0:Int)))) (IntKind.wrap .i64 (a + (1:Int)))
   else none
  else
   some c
def Zdg (b:Int) (c:ZL):Nat→ZL→Int→Option ZL
 | 0,_,_=>none
 | f+1,d,a=>
  if (decide (a<(List.length c:Int)))=true then
   (Zbr b a fuel d (0:Int)).bind fun g=>
    Zdg b c f g (IntKind.wrap .i64 (a + (1:Int)))
  else
   some d
def Zgh (b:Int) (a:ZL):Option ZL:=
 if List.length a≤lim then
 (Zdg b a fuel a (0:Int)).bind fun c=>
  some c
 else none
def Zaz (b:ZL) (c:ZL):Nat→Int→Option (Unit ⊕ Bool)
 | 0,_=>none
 | d+1,a=>
  if (decide (a<(List.length b:Int)))=true then
   (idx b a).bind fun f=>
   (idx c a).bind fun g=>
   if (!(Zfy f g))=true then
    some (.inr false)
   else
    Zaz b c d (IntKind.wrap .i64 (a + (1:Int)))
  else
   some (.inl ())
def Zan (a:ZL) (b:ZL):Option Bool:=
 if ((List.length a:Int) != (List.length b:Int))=true then
  some false
 else
  (Zaz a b fuel (0:Int)).bind fun(c:(Unit ⊕ Bool))=>
  match c with
  | .inl ()=>
    some true
  | .inr d=>
    some d
def Zcy (a:Int) (b:ZL):Nat→Int→Option Int
 | 0,_=>none
 | d+1,c=>
  (some (decide (c<(List.length b:Int)))).bind fun f=>
  (if f=true then
   (idx b c).bind fun g=>
   if 0≤a∧a<5 then
   (idx b (0:Int)).bind fun i=>
   if 0≤a∧a<5 then
   some (Zdj (Arr5.get g a) (Arr5.get i a))
   else none
   else none
   else some false).bind fun j=>
  if j=true then
   Zcy a b d (IntKind.wrap .i64 (c + (1:Int)))
  else
   some c
def Zb5 (b:Int) (g:Int→ZL→Option Bool):Nat→Zg→ZL→Option (Zg ⊕ Bool)
 | 0,_,_=>none
 | j+1,d,a=>
  if (decide ((List.length a:Int) > (0:Int)))=true then
   (Zcy b a fuel (1:Int)).bind fun c=>
    (idx a (0:Int)).bind fun f=>
    if 0≤b∧b<5 then
    if 0≤(0:Int)∧(0:Int)≤c∧c≤(List.length a:Int) then
    (Zgh b (List.drop (Int.toNat (0:Int)) (List.take (Int.toNat c) a))).bind fun i=>
    if 0≤(0:Int)∧(0:Int)≤c∧c≤(List.length a:Int) then
    (g (IntKind.wrap .i64 (b + (1:Int))) (List.drop (Int.toNat (0:Int)) (List.take (Int.toNat c) a))).bind fun k=>
    if (!k)=true then
     some (.inr false)
    else
     (if (decide ((List.length d.f_rest:Int) > (0:Int)))=true then
      (some (decide ((Arr5.get f b).Lo≤d.f_values.Hi))).bind fun l=>
      (if l=true then some true else
       (some ((Arr5.get f b).Lo == (IntKind.wrap .u32 (d.f_values.Hi + (1:Int))))).bind fun m=>
       (if m=true then
        (Zan i d.f_rest).bind fun n=>
        some n
        else some false).bind fun o=>
       some o
       ).bind fun p=>
      if p=true then
       some (.inr false)
      else
       some (.inl ())
     else
      some (.inl ())).bind fun(q:(Unit ⊕ Bool))=>
     match q with
     | .inl ()=>
       if 0≤c∧c≤(List.length a:Int)∧(List.length a:Int)≤(List.length a:Int) then
       Zb5 b g j (Zg.mk (Arr5.get f b) i) (List.drop (Int.toNat c) (List.take (Int.toNat (List.length a:Int)) a))
       else none
     | .inr r=>
       some (.inr r)
    else none
    else none
    else none
  else
   some (.inl d)
def Zbk:Nat→Int→ZL→Option Bool
 | 0,_,_=>none
 | nr+1,a,b=>
  if (a == (5:Int))=true then
   some (decide ((List.length b:Int)≤(1:Int)))
  else
   (Zb5 a (Zbk nr) fuel Zge b).bind fun(c:(Zg ⊕ Bool))=>
   match c with
   | .inl _=>
     some true
   | .inr d=>
     some d
def Zee (a:ZL):Option Bool:=
 (some (decide ((List.length a:Int)≤(4096:Int)))).bind fun b=>
 (if b=true then
  (Zfb a).bind fun c=>
  some ((List.length c:Int) == (List.length a:Int))
  else some false).bind fun d=>
 (some d).bind fun f=>
 (if f=true then
  (Zbk fuel (0:Int) a).bind fun g=>
  some g
  else some false).bind fun i=>
 some i
def Zev (a:Bool) (b:Bool):Option Bool:=
 (some a).bind fun c=>
 some (c || b)
def Zmb (a:Int):Option Int:=
 (some (decide (a<(0:Int)))).bind fun b=>
 if (b || (decide (a ≥ (5:Int))))=true then
  some (0:Int)
 else
  if 0≤a∧a<5 then
  some (Arr5.get Za2 a)
  else none
def Zhj (a:Int):Option Int:=
 (if (decide (a ≥ (4294967296:Int)))=true then
  some ((bShr .u64 a (32:Int)),(32:Int))
 else
  some (a,(0:Int))).bind fun g=>
 match g with
 | (b,d)=>
  (if (decide (b ≥ (65536:Int)))=true then
   some ((bShr .u64 b (16:Int)),(IntKind.wrap .i64 (d + (16:Int))))
  else
   some (b,d)).bind fun i=>
  match i with
  | (c,f)=>
   (if (decide (c ≥ (256:Int)))=true then
    some ((bShr .u64 c (8:Int)),(IntKind.wrap .i64 (f + (8:Int))))
   else
    some (c,f)).bind fun j=>
   match j with
   | (k,l)=>
    (sidx ⟨#[0,1,2,2,3,3,3,3,4,4,4,4,4,4,4,4,5,5,5,5,5,5,5,5,5,5,5,5,5,5,5,5,6,6,6,6,6,6,6,6,6,6,6,6,6,6,6,6,6,6,6,6,6,6,6,6,6,6,6,6,6,6,6,6,7,7,7,7,7,7,7,7,7,7,7,7,7,7,7,7,7,7,7,7,7,7,7,7,7,7,7,7,7,7,7,7,7,7,7,7,7,7,7,7,7,7,7,7,7,7,7,7,7,7,7,7,7,7,7,7,7,7,7,7,7,7,7,7,8,8,8,8,8,8,8,8,8,8,8,8,8,8,8,8,8,8,8,8,8,8,8,8,8,8,8,8,8,8,8,8,8,8,8,8,8,8,8,8,8,8,8,8,8,8,8,8,8,8,8,8,8,8,8,8,8,8,8,8,8,8,8,8,8,8,8,8,8,8,8,8,8,8,8,8,8,8,8,8,8,8,8,8,8,8,8,8,8,8,8,8,8,8,8,8,8,8,8,8,8,8,8,8,8,8,8,8,8,8,8,8,8,8,8,8,8,8,8,8,8,8,8,8,8,8,8,8]⟩ (IntKind.wrap .u8 k)).bind fun m=>
    some (IntKind.wrap .i64 (l + (IntKind.wrap .i64 m)))
def Zfz (a:Int):Option Int:=
 (Zhj a).bind fun b=>
 some b
def Zft (a:Int):Option Bool:=
 some (a != a)
def Zac (a:Int) (b:Int):Option Bool:=
 (Zft a).bind fun c=>
 (some c).bind fun d=>
 (if d=true then
  (Zft b).bind fun f=>
  some (!f)
  else some false).bind fun g=>
 (some g).bind fun i=>
 some (i || (decide (a<b)))
def Zaj (c:Nat) (d:Int):Nat→(List Int)→Int→Option (List Int)
 | 0,_,_=>none
 | g+1,b,a=>
  (some (decide (a > d))).bind fun i=>
  (if i=true then
   (idxn c b a).bind fun j=>
   (idxn c b (IntKind.wrap .i64 (a - (1:Int)))).bind fun k=>
   (Zac j k).bind fun l=>
   some l
   else some false).bind fun m=>
  if m=true then
   (idxn c b (IntKind.wrap .i64 (a - (1:Int)))).bind fun f=>
   (idxn c b a).bind fun n=>
   (idxn c b a).bind fun _=>
   (idxn c (List.set b (Int.toNat a) f) (IntKind.wrap .i64 (a - (1:Int)))).bind fun _=>
   Zaj c d g (List.set (List.set b (Int.toNat a) f) (Int.toNat (IntKind.wrap .i64 (a - (1:Int)))) n) (IntKind.wrap .i64 (a - (1:Int)))
  else
   some b
def Zak (b:Nat) (c:Int) (d:Int):Nat→(List Int)→Int→Option (List Int)
 | 0,_,_=>none
 | g+1,f,a=>
  if (decide (a<d))=true then
   (Zaj b c fuel f a).bind fun i=>
    Zak b c d g i (IntKind.wrap .i64 (a + (1:Int)))
  else
   some f
def Zbu (b:Nat) (c:(List Int)) (a:Int) (d:Int):Option (List Int):=
 (Zak b a d fuel c (IntKind.wrap .i64 (a + (1:Int)))).bind fun f=>
  some f
def Zaf (d:Nat) (g:Int) (a:Int):Nat→(List Int)→Int→Option ((List Int) ⊕ (List Int))
 | 0,_,_=>none
 | j+1,b,c=>
  if (decide ((IntKind.wrap .i64 ((IntKind.wrap .i64 ((2:Int) * c)) + (1:Int))) ≥ g))=true then
   some (.inl b)
  else
   ((some (decide ((IntKind.wrap .i64 ((IntKind.wrap .i64 ((IntKind.wrap .i64 ((2:Int) * c)) + (1:Int))) + (1:Int)))<g))).bind fun k=>
   (if k=true then
    (idxn d b (IntKind.wrap .i64 (a + (IntKind.wrap .i64 ((IntKind.wrap .i64 ((2:Int) * c)) + (1:Int)))))).bind fun l=>
    (idxn d b (IntKind.wrap .i64 ((IntKind.wrap .i64 (a + (IntKind.wrap .i64 ((IntKind.wrap .i64 ((2:Int) * c)) + (1:Int))))) + (1:Int)))).bind fun m=>
    (Zac l m).bind fun n=>
    some n
    else some false).bind fun o=>
   if o=true then
    some (IntKind.wrap .i64 ((IntKind.wrap .i64 ((IntKind.wrap .i64 ((2:Int) * c)) + (1:Int))) + (1:Int)))
   else
    some (IntKind.wrap .i64 ((IntKind.wrap .i64 ((2:Int) * c)) + (1:Int)))).bind fun f=>
    (idxn d b (IntKind.wrap .i64 (a + c))).bind fun p=>
    (idxn d b (IntKind.wrap .i64 (a + f))).bind fun q=>
    (Zac p q).bind fun r=>
    if (!r)=true then
     some (.inr b)
    else
     (idxn d b (IntKind.wrap .i64 (a + f))).bind fun i=>
     (idxn d b (IntKind.wrap .i64 (a + c))).bind fun s=>
     (idxn d b (IntKind.wrap .i64 (a + c))).bind fun _=>
     (idxn d (List.set b (Int.toNat (IntKind.wrap .i64 (a + c))) i) (IntKind.wrap .i64 (a + f))).bind fun _=>
     Zaf d g a j (List.set (List.set b (Int.toNat (IntKind.wrap .i64 (a + c))) i) (Int.toNat (IntKind.wrap .i64 (a + f))) s) f
def Zbt (a:Nat) (b:(List Int)) (c:Int) (d:Int) (f:Int):Option (List Int):=
 (Zaf a d f fuel b c).bind fun(g:((List Int) ⊕ (List Int)))=>
 match g with
 | .inl i=>
   some i
 | .inr j=>
   some j
def Zaw (c:Nat) (a:Int) (d:Int):Nat→(List Int)→Int→Option (List Int)
 | 0,_,_=>none
 | g+1,f,b=>
  if (decide (b ≥ (0:Int)))=true then
   (Zbt c f b (IntKind.wrap .i64 (d - a)) a).bind fun i=>
   Zaw c a d g i (IntKind.wrap .i64 (b - (1:Int)))
  else
   some f
def Zax (b:Nat) (a:Int):Nat→(List Int)→Int→Option (List Int)
 | 0,_,_=>none
 | g+1,c,d=>
  if (decide (d ≥ (0:Int)))=true then
   (idxn b c (IntKind.wrap .i64 (a + d))).bind fun f=>
   (idxn b c a).bind fun i=>
   (idxn b c a).bind fun _=>
   (idxn b (List.set c (Int.toNat a) f) (IntKind.wrap .i64 (a + d))).bind fun _=>
   (Zbt b (List.set (List.set c (Int.toNat a) f) (Int.toNat (IntKind.wrap .i64 (a + d))) i) (0:Int) d a).bind fun j=>
   Zax b a g j (IntKind.wrap .i64 (d - (1:Int)))
  else
   some c
def Zcj (c:Nat) (d:(List Int)) (a:Int) (b:Int):Option (List Int):=
 (Zaw c a b fuel d (IntKind.wrap .i64 (Int.tdiv (IntKind.wrap .i64 ((IntKind.wrap .i64 (b - a)) - (1:Int))) (2:Int)))).bind fun f=>
  (Zax c a fuel f (IntKind.wrap .i64 ((IntKind.wrap .i64 (b - a)) - (1:Int)))).bind fun g=>
   some g
def Zfg (b:Int):Option Int:=
 (Zfz (IntKind.wrap .u64 b)).bind fun a=>
 if 0≤a then
 some (bShl .u64 (1:Int) a)
 else none
def Zep (a:Int):Option (Int × Int):=
 some ((bXor .u64 (bXor .u64 (bXor .u64 a (bShl .u64 a (13:Int))) (bShr .u64 (bXor .u64 a (bShl .u64 a (13:Int))) (7:Int))) (bShl .u64 (bXor .u64 (bXor .u64 a (bShl .u64 a (13:Int))) (bShr .u64 (bXor .u64 a (bShl .u64 a (13:Int))) (7:Int))) (17:Int))),(bXor .u64 (bXor .u64 (bXor .u64 a (bShl .u64 a (13:Int))) (bShr .u64 (bXor .u64 a (bShl .u64 a (13:Int))) (7:Int))) (bShl .u64 (bXor .u64 (bXor .u64 a (bShl .u64 a (13:Int))) (bShr .u64 (bXor .u64 a (bShl .u64 a (13:Int))) (7:Int))) (17:Int))))
def Zw (d:Nat) (a:Int) (f:Int) (g:Int):Nat→(List Int)→Int→Int→Option ((List Int) × Int)
 | 0,_,_,_=>none
 | m+1,b,k,c=>
  if (decide (c≤(IntKind.wrap .i64 ((IntKind.wrap .i64 (a + (IntKind.wrap .i64 ((IntKind.wrap .i64 (Int.tdiv (IntKind.wrap .i64 (f - a)) (4:Int))) * (2:Int))))) + (1:Int)))))=true then
   ((Zep k).bind fun i=>
   (if (decide ((IntKind.wrap .i64 (bAnd .u64 i.1 (IntKind.wrap .u64 (g - (1:Int))))) ≥ (IntKind.wrap .i64 (f - a))))=true then
    some (IntKind.wrap .i64 ((IntKind.wrap .i64 (bAnd .u64 i.1 (IntKind.wrap .u64 (g - (1:Int))))) - (IntKind.wrap .i64 (f - a))))
   else
    some (IntKind.wrap .i64 (bAnd .u64 i.1 (IntKind.wrap .u64 (g - (1:Int)))))).bind fun j=>
    (idxn d b (IntKind.wrap .i64 (a + j))).bind fun l=>
    (idxn d b c).bind fun n=>
    (idxn d b c).bind fun _=>
    (idxn d (List.set b (Int.toNat c) l) (IntKind.wrap .i64 (a + j))).bind fun _=>
    some ((List.set (List.set b (Int.toNat c) l) (Int.toNat (IntKind.wrap .i64 (a + j))) n),i.2)).bind fun o=>
   match o with
   | (p,q)=>
    Zw d a f g m p q (IntKind.wrap .i64 (c + (1:Int)))
  else
   some (b,k)
def Za5 (d:Nat) (c:(List Int)) (a:Int) (b:Int):Option (List Int):=
 if (decide ((IntKind.wrap .i64 (b - a)) ≥ (8:Int)))=true then
  (Zfg (IntKind.wrap .i64 (b - a))).bind fun f=>
  (Zw d a b f fuel c (IntKind.wrap .u64 (IntKind.wrap .i64 (b - a))) (IntKind.wrap .i64 ((IntKind.wrap .i64 (a + (IntKind.wrap .i64 ((IntKind.wrap .i64 (Int.tdiv (IntKind.wrap .i64 (b - a)) (4:Int))) * (2:Int))))) - (1:Int)))).bind fun g=>
  match g with
  | (i,_)=>
   some i
 else
  some c
def Zbi (c:Nat) (d:(List Int)) (a:Int) (b:Int) (f:Int):Option (Int × Int × Int):=
 (idxn c d b).bind fun g=>
 (idxn c d a).bind fun i=>
 (Zac g i).bind fun j=>
 if j=true then
  some (b,a,(IntKind.wrap .i64 (f + (1:Int))))
 else
  some (a,b,f)
def Zb0 (a:Nat) (b:(List Int)) (g:Int) (i:Int) (j:Int) (k:Int):Option (Int × Int):=
 (Zbi a b g i k).bind fun c=>
 (Zbi a b c.2.1 j c.2.2).bind fun d=>
 (Zbi a b c.1 d.1 d.2.2).bind fun f=>
 some (f.2.1,f.2.2)
def Zap (c:Nat) (d:(List Int)) (a:Int) (f:Int):Option (Int × Int):=
 (Zb0 c d (IntKind.wrap .i64 (a - (1:Int))) a (IntKind.wrap .i64 (a + (1:Int))) f).bind fun b=>
 some (b.1,b.2)
def Zbz (c:Nat) (d:(List Int)) (a:Int) (b:Int):Option (Int × Int):=
 (if (decide ((IntKind.wrap .i64 (b - a)) ≥ (8:Int)))=true then
  (if (decide ((IntKind.wrap .i64 (b - a)) ≥ (50:Int)))=true then
   (Zap c d (IntKind.wrap .i64 (a + (IntKind.wrap .i64 ((IntKind.wrap .i64 (Int.tdiv (IntKind.wrap .i64 (b - a)) (4:Int))) * (1:Int))))) (0:Int)).bind fun g=>
   (Zap c d (IntKind.wrap .i64 (a + (IntKind.wrap .i64 ((IntKind.wrap .i64 (Int.tdiv (IntKind.wrap .i64 (b - a)) (4:Int))) * (2:Int))))) g.2).bind fun i=>
   (Zap c d (IntKind.wrap .i64 (a + (IntKind.wrap .i64 ((IntKind.wrap .i64 (Int.tdiv (IntKind.wrap .i64 (b - a)) (4:Int))) * (3:Int))))) i.2).bind fun j=>
   some (j.2,g.1,i.1,j.1)
  else
   some ((0:Int),(IntKind.wrap .i64 (a + (IntKind.wrap .i64 ((IntKind.wrap .i64 (Int.tdiv (IntKind.wrap .i64 (b - a)) (4:Int))) * (1:Int))))),(IntKind.wrap .i64 (a + (IntKind.wrap .i64 ((IntKind.wrap .i64 (Int.tdiv (IntKind.wrap .i64 (b - a)) (4:Int))) * (2:Int))))),(IntKind.wrap .i64 (a + (IntKind.wrap .i64 ((IntKind.wrap .i64 (Int.tdiv (IntKind.wrap .i64 (b - a)) (4:Int))) * (3:Int))))))).bind fun m=>
  match m with
  | (n,o,p,q)=>
   (Zb0 c d o p q n).bind fun k=>
   some (k.2,k.1)
 else
  some ((0:Int),(IntKind.wrap .i64 (a + (IntKind.wrap .i64 ((IntKind.wrap .i64 (Int.tdiv (IntKind.wrap .i64 (b - a)) (4:Int))) * (2:Int))))))).bind fun r=>
 match r with
 | (l,f)=>
  if (l == (0:Int))=true then
   some (f,(1:Int))
  else
   if (l == (12:Int))=true then
    some (f,(2:Int))
   else
    some (f,(0:Int))
def Zal (c:Nat):Nat→(List Int)→Int→Int→Option (List Int)
 | 0,_,_,_=>none
 | g+1,a,b,d=>
  if (decide (b<d))=true then
   (idxn c a d).bind fun f=>
   (idxn c a b).bind fun i=>
   (idxn c a b).bind fun _=>
   (idxn c (List.set a (Int.toNat b) f) d).bind fun _=>
   Zal c g (List.set (List.set a (Int.toNat b) f) (Int.toNat d) i) (IntKind.wrap .i64 (b + (1:Int))) (IntKind.wrap .i64 (d - (1:Int)))
  else
   some a
def Za9 (a:Nat) (b:(List Int)) (c:Int) (d:Int):Option (List Int):=
 (Zal a fuel b c (IntKind.wrap .i64 (d - (1:Int)))).bind fun f=>
  some f
def Z8 (b:Nat) (d:Int) (c:(List Int)):Nat→Int→Option Int
 | 0,_=>none
 | f+1,a=>
  (some (decide (a<d))).bind fun g=>
  (if g=true then
   (idxn b c a).bind fun i=>
   (idxn b c (IntKind.wrap .i64 (a - (1:Int)))).bind fun j=>
   (Zac i j).bind fun k=>
   some (!k)
   else some false).bind fun l=>
  if l=true then
   Z8 b d c f (IntKind.wrap .i64 (a + (1:Int)))
  else
   some a
def Z4 (c:Nat):Nat→(List Int)→Int→Option (List Int)
 | 0,_,_=>none
 | f+1,b,a=>
  if (decide (a ≥ (1:Int)))=true then
   (idxn c b a).bind fun g=>
   (idxn c b (IntKind.wrap .i64 (a - (1:Int)))).bind fun i=>
   (Zac g i).bind fun j=>
   if (!j)=true then
    some b
   else
    (idxn c b (IntKind.wrap .i64 (a - (1:Int)))).bind fun d=>
    (idxn c b a).bind fun k=>
    (idxn c b a).bind fun _=>
    (idxn c (List.set b (Int.toNat a) d) (IntKind.wrap .i64 (a - (1:Int)))).bind fun _=>
    Z4 c f (List.set (List.set b (Int.toNat a) d) (Int.toNat (IntKind.wrap .i64 (a - (1:Int)))) k) (IntKind.wrap .i64 (a - (1:Int)))
  else
   some b
def Z9 (c:Nat) (d:Int):Nat→(List Int)→Int→Option (List Int)
 | 0,_,_=>none
 | g+1,b,a=>
  if (decide (a<d))=true then
   (idxn c b a).bind fun i=>
   (idxn c b (IntKind.wrap .i64 (a - (1:Int)))).bind fun j=>
   (Zac i j).bind fun k=>
   if (!k)=true then
    some b
   else
    (idxn c b (IntKind.wrap .i64 (a - (1:Int)))).bind fun f=>
    (idxn c b a).bind fun l=>
    (idxn c b a).bind fun _=>
    (idxn c (List.set b (Int.toNat a) f) (IntKind.wrap .i64 (a - (1:Int)))).bind fun _=>
    Z9 c d g (List.set (List.set b (Int.toNat a) f) (Int.toNat (IntKind.wrap .i64 (a - (1:Int)))) l) (IntKind.wrap .i64 (a + (1:Int)))
  else
   some b
def Zaa (c:Nat) (f:Int) (d:Int):Nat→(List Int)→Int→Int→Option ((List Int) ⊕ (Bool × (List Int)))
 | 0,_,_,_=>none
 | l+1,b,m,i=>
  if (decide (i<(5:Int)))=true then
   ((Z8 c d b fuel m).bind fun a=>
    if (a == d)=true then
     some (.inr (true,b))
    else
     if (decide ((IntKind.wrap .i64 (d - f))<(50:Int)))=true then
      some (.inr (false,b))
     else
      (idxn c b (IntKind.wrap .i64 (a - (1:Int)))).bind fun g=>
      (idxn c b a).bind fun j=>
      (idxn c b a).bind fun _=>
      (idxn c (List.set b (Int.toNat a) g) (IntKind.wrap .i64 (a - (1:Int)))).bind fun _=>
      (if (decide ((IntKind.wrap .i64 (a - f)) ≥ (2:Int)))=true then
       (Z4 c fuel (List.set (List.set b (Int.toNat a) g) (Int.toNat (IntKind.wrap .i64 (a - (1:Int)))) j) (IntKind.wrap .i64 (a - (1:Int)))).bind fun n=>
        some n
      else
       some (List.set (List.set b (Int.toNat a) g) (Int.toNat (IntKind.wrap .i64 (a - (1:Int)))) j)).bind fun k=>
       if (decide ((IntKind.wrap .i64 (d - a)) ≥ (2:Int)))=true then
        (Z9 c d fuel k (IntKind.wrap .i64 (a + (1:Int)))).bind fun o=>
         some (.inl (o,a))
       else
        some (.inl (k,a))).bind fun(p:(((List Int) × Int) ⊕ (Bool × (List Int))))=>
   match p with
   | .inl (q,r)=>
     Zaa c f d l q r (IntKind.wrap .i64 (i + (1:Int)))
   | .inr s=>
     some (.inr s)
  else
   some (.inl b)
def Zam (b:Nat) (c:(List Int)) (a:Int) (d:Int):Option (Bool × (List Int)):=
 (Zaa b a d fuel c (IntKind.wrap .i64 (a + (1:Int))) (0:Int)).bind fun(f:((List Int) ⊕ (Bool × (List Int))))=>
 match f with
 | .inl g=>
   some (false,g)
 | .inr i=>
   some i
def Zar (b:Nat) (d:Int) (c:(List Int)) (f:Int):Nat→Int→Option Int
 | 0,_=>none
 | g+1,a=>
  (some (decide (a≤f))).bind fun i=>
  (if i=true then
   (idxn b c d).bind fun j=>
   (idxn b c a).bind fun k=>
   (Zac j k).bind fun l=>
   some (!l)
   else some false).bind fun m=>
  if m=true then
   Zar b d c f g (IntKind.wrap .i64 (a + (1:Int)))
  else
   some a
def Zas (b:Nat) (d:Int) (c:(List Int)) (f:Int):Nat→Int→Option Int
 | 0,_=>none
 | g+1,a=>
  (some (decide (f≤a))).bind fun i=>
  (if i=true then
   (idxn b c d).bind fun j=>
   (idxn b c a).bind fun k=>
   (Zac j k).bind fun l=>
   some l
   else some false).bind fun m=>
  if m=true then
   Zas b d c f g (IntKind.wrap .i64 (a - (1:Int)))
  else
   some a
def Zah (c:Nat) (f:Int):Nat→(List Int)→Int→Int→Option ((List Int) × Int)
 | 0,_,_,_=>none
 | j+1,a,k,g=>
  (Zar c f a g fuel k).bind fun b=>
   (Zas c f a b fuel g).bind fun d=>
    if (decide (b > d))=true then
     some (a,b)
    else
     (idxn c a d).bind fun i=>
     (idxn c a b).bind fun l=>
     (idxn c a b).bind fun _=>
     (idxn c (List.set a (Int.toNat b) i) d).bind fun _=>
     Zah c f j (List.set (List.set a (Int.toNat b) i) (Int.toNat d) l) (IntKind.wrap .i64 (b + (1:Int))) (IntKind.wrap .i64 (d - (1:Int)))
def Zbq (b:Nat) (c:(List Int)) (a:Int) (g:Int) (d:Int):Option (Int × (List Int)):=
 (idxn b c d).bind fun f=>
 (idxn b c a).bind fun i=>
 (idxn b c a).bind fun _=>
 (idxn b (List.set c (Int.toNat a) f) d).bind fun _=>
 (Zah b a fuel (List.set (List.set c (Int.toNat a) f) (Int.toNat d) i) (IntKind.wrap .i64 (a + (1:Int))) (IntKind.wrap .i64 (g - (1:Int)))).bind fun j=>
 match j with
 | (k,l)=>
  some (l,k)
def Zba (c:Nat) (d:(List Int)) (a:Int) (j:Int) (f:Int) (g:Int) (i:Int):Nat→Int→Option Int
 | 0,_=>none
 | k+1,b=>
  (some (decide (b≤(IntKind.wrap .i64 (j - (1:Int)))))).bind fun l=>
  (if l=true then
   (idxn c (List.set (List.set d (Int.toNat a) g) (Int.toNat f) i) b).bind fun m=>
   (idxn c (List.set (List.set d (Int.toNat a) g) (Int.toNat f) i) a).bind fun n=>
   (Zac m n).bind fun o=>
   some o
   else some false).bind fun p=>
  if p=true then
   Zba c d a j f g i k (IntKind.wrap .i64 (b + (1:Int)))
  else
   some b
def Zbb (c:Nat) (d:(List Int)) (a:Int) (f:Int) (g:Int) (i:Int) (j:Int):Nat→Int→Option Int
 | 0,_=>none
 | k+1,b=>
  (some (decide (j≤b))).bind fun l=>
  (if l=true then
   (idxn c (List.set (List.set d (Int.toNat a) g) (Int.toNat f) i) b).bind fun m=>
   (idxn c (List.set (List.set d (Int.toNat a) g) (Int.toNat f) i) a).bind fun n=>
   (Zac m n).bind fun o=>
   some (!o)
   else some false).bind fun p=>
  if p=true then
   Zbb c d a f g i j k (IntKind.wrap .i64 (b - (1:Int)))
  else
   some b
def Zbc (b:Nat) (d:Int) (c:(List Int)) (f:Int):Nat→Int→Option Int
 | 0,_=>none
 | g+1,a=>
  (some (decide (a≤f))).bind fun i=>
  (if i=true then
   (idxn b c a).bind fun j=>
   (idxn b c d).bind fun k=>
   (Zac j k).bind fun l=>
   some l
   else some false).bind fun m=>
  if m=true then
   Zbc b d c f g (IntKind.wrap .i64 (a + (1:Int)))
  else
   some a
def Zbd (b:Nat) (d:Int) (c:(List Int)) (f:Int):Nat→Int→Option Int
 | 0,_=>none
 | g+1,a=>
  (some (decide (f≤a))).bind fun i=>
  (if i=true then
   (idxn b c a).bind fun j=>
   (idxn b c d).bind fun k=>
   (Zac j k).bind fun l=>
   some (!l)
   else some false).bind fun m=>
  if m=true then
   Zbd b d c f g (IntKind.wrap .i64 (a - (1:Int)))
  else
   some a
def Zat (b:Nat) (f:Int):Nat→(List Int)→Int→Int→Option ((List Int) × Int)
 | 0,_,_,_=>none
 | j+1,a,k,g=>
  (Zbc b f a g fuel k).bind fun c=>
   (Zbd b f a c fuel g).bind fun d=>
    if (decide (c > d))=true then
     some (a,d)
    else
     (idxn b a d).bind fun i=>
     (idxn b a c).bind fun l=>
     (idxn b a c).bind fun _=>
     (idxn b (List.set a (Int.toNat c) i) d).bind fun _=>
     Zat b f j (List.set (List.set a (Int.toNat c) i) (Int.toNat d) l) (IntKind.wrap .i64 (c + (1:Int))) (IntKind.wrap .i64 (d - (1:Int)))
def Zcf (b:Nat) (c:(List Int)) (a:Int) (m:Int) (d:Int):Option (Int × Bool × (List Int)):=
 (idxn b c d).bind fun f=>
 (idxn b c a).bind fun g=>
 (idxn b c a).bind fun _=>
 (idxn b (List.set c (Int.toNat a) f) d).bind fun _=>
 (Zba b c a m d f g fuel (IntKind.wrap .i64 (a + (1:Int)))).bind fun j=>
  (Zbb b c a d f g j fuel (IntKind.wrap .i64 (m - (1:Int)))).bind fun i=>
   if (decide (j > i))=true then
    (idxn b (List.set (List.set c (Int.toNat a) f) (Int.toNat d) g) a).bind fun n=>
    (idxn b (List.set (List.set c (Int.toNat a) f) (Int.toNat d) g) i).bind fun q=>
    (idxn b (List.set (List.set c (Int.toNat a) f) (Int.toNat d) g) i).bind fun _=>
    (idxn b (List.set (List.set (List.set c (Int.toNat a) f) (Int.toNat d) g) (Int.toNat i) n) a).bind fun _=>
    some (i,true,(List.set (List.set (List.set (List.set c (Int.toNat a) f) (Int.toNat d) g) (Int.toNat i) n) (Int.toNat a) q))
   else
    (idxn b (List.set (List.set c (Int.toNat a) f) (Int.toNat d) g) i).bind fun o=>
    (idxn b (List.set (List.set c (Int.toNat a) f) (Int.toNat d) g) j).bind fun r=>
    (idxn b (List.set (List.set c (Int.toNat a) f) (Int.toNat d) g) j).bind fun _=>
    (idxn b (List.set (List.set (List.set c (Int.toNat a) f) (Int.toNat d) g) (Int.toNat j) o) i).bind fun _=>
    (Zat b a fuel (List.set (List.set (List.set (List.set c (Int.toNat a) f) (Int.toNat d) g) (Int.toNat j) o) (Int.toNat i) r) (IntKind.wrap .i64 (j + (1:Int))) (IntKind.wrap .i64 (i - (1:Int)))).bind fun s=>
    match s with
    | (k,l)=>
     (idxn b k a).bind fun p=>
     (idxn b k l).bind fun t=>
     (idxn b k l).bind fun _=>
     (idxn b (List.set k (Int.toNat l) p) a).bind fun _=>
     some (l,false,(List.set (List.set k (Int.toNat l) p) (Int.toNat a) t))
def Zao (c:Nat) (f:Nat→(List Int)→Int→Int→Int→Option (List Int)):Nat→(List Int)→Int→Int→Int→Bool→Bool→Option (List Int)
 | 0,_,_,_,_,_,_=>none
 | l+1,i,a,b,m,n,r=>
  if (decide ((IntKind.wrap .i64 (b - a))≤(12:Int)))=true then
   (Zbu c i a b).bind fun u=>
   some u
  else
   if (m == (0:Int))=true then
    (Zcj c i a b).bind fun v=>
    some v
   else
    (if (!n)=true then
     (Za5 c i a b).bind fun w=>
     some (w,(IntKind.wrap .i64 (m - (1:Int))))
    else
     some (i,m)).bind fun x=>
    match x with
    | (o,g)=>
     (Zbz c o a b).bind fun j=>
     (if (j.2 == (2:Int))=true then
      (Za9 c o a b).bind fun y=>
      some (y,(IntKind.wrap .i64 ((IntKind.wrap .i64 (b - (1:Int))) - (IntKind.wrap .i64 (j.1 - a)))),(1:Int))
     else
      some (o,j.1,j.2)).bind fun z=>
     match z with
     | (s,p,a0)=>
      ((some n).bind fun a1=>
      (some (a1 && r)).bind fun a2=>
      if (a2 && (a0 == (1:Int)))=true then
       (Zam c s a b).bind fun q=>
       if q.1=true then
        some (.inr q.2)
       else
        some (.inl q.2)
      else
       some (.inl s)).bind fun(a3:((List Int) ⊕ (List Int)))=>
      match a3 with
      | .inl k=>
        (some (decide (a > (0:Int)))).bind fun a4=>
        (if a4=true then
         (idxn c k (IntKind.wrap .i64 (a - (1:Int)))).bind fun a5=>
         (idxn c k p).bind fun a6=>
         (Zac a5 a6).bind fun a7=>
         some (!a7)
         else some false).bind fun a8=>
        if a8=true then
         (Zbq c k a b p).bind fun t=>
         Zao c f l t.2 t.1 b g n r
        else
         (Zcf c k a b p).bind fun d=>
         if (decide ((IntKind.wrap .i64 (d.1 - a))<(IntKind.wrap .i64 (b - d.1))))=true then
          (f c d.2.2 a d.1 g).bind fun a9=>
          Zao c f l a9 (IntKind.wrap .i64 (d.1 + (1:Int))) b g (decide ((IntKind.wrap .i64 (d.1 - a)) ≥ (IntKind.wrap .i64 (Int.tdiv (IntKind.wrap .i64 (b - a)) (8:Int))))) d.2.1
         else
          (f c d.2.2 (IntKind.wrap .i64 (d.1 + (1:Int))) b g).bind fun b0=>
          Zao c f l b0 a d.1 g (decide ((IntKind.wrap .i64 (b - d.1)) ≥ (IntKind.wrap .i64 (Int.tdiv (IntKind.wrap .i64 (b - a)) (8:Int))))) d.2.1
      | .inr b1=>
        some b1
def Z0:Nat→Nat→(List Int)→Int→Int→Int→Option (List Int)
 | 0,_,_,_,_,_=>none
 | nr+1,a,b,c,d,f=>
  (Zao a (Z0 nr) fuel b c d f true true).bind fun g=>
  match g with
  | i=>
   some i
def Zda (a:Nat) (b:(List Int)):Option (List Int):=
 (Zfz (IntKind.wrap .u64 (a:Int))).bind fun c=>
 (Z0 fuel a b (0:Int) (a:Int) c).bind fun d=>
 some d
def Za0 (c:Nat) (a:Int):Nat→(List Int)→Int→Int→Option ((List Int) × Int)
 | 0,_,_,_=>none
 | g+1,b,d,f=>
  if (decide (f<(((Int.toNat (c:Int) - Int.toNat a):Nat):Int)))=true then
   ((idxv (Int.toNat (c:Int) - Int.toNat a) b a f).bind fun i=>
   (idxv (Int.toNat (c:Int) - Int.toNat a) b a (IntKind.wrap .i64 (f - (1:Int)))).bind fun j=>
   if (i != j)=true then
    (idxv (Int.toNat (c:Int) - Int.toNat a) b a f).bind fun k=>
    (idxn c b d).bind fun _=>
    some ((List.set b (Int.toNat d) k),(IntKind.wrap .i64 (d + (1:Int))))
   else
    some (b,d)).bind fun l=>
   match l with
   | (m,n)=>
    Za0 c a g m n (IntKind.wrap .i64 (f + (1:Int)))
  else
   some (b,d)
def Za1 (a:Nat) (d:(List Int)):Nat→Int→Option (Unit ⊕ (Nat × (List Int)))
 | 0,_=>none
 | g+1,c=>
  if (decide (c<(a:Int)))=true then
   (idxn a d c).bind fun i=>
   (idxn a d (IntKind.wrap .i64 (c - (1:Int)))).bind fun j=>
   if (i == j)=true then
    if 0≤c∧c≤(a:Int)∧(a:Int)≤(a:Int) then
    (Za0 a c fuel d c (1:Int)).bind fun k=>
    match k with
    | (f,b)=>
     if 0≤b∧b≤(a:Int)∧(a:Int)≤(a:Int) then
     if Int.toNat b + (Int.toNat (a:Int) - Int.toNat b)≤List.length f then
     if 0≤(0:Int)∧(0:Int)≤b∧b≤(a:Int) then
     some (.inr ((Int.toNat b),(List.take (Int.toNat b) f++List.replicate (Int.toNat (a:Int) - Int.toNat b) (0:Int)++List.drop (Int.toNat b + (Int.toNat (a:Int) - Int.toNat b)) f)))
     else none
     else none
     else none
    else none
   else
    Za1 a d g (IntKind.wrap .i64 (c + (1:Int)))
  else
   some (.inl ())
def Zcp (a:Nat) (b:(List Int)):Option (Nat × (List Int)):=
 if (decide ((a:Int)<(2:Int)))=true then
  some (a,b)
 else
  (Za1 a b fuel (1:Int)).bind fun(c:(Unit ⊕ (Nat × (List Int))))=>
  match c with
  | .inl ()=>
    some (a,b)
  | .inr d=>
    some d
def Zcc (a:Int):Nat→Int→Int→Option Int
 | 0,_,_=>none
 | d+1,c,b=>
  if (decide (b<(List.length (List.drop (Int.toNat a) (List.take (Int.toNat (List.length ([]:(List Int)):Int)) ([]:(List Int)))):Int)))=true then
   ((idx (List.drop (Int.toNat a) (List.take (Int.toNat (List.length ([]:(List Int)):Int)) ([]:(List Int)))) b).bind fun f=>
   (idx (List.drop (Int.toNat a) (List.take (Int.toNat (List.length ([]:(List Int)):Int)) ([]:(List Int)))) (IntKind.wrap .i64 (b - (1:Int)))).bind fun g=>
   if (f != g)=true then
    none
   else
    some ()).bind fun i=>
   match i with
   | ()=>
    Zcc a d c (IntKind.wrap .i64 (b + (1:Int)))
  else
   some c
def Zcd:Nat→Int→Option (Unit ⊕ (List Int))
 | 0,_=>none
 | b+1,a=>
  if (decide (a<(List.length ([]:(List Int)):Int)))=true then
   (idx ([]:(List Int)) a).bind fun c=>
   (idx ([]:(List Int)) (IntKind.wrap .i64 (a - (1:Int)))).bind fun d=>
   if (c == d)=true then
    if 0≤a∧a≤(List.length ([]:(List Int)):Int)∧(List.length ([]:(List Int)):Int)≤(List.length ([]:(List Int)):Int) then
    (Zcc a fuel a (1:Int)).bind fun _=>
     none
    else none
   else
    Zcd b (IntKind.wrap .i64 (a + (1:Int)))
  else
   some (.inl ())
def Zcq:Option (List Int):=
 if (decide ((List.length ([]:(List Int)):Int)<(2:Int)))=true then
  some ([]:(List Int))
 else
  (Zcd fuel (1:Int)).bind fun(a:(Unit ⊕ (List Int)))=>
  match a with
  | .inl ()=>
    some ([]:(List Int))
  | .inr b=>
    some b
def Zc4 (a:Int) (c:ZL):Nat→(List Int)→Int→Option (List Int)
 | 0,_,_=>none
 | g+1,d,f=>
  if (decide (f<(List.length c:Int)))=true then
   (idx c f).bind fun b=>
   if 0≤a∧a<5 then
   if 0≤a∧a<5 then
   if List.length d + List.length [(IntKind.wrap .u64 (Arr5.get b a).Lo),(IntKind.wrap .u64 ((IntKind.wrap .u64 (Arr5.get b a).Hi) + (1:Int)))]≤lim then
   Zc4 a c g (d++[(IntKind.wrap .u64 (Arr5.get b a).Lo),(IntKind.wrap .u64 ((IntKind.wrap .u64 (Arr5.get b a).Hi) + (1:Int)))]) (IntKind.wrap .i64 (f + (1:Int)))
   else none
   else none
   else none
  else
   some d
def Zc5 (c:Int) (a:(List ZL)):Nat→(List Int)→Int→Option (List Int)
 | 0,_,_=>none
 | f+1,d,b=>
  if (decide (b<(List.length a:Int)))=true then
   (idx a b).bind fun g=>
   (Zc4 c g fuel d (0:Int)).bind fun i=>
    Zc5 c a f i (IntKind.wrap .i64 (b + (1:Int)))
  else
   some d
def Zd4 (c:Int) (f:(List ZL)):Option (List Int):=
 (Zmb c).bind fun g=>
 (Zc5 c f fuel [(0:Int),(IntKind.wrap .u64 ((IntKind.wrap .u64 g) + (1:Int)))] (0:Int)).bind fun a=>
  if a ≠ [] then
  (Zda (List.length a) a).bind fun b=>
  if List.length b=List.length a then
  (handB b (Zcp (List.length b) b) (Zcq)).bind fun d=>
  some (List.take d.1 d.2)
  else none
  else none
def Zck (d:ZL) (a:Int) (f:Int):Nat→ZL→Int→Option ZL
 | 0,_,_=>none
 | i+1,b,g=>
  if (decide (g<(List.length d:Int)))=true then
   ((idx d g).bind fun c=>
   if 0≤a∧a<5 then
   (some (decide ((Arr5.get c a).Lo≤f))).bind fun j=>
   (if j=true then
    if 0≤a∧a<5 then
    some (decide (f≤(Arr5.get c a).Hi))
    else none
    else some false).bind fun k=>
   if k=true then
    if List.length b + List.length [c]≤lim then
    some (b++[c])
    else none
   else
    some b
   else none).bind fun l=>
    Zck d a f i l (IntKind.wrap .i64 (g + (1:Int)))
  else
   some b
def Zbs (a:ZL) (b:Int) (c:Int):Option ZL:=
 (Zck a b c fuel ([]:ZL) (0:Int)).bind fun d=>
  some d
def Zy (f:Int) (l:ZL) (m:ZL) (j:Int) (n:Int→ZL→ZL→Int→Option (ZL × Bool)) (g:(List Int)):Nat→(List Zg)→Int→Int→Option (((List Zg) × Int) ⊕ (ZL × Bool))
 | 0,_,_,_=>none
 | p+1,a,c,i=>
  if (decide ((IntKind.wrap .i64 (i + (1:Int)))<(List.length g:Int)))=true then
   ((idx g i).bind fun d=>
   (idx g (IntKind.wrap .i64 (i + (1:Int)))).bind fun k=>
   (Zbs l f (IntKind.wrap .u32 d)).bind fun q=>
   (Zbs m f (IntKind.wrap .u32 d)).bind fun r=>
   (n (IntKind.wrap .i64 (f + (1:Int))) q r j).bind fun b=>
   if (!b.2)=true then
    some (.inr (([]:ZL),false))
   else
    if ((List.length b.1:Int) == (0:Int))=true then
     some (.inl (a,c))
    else
     (some (decide ((List.length a:Int) > (0:Int)))).bind fun s=>
     (if s=true then
      (idx a (IntKind.wrap .i64 ((List.length a:Int) - (1:Int)))).bind fun t=>
      some ((IntKind.wrap .u32 (t.f_values.Hi + (1:Int))) == (IntKind.wrap .u32 d))
      else some false).bind fun u=>
     (some u).bind fun v=>
     (if v=true then
      (idx a (IntKind.wrap .i64 ((List.length a:Int) - (1:Int)))).bind fun w=>
      (Zan w.f_rest b.1).bind fun x=>
      some x
      else some false).bind fun y=>
     if y=true then
      (idx a (IntKind.wrap .i64 ((List.length a:Int) - (1:Int)))).bind fun o=>
      some (.inl ((List.set a (Int.toNat (IntKind.wrap .i64 ((List.length a:Int) - (1:Int)))) ({ o with f_values:=({ o.f_values with Hi:=(IntKind.wrap .u32 (IntKind.wrap .u64 (k - (1:Int)))) }:Zb) }:Zg)),c))
     else
      if List.length a + List.length [(Zg.mk (Zb.mk (IntKind.wrap .u32 d) (IntKind.wrap .u32 (IntKind.wrap .u64 (k - (1:Int))))) b.1)]≤lim then
      if (decide ((IntKind.wrap .i64 (c + (List.length b.1:Int))) > j))=true then
       some (.inr (([]:ZL),false))
      else
       some (.inl ((a++[(Zg.mk (Zb.mk (IntKind.wrap .u32 d) (IntKind.wrap .u32 (IntKind.wrap .u64 (k - (1:Int))))) b.1)]),(IntKind.wrap .i64 (c + (List.length b.1:Int)))))
      else none).bind fun(z:(((List Zg) × Int) ⊕ (ZL × Bool)))=>
   match z with
   | .inl (a0,a1)=>
     Zy f l m j n g p a0 a1 (IntKind.wrap .i64 (i + (1:Int)))
   | .inr a2=>
     some (.inr a2)
  else
   some (.inl (a,c))
def Zz (a:Int) (b:Zg):Nat→ZL→Int→Option ZL
 | 0,_,_=>none
 | g+1,c,d=>
  if (decide (d<(List.length b.f_rest:Int)))=true then
   (idx b.f_rest d).bind fun f=>
   if 0≤a∧a<5 then
   if List.length c + List.length [(Arr5.set f a b.f_values)]≤lim then
   Zz a b g (c++[(Arr5.set f a b.f_values)]) (IntKind.wrap .i64 (d + (1:Int)))
   else none
   else none
  else
   some c
def Zv (c:Int) (a:(List Zg)):Nat→ZL→Int→Option ZL
 | 0,_,_=>none
 | f+1,d,b=>
  if (decide (b<(List.length a:Int)))=true then
   (idx a b).bind fun g=>
   (Zz c g fuel d (0:Int)).bind fun i=>
    Zv c a f i (IntKind.wrap .i64 (b + (1:Int)))
  else
   some d
def Zae:Nat→Int→ZL→ZL→Int→Option (ZL × Bool)
 | 0,_,_,_,_=>none
 | nr+1,a,b,c,f=>
  if (a == (5:Int))=true then
   (Zev (decide ((List.length b:Int) > (0:Int))) (decide ((List.length c:Int) > (0:Int)))).bind fun g=>
   if g=true then
    some ([(Arr5.mk Zn Zn Zn Zn Zn)],true)
   else
    some (([]:ZL),true)
  else
   (some ((IntKind.wrap .i64 ((List.length b:Int) + (List.length c:Int))) == (0:Int))).bind fun i=>
   (if i=true then
    (Zev false false).bind fun j=>
    some (!j)
    else some false).bind fun k=>
   if k=true then
    some (([]:ZL),true)
   else
    (Zd4 a [b,c]).bind fun l=>
    (Zy a b c f (Zae nr) l fuel ([]:(List Zg)) (0:Int) (0:Int)).bind fun(m:(((List Zg) × Int) ⊕ (ZL × Bool)))=>
    match m with
    | .inl (n,d)=>
      if 0≤d∧d≤(lim:Int) then
      (Zv a n fuel ([]:ZL) (0:Int)).bind fun o=>
       some (o,true)
      else none
    | .inr p=>
      some p
def Zbj (b:ZL) (c:ZL):Option (ZL × Int):=
 (Zae fuel (0:Int) b c (4096:Int)).bind fun a=>
 if (!a.2)=true then
  some (([]:ZL),(3:Int))
 else
  some (a.1,(0:Int))
def Zdu (a:ZL):Nat→ZL→Int→Option (ZL ⊕ (ZL × Int))
 | 0,_,_=>none
 | f+1,d,b=>
  if (decide (b<(List.length a:Int)))=true then
   (idx a b).bind fun g=>
   (Zbj d [g]).bind fun c=>
   if (c.2 != (0:Int))=true then
    some (.inr (([]:ZL),c.2))
   else
    Zdu a f c.1 (IntKind.wrap .i64 (b + (1:Int)))
  else
   some (.inl d)
def Zfo (a:ZL):Option (ZL × Int):=
 (Zfb a).bind fun b=>
 (Zdu b fuel ([]:ZL) (0:Int)).bind fun(c:(ZL ⊕ (ZL × Int)))=>
 match c with
 | .inl d=>
   some (d,(0:Int))
 | .inr f=>
   some f
def Zcg (a:Zl) (c:ZL) (d:Int):Option (ZL × Zl):=
 (if (a.f_err == (0:Int))=true then
  some ({ a with f_err:=d }:Zl)
 else
  some a).bind fun b=>
  if (b.f_err != (0:Int))=true then
   some (([]:ZL),b)
  else
   some (c,b)
def Zc7 (b:Zl) (a:ZL):Option (ZL × Zl):=
 (Zee a).bind fun f=>
 if f=true then
  some (a,b)
 else
  (Zfo a).bind fun c=>
  (Zcg b c.1 c.2).bind fun d=>
  some (d.1,d.2)
def Zc8 (a:ZL):Option (ZL × Int):=
 (Zee a).bind fun c=>
 if c=true then
  some (a,(0:Int))
 else
  (Zfo a).bind fun b=>
  some (b.1,b.2)
def Zfp (a:Bool) (b:Bool):Option Bool:=
 (some a).bind fun c=>
 some (c && b)
def Zbn (f:Int) (l:ZL) (m:ZL) (j:Int) (n:Int→ZL→ZL→Int→Option (ZL × Bool)) (g:(List Int)):Nat→(List Zg)→Int→Int→Option (((List Zg) × Int) ⊕ (ZL × Bool))
 | 0,_,_,_=>none
 | p+1,a,c,i=>
  if (decide ((IntKind.wrap .i64 (i + (1:Int)))<(List.length g:Int)))=true then
   ((idx g i).bind fun d=>
   (idx g (IntKind.wrap .i64 (i + (1:Int)))).bind fun k=>
   (Zbs l f (IntKind.wrap .u32 d)).bind fun q=>
   (Zbs m f (IntKind.wrap .u32 d)).bind fun r=>
   (n (IntKind.wrap .i64 (f + (1:Int))) q r j).bind fun b=>
   if (!b.2)=true then
    some (.inr (([]:ZL),false))
   else
    if ((List.length b.1:Int) == (0:Int))=true then
     some (.inl (a,c))
    else
     (some (decide ((List.length a:Int) > (0:Int)))).bind fun s=>
     (if s=true then
      (idx a (IntKind.wrap .i64 ((List.length a:Int) - (1:Int)))).bind fun t=>
      some ((IntKind.wrap .u32 (t.f_values.Hi + (1:Int))) == (IntKind.wrap .u32 d))
      else some false).bind fun u=>
     (some u).bind fun v=>
     (if v=true then
      (idx a (IntKind.wrap .i64 ((List.length a:Int) - (1:Int)))).bind fun w=>
      (Zan w.f_rest b.1).bind fun x=>
      some x
      else some false).bind fun y=>
     if y=true then
      (idx a (IntKind.wrap .i64 ((List.length a:Int) - (1:Int)))).bind fun o=>
      some (.inl ((List.set a (Int.toNat (IntKind.wrap .i64 ((List.length a:Int) - (1:Int)))) ({ o with f_values:=({ o.f_values with Hi:=(IntKind.wrap .u32 (IntKind.wrap .u64 (k - (1:Int)))) }:Zb) }:Zg)),c))
     else
      if List.length a + List.length [(Zg.mk (Zb.mk (IntKind.wrap .u32 d) (IntKind.wrap .u32 (IntKind.wrap .u64 (k - (1:Int))))) b.1)]≤lim then
      if (decide ((IntKind.wrap .i64 (c + (List.length b.1:Int))) > j))=true then
       some (.inr (([]:ZL),false))
      else
       some (.inl ((a++[(Zg.mk (Zb.mk (IntKind.wrap .u32 d) (IntKind.wrap .u32 (IntKind.wrap .u64 (k - (1:Int))))) b.1)]),(IntKind.wrap .i64 (c + (List.length b.1:Int)))))
      else none).bind fun(z:(((List Zg) × Int) ⊕ (ZL × Bool)))=>
   match z with
   | .inl (a0,a1)=>
     Zbn f l m j n g p a0 a1 (IntKind.wrap .i64 (i + (1:Int)))
   | .inr a2=>
     some (.inr a2)
  else
   some (.inl (a,c))
def Zbo (a:Int) (b:Zg):Nat→ZL→Int→Option ZL
 | 0,_,_=>none
 | g+1,c,d=>
  if (decide (d<(List.length b.f_rest:Int)))=true then
   (idx b.f_rest d).bind fun f=>
   if 0≤a∧a<5 then
   if List.length c + List.length [(Arr5.set f a b.f_values)]≤lim then
   Zbo a b g (c++[(Arr5.set f a b.f_values)]) (IntKind.wrap .i64 (d + (1:Int)))
   else none
   else none
  else
   some c
def Zbp (c:Int) (a:(List Zg)):Nat→ZL→Int→Option ZL
 | 0,_,_=>none
 | f+1,d,b=>
  if (decide (b<(List.length a:Int)))=true then
   (idx a b).bind fun g=>
   (Zbo c g fuel d (0:Int)).bind fun i=>
    Zbp c a f i (IntKind.wrap .i64 (b + (1:Int)))
  else
   some d
def Zai:Nat→Int→ZL→ZL→Int→Option (ZL × Bool)
 | 0,_,_,_,_=>none
 | nr+1,a,b,c,f=>
  if (a == (5:Int))=true then
   (Zfp (decide ((List.length b:Int) > (0:Int))) (decide ((List.length c:Int) > (0:Int)))).bind fun g=>
   if g=true then
    some ([(Arr5.mk Zn Zn Zn Zn Zn)],true)
   else
    some (([]:ZL),true)
  else
   (some ((IntKind.wrap .i64 ((List.length b:Int) + (List.length c:Int))) == (0:Int))).bind fun i=>
   (if i=true then
    (Zfp false false).bind fun j=>
    some (!j)
    else some false).bind fun k=>
   if k=true then
    some (([]:ZL),true)
   else
    (Zd4 a [b,c]).bind fun l=>
    (Zbn a b c f (Zai nr) l fuel ([]:(List Zg)) (0:Int) (0:Int)).bind fun(m:(((List Zg) × Int) ⊕ (ZL × Bool)))=>
    match m with
    | .inl (n,d)=>
      if 0≤d∧d≤(lim:Int) then
      (Zbp a n fuel ([]:ZL) (0:Int)).bind fun o=>
       some (o,true)
      else none
    | .inr p=>
      some p
def Zdb (b:ZL) (c:ZL):Option (ZL × Int):=
 (Zai fuel (0:Int) b c (4096:Int)).bind fun a=>
 if (!a.2)=true then
  some (([]:ZL),(3:Int))
 else
  some (a.1,(0:Int))
def Zfq (d:ZL) (f:ZL):Option (ZL × Int):=
 (Zc8 d).bind fun a=>
 if (a.2 != (0:Int))=true then
  some (([]:ZL),a.2)
 else
  (Zc8 f).bind fun b=>
  if (b.2 != (0:Int))=true then
   some (([]:ZL),b.2)
  else
   (Zdb a.1 b.1).bind fun c=>
   some (c.1,c.2)
def Zdx (b:ZL) (c:ZL):Option (ZL × Int):=
 (Zfq b c).bind fun a=>
 some (a.1,a.2)
def Za3 (c:Zl) (d:ZL) (f:ZL):Option (ZL × Zl):=
 (Zdx d f).bind fun a=>
 (Zcg c a.1 a.2).bind fun b=>
 some (b.1,b.2)
def Zen (a:Bool) (b:Bool):Option Bool:=
 (some a).bind fun c=>
 some (c && (!b))
def Zbe (f:Int) (l:ZL) (m:ZL) (j:Int) (n:Int→ZL→ZL→Int→Option (ZL × Bool)) (g:(List Int)):Nat→(List Zg)→Int→Int→Option (((List Zg) × Int) ⊕ (ZL × Bool))
 | 0,_,_,_=>none
 | p+1,a,c,i=>
  if (decide ((IntKind.wrap .i64 (i + (1:Int)))<(List.length g:Int)))=true then
   ((idx g i).bind fun d=>
   (idx g (IntKind.wrap .i64 (i + (1:Int)))).bind fun k=>
   (Zbs l f (IntKind.wrap .u32 d)).bind fun q=>
   (Zbs m f (IntKind.wrap .u32 d)).bind fun r=>
   (n (IntKind.wrap .i64 (f + (1:Int))) q r j).bind fun b=>
   if (!b.2)=true then
    some (.inr (([]:ZL),false))
   else
    if ((List.length b.1:Int) == (0:Int))=true then
     some (.inl (a,c))
    else
     (some (decide ((List.length a:Int) > (0:Int)))).bind fun s=>
     (if s=true then
      (idx a (IntKind.wrap .i64 ((List.length a:Int) - (1:Int)))).bind fun t=>
      some ((IntKind.wrap .u32 (t.f_values.Hi + (1:Int))) == (IntKind.wrap .u32 d))
      else some false).bind fun u=>
     (some u).bind fun v=>
     (if v=true then
      (idx a (IntKind.wrap .i64 ((List.length a:Int) - (1:Int)))).bind fun w=>
      (Zan w.f_rest b.1).bind fun x=>
      some x
      else some false).bind fun y=>
     if y=true then
      (idx a (IntKind.wrap .i64 ((List.length a:Int) - (1:Int)))).bind fun o=>
      some (.inl ((List.set a (Int.toNat (IntKind.wrap .i64 ((List.length a:Int) - (1:Int)))) ({ o with f_values:=({ o.f_values with Hi:=(IntKind.wrap .u32 (IntKind.wrap .u64 (k - (1:Int)))) }:Zb) }:Zg)),c))
     else
      if List.length a + List.length [(Zg.mk (Zb.mk (IntKind.wrap .u32 d) (IntKind.wrap .u32 (IntKind.wrap .u64 (k - (1:Int))))) b.1)]≤lim then
      if (decide ((IntKind.wrap .i64 (c + (List.length b.1:Int))) > j))=true then
       some (.inr (([]:ZL),false))
      else
       some (.inl ((a++[(Zg.mk (Zb.mk (IntKind.wrap .u32 d) (IntKind.wrap .u32 (IntKind.wrap .u64 (k - (1:Int))))) b.1)]),(IntKind.wrap .i64 (c + (List.length b.1:Int)))))
      else none).bind fun(z:(((List Zg) × Int) ⊕ (ZL × Bool)))=>
   match z with
   | .inl (a0,a1)=>
     Zbe f l m j n g p a0 a1 (IntKind.wrap .i64 (i + (1:Int)))
   | .inr a2=>
     some (.inr a2)
  else
   some (.inl (a,c))
def Zbf (a:Int) (b:Zg):Nat→ZL→Int→Option ZL
 | 0,_,_=>none
 | g+1,c,d=>
  if (decide (d<(List.length b.f_rest:Int)))=true then
   (idx b.f_rest d).bind fun f=>
   if 0≤a∧a<5 then
   if List.length c + List.length [(Arr5.set f a b.f_values)]≤lim then
   Zbf a b g (c++[(Arr5.set f a b.f_values)]) (IntKind.wrap .i64 (d + (1:Int)))
   else none
   else none
  else
   some c
def Zbg (c:Int) (a:(List Zg)):Nat→ZL→Int→Option ZL
 | 0,_,_=>none
 | f+1,d,b=>
  if (decide (b<(List.length a:Int)))=true then
   (idx a b).bind fun g=>
   (Zbf c g fuel d (0:Int)).bind fun i=>
    Zbg c a f i (IntKind.wrap .i64 (b + (1:Int)))
  else
   some d
def Zad:Nat→Int→ZL→ZL→Int→Option (ZL × Bool)
 | 0,_,_,_,_=>none
 | nr+1,a,b,c,f=>
  if (a == (5:Int))=true then
   (Zen (decide ((List.length b:Int) > (0:Int))) (decide ((List.length c:Int) > (0:Int)))).bind fun g=>
   if g=true then
    some ([(Arr5.mk Zn Zn Zn Zn Zn)],true)
   else
    some (([]:ZL),true)
  else
   (some ((IntKind.wrap .i64 ((List.length b:Int) + (List.length c:Int))) == (0:Int))).bind fun i=>
   (if i=true then
    (Zen false false).bind fun j=>
    some (!j)
    else some false).bind fun k=>
   if k=true then
    some (([]:ZL),true)
   else
    (Zd4 a [b,c]).bind fun l=>
    (Zbe a b c f (Zad nr) l fuel ([]:(List Zg)) (0:Int) (0:Int)).bind fun(m:(((List Zg) × Int) ⊕ (ZL × Bool)))=>
    match m with
    | .inl (n,d)=>
      if 0≤d∧d≤(lim:Int) then
      (Zbg a n fuel ([]:ZL) (0:Int)).bind fun o=>
       some (o,true)
      else none
    | .inr p=>
      some p
def Zcr (b:ZL) (c:ZL):Option (ZL × Int):=
 (Zad fuel (0:Int) b c (4096:Int)).bind fun a=>
 if (!a.2)=true then
  some (([]:ZL),(3:Int))
 else
  some (a.1,(0:Int))
def Ze2 (d:ZL) (f:ZL):Option (ZL × Int):=
 (Zc8 d).bind fun a=>
 if (a.2 != (0:Int))=true then
  some (([]:ZL),a.2)
 else
  (Zc8 f).bind fun b=>
  if (b.2 != (0:Int))=true then
   some (([]:ZL),b.2)
  else
   (Zcr a.1 b.1).bind fun c=>
   some (c.1,c.2)
def Ze7 (b:ZL) (c:ZL):Option (ZL × Int):=
 (Ze2 b c).bind fun a=>
 some (a.1,a.2)
def Zc1 (c:Zl) (d:ZL) (f:ZL):Option (ZL × Zl):=
 (Ze7 d f).bind fun a=>
 (Zcg c a.1 a.2).bind fun b=>
 some (b.1,b.2)
def Za8 (c:ZL):Nat→Zl→(List ZL)→ZL→Int→Option (Zl × (List ZL) × ZL)
 | 0,_,_,_,_=>none
 | k+1,d,a,b,f=>
  if (decide (f<(List.length c:Int)))=true then
   ((idx c f).bind fun g=>
   (Zgl g).bind fun l=>
   if (!l)=true then
    if List.length a + List.length [([]:ZL)]≤lim then
    some (d,(a++[([]:ZL)]),b)
    else none
   else
    (Za3 d b [g]).bind fun i=>
    if List.length a + List.length [i.1]≤lim then
    (Zc1 i.2 b [g]).bind fun j=>
    some (j.2,(a++[i.1]),j.1)
    else none).bind fun m=>
   match m with
   | (n,o,p)=>
    Za8 c k n o p (IntKind.wrap .i64 (f + (1:Int)))
  else
   some (d,a,b)
def Zdm (a:Zl) (b:ZL) (c:ZL):Option ((List ZL) × ZL × Zl):=
 (Za8 b fuel a ([]:(List ZL)) c (0:Int)).bind fun d=>
 match d with
 | (f,g,i)=>
  some (g,i,f)
def Zb1 (c:Zk) (g:ZL) (b:Int):Nat→ZL→Int→Option ZL
 | 0,_,_=>none
 | k+1,d,a=>
  if (decide (a<(5:Int)))=true then
   if 0≤a∧a<5 then
   if 0≤a∧a<5 then
   (idx g b).bind fun i=>
   if 0≤a∧a<5 then
   (idx d b).bind fun f=>
   if 0≤a∧a<5 then
   if 0≤a∧a<5 then
   (idx g b).bind fun l=>
   if 0≤a∧a<5 then
   (idx (List.set d (Int.toNat b) (Arr5.set f a ({ (Arr5.get f a) with Lo:=(IntKind.wrap .u32 ((Arr5.get c.To a).Lo + (IntKind.wrap .u32 ((Arr5.get i a).Lo - (Arr5.get c.From a).Lo)))) }:Zb))) b).bind fun j=>
   if 0≤a∧a<5 then
   Zb1 c g b k (List.set (List.set d (Int.toNat b) (Arr5.set f a ({ (Arr5.get f a) with Lo:=(IntKind.wrap .u32 ((Arr5.get c.To a).Lo + (IntKind.wrap .u32 ((Arr5.get i a).Lo - (Arr5.get c.From a).Lo)))) }:Zb))) (Int.toNat b) (Arr5.set j a ({ (Arr5.get j a) with Hi:=(IntKind.wrap .u32 ((Arr5.get c.To a).Lo + (IntKind.wrap .u32 ((Arr5.get l a).Hi - (Arr5.get c.From a).Lo)))) }:Zb))) (IntKind.wrap .i64 (a + (1:Int)))
   else none
   else none
   else none
   else none
   else none
   else none
   else none
  else
   some d
def Zdh (c:Zk) (a:ZL):Nat→ZL→Int→Option ZL
 | 0,_,_=>none
 | f+1,d,b=>
  if (decide (b<(List.length a:Int)))=true then
   (Zb1 c a b fuel d (0:Int)).bind fun g=>
    Zdh c a f g (IntKind.wrap .i64 (b + (1:Int)))
  else
   some d
def Zef (b:Zk) (a:ZL):Option ZL:=
 if List.length a≤lim then
 (Zdh b a fuel a (0:Int)).bind fun c=>
  some c
 else none
def Ze8 (d:ZL) (f:ZL):Option (ZL × Int):=
 (Zc8 d).bind fun a=>
 if (a.2 != (0:Int))=true then
  some (([]:ZL),a.2)
 else
  (Zc8 f).bind fun b=>
  if (b.2 != (0:Int))=true then
   some (([]:ZL),b.2)
  else
   (Zbj a.1 b.1).bind fun c=>
   some (c.1,c.2)
def Zgi (b:ZL) (c:ZL):Option (ZL × Int):=
 (Ze8 b c).bind fun a=>
 some (a.1,a.2)
def Zb6 (c:Zl) (d:ZL) (f:ZL):Option (ZL × Zl):=
 (Zgi d f).bind fun a=>
 (Zcg c a.1 a.2).bind fun b=>
 some (b.1,b.2)
def Zdd (a:Zl) (b:ZL):Option (ZL × Int):=
 if (a.f_err != (0:Int))=true then
  some (([]:ZL),a.f_err)
 else
  if List.length b≤lim then
  some (b,(0:Int))
  else none
def Zcs (b:(List Zk)) (c:((List ZL) × ZL × Zl)):Nat→Zl→ZL→Int→Option (Zl × ZL)
 | 0,_,_,_=>none
 | i+1,d,f,a=>
  if (decide (a<(List.length c.1:Int)))=true then
   ((idx c.1 a).bind fun j=>
   (idx b a).bind fun k=>
   (Zc2 k).bind fun l=>
   if l=true then
    (idx b a).bind fun m=>
    (Zef m j).bind fun n=>
    (Zb6 d f n).bind fun g=>
    some (g.2,g.1)
   else
    some (d,f)).bind fun o=>
   match o with
   | (p,q)=>
    Zcs b c i p q (IntKind.wrap .i64 (a + (1:Int)))
  else
   some (d,f)
def Zf0 (b:(List Zk)) (g:ZL):Option (ZL × Int):=
 (Zgo b).bind fun i=>
 (Zc7 Zce g).bind fun c=>
 (Zdm c.2 i c.1).bind fun a=>
 (Zcs b a fuel a.2.2 ([]:ZL) (0:Int)).bind fun j=>
 match j with
 | (k,l)=>
  (Zb6 k l a.2.1).bind fun d=>
  (Zdd d.2 d.1).bind fun f=>
  some (f.1,f.2)
def Zi8:Nat→ZB→Int→Option ZB
 | 0,_,_=>none
 | c+1,b,a=>
  if (decide (a<(5:Int)))=true then
   if 0≤a∧a<5 then
   if 0≤a∧a<5 then
   Zi8 c (Arr5.set b a ({ (Arr5.get b a) with Hi:=(Arr5.get Za2 a) }:Zb)) (IntKind.wrap .i64 (a + (1:Int)))
   else none
   else none
  else
   some b
def Zk9:Option ZB:=
 (Zi8 fuel Zo (0:Int)).bind fun a=>
  some a
def Zbw (c:(List Zk)) (i:(ZL × Zl)):Nat→Zl→ZL→ZL→Int→Option (Zl × ZL × ZL)
 | 0,_,_,_,_=>none
 | o+1,d,f,b,g=>
  if (decide (g<(List.length c:Int)))=true then
   ((idx c g).bind fun a=>
   (Zc2 a).bind fun p=>
   if (!p)=true then
    some (d,f,b)
   else
    (Za3 d b [a.From]).bind fun j=>
    (Zhv a).bind fun q=>
    (Za3 j.2 i.1 [a.To]).bind fun k=>
    (Zef q k.1).bind fun r=>
    (Za3 k.2 j.1 r).bind fun l=>
    (Zb6 l.2 f l.1).bind fun m=>
    (Zc1 m.2 b [a.From]).bind fun n=>
    some (n.2,m.1,n.1)).bind fun s=>
   match s with
   | (t,u,v)=>
    Zbw c i o t u v (IntKind.wrap .i64 (g + (1:Int)))
  else
   some (d,f,b)
def Zfu (f:(List Zk)) (g:ZL):Option (ZL × Int):=
 (Zc7 Zce g).bind fun a=>
 (Zk9).bind fun i=>
 (Zbw f a fuel a.2 ([]:ZL) [i] (0:Int)).bind fun j=>
 match j with
 | (k,l,m)=>
  (Za3 k m a.1).bind fun b=>
  (Zb6 b.2 l b.1).bind fun c=>
  (Zdd c.2 c.1).bind fun d=>
  some (d.1,d.2)
def Zd5 (a:ZL):Nat→ZL→Int→Option ZL
 | 0,_,_=>none
 | f+1,b,c=>
  if (decide (c<(List.length a:Int)))=true then
   ((idx a c).bind fun g=>
   (Zcn g).bind fun i=>
   if i=true then
    (idx a c).bind fun d=>
    if List.length b + List.length [d]≤lim then
    some (b++[d])
    else none
   else
    some b).bind fun j=>
    Zd5 a f j (IntKind.wrap .i64 (c + (1:Int)))
  else
   some b
def Zg7 (a:ZL):Option ZL:=
 (Zd5 a fuel ([]:ZL) (0:Int)).bind fun b=>
  some b
def Zd6 (c:ZL) (d:ZL) (b:Int):Nat→Int→Option (Unit ⊕ Bool)
 | 0,_=>none
 | f+1,a=>
  if (decide (a<(5:Int)))=true then
   (idx c b).bind fun g=>
   if 0≤a∧a<5 then
   (idx d b).bind fun i=>
   if 0≤a∧a<5 then
   if (!(Zdj (Arr5.get g a) (Arr5.get i a)))=true then
    some (.inr false)
   else
    Zd6 c d b f (IntKind.wrap .i64 (a + (1:Int)))
   else none
   else none
  else
   some (.inl ())
def Zd7 (a:ZL) (c:ZL) (d:Int):Nat→Int→Option (Unit ⊕ Bool)
 | 0,_=>none
 | f+1,b=>
  if (decide (b<(List.length a:Int)))=true then
   (Zd6 a c b fuel d).bind fun(g:(Unit ⊕ Bool))=>
   match g with
   | .inl ()=>
     Zd7 a c d f (IntKind.wrap .i64 (b + (1:Int)))
   | .inr i=>
     some (.inr i)
  else
   some (.inl ())
def Zf1 (a:ZL) (b:ZL) (c:Int):Option Bool:=
 if ((List.length a:Int) != (List.length b:Int))=true then
  some false
 else
  (Zd7 a b c fuel (0:Int)).bind fun(d:(Unit ⊕ Bool))=>
  match d with
  | .inl ()=>
    some true
  | .inr f=>
    some f
def Zcz (b:ZL) (a:Int) (d:Int):Nat→Int→Option Int
 | 0,_=>none
 | f+1,c=>
  (some (decide (c<(List.length b:Int)))).bind fun g=>
  (if g=true then
   (idx b c).bind fun i=>
   if 0≤a∧a<5 then
   (idx b d).bind fun j=>
   if 0≤a∧a<5 then
   some (Zdj (Arr5.get i a) (Arr5.get j a))
   else none
   else none
   else some false).bind fun k=>
  if k=true then
   Zcz b a d f (IntKind.wrap .i64 (c + (1:Int)))
  else
   some c
def Zb7 (c:ZL) (a:Int) (f:ZL→Int→Option Bool):Nat→ZL→Int→Option (Unit ⊕ Bool)
 | 0,_,_=>none
 | k+1,l,b=>
  if (decide (b<(List.length c:Int)))=true then
   ((Zcz c a b fuel b).bind fun d=>
    if 0≤b∧b≤d∧d≤(List.length c:Int) then
    (if (decide (b > (0:Int)))=true then
     (idx c (IntKind.wrap .i64 (b - (1:Int)))).bind fun g=>
     if 0≤a∧a<5 then
     (idx c b).bind fun i=>
     if 0≤a∧a<5 then
     (some (decide ((Arr5.get i a).Lo≤(Arr5.get g a).Hi))).bind fun m=>
     (if m=true then some true else
      (some ((Arr5.get i a).Lo == (IntKind.wrap .u32 ((Arr5.get g a).Hi + (1:Int))))).bind fun n=>
      (if n=true then
       (Zf1 l (List.drop (Int.toNat b) (List.take (Int.toNat d) c)) (IntKind.wrap .i64 (a + (1:Int)))).bind fun o=>
       some o
       else some false).bind fun p=>
      some p
      ).bind fun q=>
     if q=true then
      some (.inr false)
     else
      some (.inl ())
     else none
     else none
    else
     some (.inl ())).bind fun(r:(Unit ⊕ Bool))=>
    match r with
    | .inl ()=>
      (f (List.drop (Int.toNat b) (List.take (Int.toNat d) c)) (IntKind.wrap .i64 (a + (1:Int)))).bind fun s=>
      if (!s)=true then
       some (.inr false)
      else
       some (.inl (List.drop (Int.toNat b) (List.take (Int.toNat d) c)))
    | .inr t=>
      some (.inr t)
    else none).bind fun(u:(ZL ⊕ Bool))=>
   match u with
   | .inl j=>
     Zb7 c a f k j (IntKind.wrap .i64 (b + (List.length j:Int)))
   | .inr v=>
     some (.inr v)
  else
   some (.inl ())
def Zbl:Nat→ZL→Int→Option Bool
 | 0,_,_=>none
 | nr+1,a,b=>
  if (b == (5:Int))=true then
   some ((List.length a:Int) == (1:Int))
  else
   (Zb7 a b (Zbl nr) fuel ([]:ZL) (0:Int)).bind fun(c:(Unit ⊕ Bool))=>
   match c with
   | .inl ()=>
     some true
   | .inr d=>
     some d
def Zf2 (a:ZL):Option Bool:=
 (some (decide ((List.length a:Int)≤(4096:Int)))).bind fun b=>
 (if b=true then
  (Zg7 a).bind fun c=>
  some ((List.length c:Int) == (List.length a:Int))
  else some false).bind fun d=>
 (some d).bind fun f=>
 (if f=true then
  (Zbl fuel a (0:Int)).bind fun g=>
  some g
  else some false).bind fun i=>
 some i
def Zf3 (a:ZL):Option (ZL × Int):=
 (Zf2 a).bind fun c=>
 if c=true then
  some (a,(0:Int))
 else
  (Zgn a).bind fun b=>
  some (b.1,b.2)
def Zeg (d:ZL) (f:ZL) (g:Int):Option (ZL × Int):=
 (Zf3 d).bind fun a=>
 if (a.2 != (0:Int))=true then
  some (([]:ZL),a.2)
 else
  (Zf3 f).bind fun b=>
  if (b.2 != (0:Int))=true then
   some (([]:ZL),b.2)
  else
   (Zbv fuel a.1 b.1 g (0:Int)).bind fun i=>
   (Zfa i).bind fun c=>
   some (c.1,c.2)
def Zf4 (b:ZL) (c:ZL):Option (ZL × Int):=
 (Zeg b c (0:Int)).bind fun a=>
 some (a.1,a.2)
def Zeo (b:ZL) (c:ZL):Option (ZL × Int):=
 (Zeg b c (1:Int)).bind fun a=>
 some (a.1,a.2)
def Zew (b:ZL) (c:ZL):Option (ZL × Int):=
 (Zeg b c (2:Int)).bind fun a=>
 some (a.1,a.2)
def Z2 (a:Zp) (d:Int) (b:ZL) (c:ZL):Option (ZL × Zp):=
 if a.f_failed=true then
  some (([]:ZL),a)
 else
  (if (d == (0:Int))=true then
   (Zf4 b c).bind fun f=>
   some (f.1,f.2)
  else
   if (d == (1:Int))=true then
    (Zeo b c).bind fun g=>
    some (g.1,g.2)
   else
    (Zew b c).bind fun i=>
    some (i.1,i.2)).bind fun j=>
  match j with
  | (k,l)=>
   some (k,({ a with f_failed:=(l != (0:Int)) }:Zp))
def Zct (a:(List Zk)):Nat→Zp→(List ZL)→ZL→Int→Option (Zp × (List ZL) × ZL)
 | 0,_,_,_,_=>none
 | j+1,f,b,d,c=>
  if (decide (c<(List.length a:Int)))=true then
   ((idx a c).bind fun k=>
   (Zek k).bind fun l=>
   if (!l)=true then
    if List.length b + List.length [([]:ZL)]≤lim then
    some (f,(b++[([]:ZL)]),d)
    else none
   else
    (idx a c).bind fun m=>
    (Z2 f (1:Int) d [m.From]).bind fun g=>
    if List.length b + List.length [g.1]≤lim then
    (idx a c).bind fun n=>
    (Z2 g.2 (2:Int) d [n.From]).bind fun i=>
    some (i.2,(b++[g.1]),i.1)
    else none).bind fun o=>
   match o with
   | (p,q,r)=>
    Zct a j p q r (IntKind.wrap .i64 (c + (1:Int)))
  else
   some (f,b,d)
def Zf5 (b:Zp) (c:(List Zk)) (d:ZL):Option ((List ZL) × ZL × Zp):=
 (Z2 b (0:Int) d ([]:ZL)).bind fun a=>
 (Zct c fuel a.2 ([]:(List ZL)) a.1 (0:Int)).bind fun f=>
 match f with
 | (g,i,j)=>
  some (i,j,g)
def Zdi (a:ZL) (d:ZB) (f:ZB):Nat→ZL→Int→Option ZL
 | 0,_,_=>none
 | i+1,b,c=>
  if (decide (c<(List.length a:Int)))=true then
   (idx a c).bind fun j=>
   (Zg5 j d f).bind fun g=>
   if List.length b + List.length [g]≤lim then
   Zdi a d f i (b++[g]) (IntKind.wrap .i64 (c + (1:Int)))
   else none
  else
   some b
def Zeh (a:ZL) (b:ZB) (c:ZB):Option ZL:=
 (Zdi a b c fuel ([]:ZL) (0:Int)).bind fun d=>
  some d
def Zdy (a:Zp) (b:ZL):Option (ZL × Int):=
 if a.f_failed=true then
  some (([]:ZL),(3:Int))
 else
  some (b,(0:Int))
def Zcu (b:(List Zk)) (c:((List ZL) × ZL × Zp)):Nat→Zp→ZL→Int→Option (Zp × ZL)
 | 0,_,_,_=>none
 | i+1,d,f,a=>
  if (decide (a<(List.length b:Int)))=true then
   (idx c.1 a).bind fun j=>
   (idx b a).bind fun k=>
   (idx b a).bind fun l=>
   (Zeh j k.From l.To).bind fun m=>
   (Z2 d (0:Int) f m).bind fun g=>
   Zcu b c i g.2 g.1 (IntKind.wrap .i64 (a + (1:Int)))
  else
   some (d,f)
def Zf6 (b:(List Zk)) (f:ZL):Option (ZL × Int):=
 (Zf5 (Zp.mk false) b f).bind fun a=>
 (Zcu b a fuel a.2.2 ([]:ZL) (0:Int)).bind fun g=>
 match g with
 | (i,j)=>
  (Z2 i (0:Int) j a.2.1).bind fun c=>
  (Zdy c.2 c.1).bind fun d=>
  some (d.1,d.2)
def Zbx (a:(List Zk)) (g:(ZL × Zp)):Nat→Zp→ZL→ZL→Int→Option (Zp × ZL × ZL)
 | 0,_,_,_,_=>none
 | n+1,d,c,f,b=>
  if (decide (b<(List.length a:Int)))=true then
   ((idx a b).bind fun o=>
   (Zek o).bind fun p=>
   if (!p)=true then
    some (d,c,f)
   else
    (idx a b).bind fun q=>
    (Z2 d (1:Int) c [q.From]).bind fun i=>
    (idx a b).bind fun r=>
    (Z2 i.2 (1:Int) g.1 [r.To]).bind fun j=>
    (idx a b).bind fun s=>
    (idx a b).bind fun t=>
    (Zeh j.1 s.To t.From).bind fun u=>
    (Z2 j.2 (1:Int) i.1 u).bind fun k=>
    (Z2 k.2 (0:Int) f k.1).bind fun l=>
    (idx a b).bind fun v=>
    (Z2 l.2 (2:Int) c [v.From]).bind fun m=>
    some (m.2,m.1,l.1)).bind fun w=>
   match w with
   | (x,y,z)=>
    Zbx a g n x y z (IntKind.wrap .i64 (b + (1:Int)))
  else
   some (d,c,f)
def Zfv (f:(List Zk)) (g:ZL):Option (ZL × Int):=
 (Z2 (Zp.mk false) (0:Int) g ([]:ZL)).bind fun a=>
 (Zgm).bind fun i=>
 (Zbx f a fuel a.2 [i] ([]:ZL) (0:Int)).bind fun j=>
 match j with
 | (k,l,m)=>
  (Z2 k (1:Int) l a.1).bind fun b=>
  (Z2 b.2 (0:Int) m b.1).bind fun c=>
  (Zdy c.2 c.1).bind fun d=>
  some (d.1,d.2)
def Zb8 (c:(List Zk)) (d:((List ZL) × ZL × Zl)):Nat→(List ZL)→Int→Option (List ZL)
 | 0,_,_=>none
 | g+1,b,a=>
  if (decide (a<(List.length d.1:Int)))=true then
   ((idx d.1 a).bind fun i=>
   (idx c a).bind fun j=>
   (Zc2 j).bind fun k=>
   if k=true then
    (idx c a).bind fun l=>
    (Zef l i).bind fun f=>
    if List.length b + List.length [f]≤lim then
    some (b++[f])
    else none
   else
    some b).bind fun m=>
    Zb8 c d g m (IntKind.wrap .i64 (a + (1:Int)))
  else
   some b
def Zb9 (a:(List ZL)) (b:Int):Nat→Int→Option (Unit ⊕ (Bool × Int))
 | 0,_=>none
 | f+1,c=>
  if (decide (c<(List.length (List.drop (Int.toNat (0:Int)) (List.take (Int.toNat b) a)):Int)))=true then
   (idx (List.drop (Int.toNat (0:Int)) (List.take (Int.toNat b) a)) c).bind fun g=>
   (idx a b).bind fun i=>
   (Zdx i g).bind fun d=>
   (some (d.2 != (0:Int))).bind fun j=>
   if (j || (decide ((List.length d.1:Int) > (0:Int))))=true then
    some (.inr (false,(0:Int)))
   else
    Zb9 a b f (IntKind.wrap .i64 (c + (1:Int)))
  else
   some (.inl ())
def Zca (c:(List ZL)):Nat→(List ZL)→Int→Option ((List ZL) ⊕ (Bool × Int))
 | 0,_,_=>none
 | d+1,b,a=>
  if (decide (a<(List.length c:Int)))=true then
   if 0≤(0:Int)∧(0:Int)≤a∧a≤(List.length b:Int) then
   (Zb9 b a fuel (0:Int)).bind fun(f:(Unit ⊕ (Bool × Int)))=>
   match f with
   | .inl ()=>
     Zca c d b (IntKind.wrap .i64 (a + (1:Int)))
   | .inr g=>
     some (.inr g)
   else none
  else
   some (.inl b)
def Zfk (a:(List Zk)) (b:ZL):Option (Bool × Int):=
 (Zf0 a b).bind fun c=>
 if (c.2 != (0:Int))=true then
  some (false,c.2)
 else
  (Zgo a).bind fun i=>
  (Zc7 Zce b).bind fun d=>
  (Zdm d.2 i d.1).bind fun f=>
  (Zb8 a f fuel [f.2.1] (0:Int)).bind fun g=>
   (Zca g fuel g (0:Int)).bind fun(j:((List ZL) ⊕ (Bool × Int)))=>
   match j with
   | .inl _=>
     some (true,(0:Int))
   | .inr k=>
     some k
def Zdo (c:ZL) (a:ZL) (d:Int):Nat→Int→Option (Unit ⊕ Bool)
 | 0,_=>none
 | f+1,b=>
  if (decide (b<(List.length a:Int)))=true then
   (idx c d).bind fun g=>
   (idx a b).bind fun i=>
   (Zfj g i).bind fun j=>
   if j.2=true then
    some (.inr true)
   else
    Zdo c a d f (IntKind.wrap .i64 (b + (1:Int)))
  else
   some (.inl ())
def Zei (a:ZL) (c:ZL):Nat→Int→Option (Unit ⊕ Bool)
 | 0,_=>none
 | d+1,b=>
  if (decide (b<(List.length a:Int)))=true then
   (Zdo a c b fuel (0:Int)).bind fun(f:(Unit ⊕ Bool))=>
   match f with
   | .inl ()=>
     Zei a c d (IntKind.wrap .i64 (b + (1:Int)))
   | .inr g=>
     some (.inr g)
  else
   some (.inl ())
def Zhp (a:ZL) (b:ZL):Option Bool:=
 (Zei a b fuel (0:Int)).bind fun(c:(Unit ⊕ Bool))=>
 match c with
 | .inl ()=>
   some false
 | .inr d=>
   some d
def Zcb (a:(List ZL)) (c:ZL):Nat→Int→Option (Unit ⊕ (Bool × Int))
 | 0,_=>none
 | d+1,b=>
  if (decide (b<(List.length a:Int)))=true then
   (idx a b).bind fun f=>
   (Zhp c f).bind fun g=>
   if g=true then
    some (.inr (false,(0:Int)))
   else
    Zcb a c d (IntKind.wrap .i64 (b + (1:Int)))
  else
   some (.inl ())
def Zc0 (b:(List Zk)) (f:((List ZL) × ZL × Zp)):Nat→(List ZL)→Int→Option ((List ZL) ⊕ (Bool × Int))
 | 0,_,_=>none
 | g+1,c,a=>
  if (decide (a<(List.length b:Int)))=true then
   (idx f.1 a).bind fun i=>
   (idx b a).bind fun j=>
   (idx b a).bind fun k=>
   (Zeh i j.From k.To).bind fun d=>
   (Zcb c d fuel (0:Int)).bind fun(l:(Unit ⊕ (Bool × Int)))=>
   match l with
   | .inl ()=>
     if List.length c + List.length [d]≤lim then
     Zc0 b f g (c++[d]) (IntKind.wrap .i64 (a + (1:Int)))
     else none
   | .inr m=>
     some (.inr m)
  else
   some (.inl c)
def Zfl (a:(List Zk)) (b:ZL):Option (Bool × Int):=
 (Zf6 a b).bind fun c=>
 if (c.2 != (0:Int))=true then
  some (false,c.2)
 else
  (Zf5 (Zp.mk false) a b).bind fun d=>
  (Zc0 a d fuel [d.2.1] (0:Int)).bind fun(f:((List ZL) ⊕ (Bool × Int)))=>
  match f with
  | .inl _=>
    some (true,(0:Int))
  | .inr g=>
    some g
def Zgp (a:ZL) (b:ZL):Option Bool:=
 (Zfn a b).bind fun c=>
 some c
def Zex (a:(List Zk)) (b:ZL):Option Bool:=
 (Zf0 a b).bind fun c=>
 (Zf6 a b).bind fun d=>
 (Zfu a b).bind fun f=>
 (Zfv a b).bind fun g=>
 (Zfk a b).bind fun i=>
 (Zfl a b).bind fun j=>
 (Zgp c.1 d.1).bind fun k=>
 (some k).bind fun l=>
 (some (l && (c.2 == d.2))).bind fun m=>
 (if m=true then
  (Zgp f.1 g.1).bind fun n=>
  some n
  else some false).bind fun o=>
 (some o).bind fun p=>
 (some (p && (f.2 == g.2))).bind fun q=>
 (some (q && (i.1 == j.1))).bind fun r=>
 some (r && (i.2 == j.2))
def Zim (a:(List Zk)):Option Bool:=
 some (decide ((List.length a:Int) > (4:Int)))
def Zg8 (a:ZL):Option Bool:=
 some (decide ((List.length a:Int) > (6:Int)))
def Zbh:Nat→Zh→Int→Option (Zh ⊕ Bool)
 | 0,_,_=>none
 | i+1,c,d=>
  if (decide (d<(3:Int)))=true then
   (Zfi c (3:Int) true).bind fun a=>
   (Zgg a.2 (3:Int)).bind fun b=>
   (Zex a.1 b.1).bind fun j=>
   (some (!j)).bind fun k=>
   (if k=true then some (true,b.2) else
    (Zem b.2 (2:Int) true).bind fun f=>
    (Zex a.1 f.1).bind fun l=>
    some ((!l),f.2)
    ).bind fun g=>
   (some g.1).bind fun m=>
   (if m=true then some true else
    (Zhm a.1).bind fun n=>
    (Zex a.1 n).bind fun o=>
    some (!o)
    ).bind fun p=>
   if p=true then
    some (.inr false)
   else
    Zbh i g.2 (IntKind.wrap .i64 (d + (1:Int)))
  else
   some (.inl c)
def Zfh (c:(List Int)) (a:(List Zk)) (b:ZL):Option Bool:=
 (Zju c).bind fun d=>
 (Zbh fuel d (0:Int)).bind fun(f:(Zh ⊕ Bool))=>
 match f with
 | .inl _=>
   (Zim a).bind fun g=>
   (some g).bind fun i=>
   (if i=true then some true else
    (Zg8 b).bind fun j=>
    some j
    ).bind fun k=>
   (some k).bind fun l=>
   (if l=true then some true else
    (Zex a b).bind fun m=>
    (some m).bind fun n=>
    (if n=true then
     (Zkq).bind fun o=>
     some o
     else some false).bind fun p=>
    some p
    ).bind fun q=>
   some q
 | .inr r=>
   some r
end Go.AM
set_option maxRecDepth 1000000
namespace Go.AM
open Go Go.Proofs
def glob:Glob:=[(0,Zsi Za2)]
def T0:Tab:=[]
theorem T0_ok:T0.ok Tryz.prog glob:=Tab.nil
def T1:Tab:=(147,[.sc (.int .i64 2),.sl 10 [[.sc (.int .u32 0),.sc (.int .u32 4294967295),.sc (.int .u32 5),.sc (.int .u32 5),.sc (.int .u32 0),.sc (.int .u32 255),.sc (.int .u32 0),.sc (.int .u32 65535),.sc (.int .u32 80),.sc (.int .u32 80)]],.sl 10 [[.sc (.int .u32 0),.sc (.int .u32 4294967295),.sc (.int .u32 5),.sc (.int .u32 5),.sc (.int .u32 0),.sc (.int .u32 255),.sc (.int .u32 0),.sc (.int .u32 65535),.sc (.int .u32 80),.sc (.int .u32 80)]],.sc (.func (.func 134) #[] #[]),.sc (.int .i64 4096)],.tup [.sl 10 [[.sc (.int .u32 0),.sc (.int .u32 0),.sc (.int .u32 0),.sc (.int .u32 0),.sc (.int .u32 0),.sc (.int .u32 255),.sc (.int .u32 0),.sc (.int .u32 65535),.sc (.int .u32 80),.sc (.int .u32 80)]],.sc (.bool true)]) :: T0
theorem T1_ok:T1.ok Tryz.prog glob:=Tab.cons T0_ok 100000 (by kernel_rfl)
def T2:Tab:=(133,[.sl 10 [[.sc (.int .u32 0),.sc (.int .u32 4294967295),.sc (.int .u32 5),.sc (.int .u32 5),.sc (.int .u32 0),.sc (.int .u32 255),.sc (.int .u32 0),.sc (.int .u32 65535),.sc (.int .u32 80),.sc (.int .u32 80)]],.sl 10 [[.sc (.int .u32 0),.sc (.int .u32 4294967295),.sc (.int .u32 5),.sc (.int .u32 5),.sc (.int .u32 0),.sc (.int .u32 255),.sc (.int .u32 0),.sc (.int .u32 65535),.sc (.int .u32 80),.sc (.int .u32 80)]],.sc (.func (.func 134) #[] #[])],.tup [.sl 10 [[.sc (.int .u32 0),.sc (.int .u32 4294967295),.sc (.int .u32 5),.sc (.int .u32 5),.sc (.int .u32 0),.sc (.int .u32 255),.sc (.int .u32 0),.sc (.int .u32 65535),.sc (.int .u32 80),.sc (.int .u32 80)]],.sc (.int .i64 0)]) :: T1
theorem T2_ok:T2.ok Tryz.prog glob:=Tab.cons T1_ok 100000 (by kernel_rfl)
def T3:Tab:=(147,[.sc (.int .i64 2),.sl 10 [[.sc (.int .u32 0),.sc (.int .u32 4294967295),.sc (.int .u32 5),.sc (.int .u32 5),.sc (.int .u32 0),.sc (.int .u32 255),.sc (.int .u32 0),.sc (.int .u32 65535),.sc (.int .u32 80),.sc (.int .u32 80)]],.sl 10 [[.sc (.int .u32 0),.sc (.int .u32 4294967295),.sc (.int .u32 5),.sc (.int .u32 5),.sc (.int .u32 0),.sc (.int .u32 255),.sc (.int .u32 0),.sc (.int .u32 65535),.sc (.int .u32 80),.sc (.int .u32 80)]],.sc (.func (.func 135) #[] #[]),.sc (.int .i64 4096)],.tup [.sl 10 [],.sc (.bool true)]) :: T2
theorem T3_ok:T3.ok Tryz.prog glob:=Tab.cons T2_ok 100000 (by kernel_rfl)
def T4:Tab:=(133,[.sl 10 [[.sc (.int .u32 0),.sc (.int .u32 4294967295),.sc (.int .u32 5),.sc (.int .u32 5),.sc (.int .u32 0),.sc (.int .u32 255),.sc (.int .u32 0),.sc (.int .u32 65535),.sc (.int .u32 80),.sc (.int .u32 80)]],.sl 10 [[.sc (.int .u32 0),.sc (.int .u32 4294967295),.sc (.int .u32 5),.sc (.int .u32 5),.sc (.int .u32 0),.sc (.int .u32 255),.sc (.int .u32 0),.sc (.int .u32 65535),.sc (.int .u32 80),.sc (.int .u32 80)]],.sc (.func (.func 135) #[] #[])],.tup [.sl 10 [],.sc (.int .i64 0)]) :: T3
theorem T4_ok:T4.ok Tryz.prog glob:=Tab.cons T3_ok 100000 (by kernel_rfl)
def T5:Tab:=(147,[.sc (.int .i64 1),.sc (.slice none 0 0),.sl 10 [[.sc (.int .u32 0),.sc (.int .u32 4294967295),.sc (.int .u32 7),.sc (.int .u32 7),.sc (.int .u32 0),.sc (.int .u32 255),.sc (.int .u32 0),.sc (.int .u32 65535),.sc (.int .u32 8080),.sc (.int .u32 8080)]],.sc (.func (.func 132) #[] #[]),.sc (.int .i64 4096)],.tup [.sl 10 [[.sc (.int .u32 0),.sc (.int .u32 0),.sc (.int .u32 7),.sc (.int .u32 7),.sc (.int .u32 0),.sc (.int .u32 255),.sc (.int .u32 0),.sc (.int .u32 65535),.sc (.int .u32 8080),.sc (.int .u32 8080)]],.sc (.bool true)]) :: T4
theorem T5_ok:T5.ok Tryz.prog glob:=Tab.cons T4_ok 100000 (by kernel_rfl)
def T6:Tab:=(147,[.sc (.int .i64 1),.sl 10 [[.sc (.int .u32 0),.sc (.int .u32 4294967295),.sc (.int .u32 7),.sc (.int .u32 7),.sc (.int .u32 0),.sc (.int .u32 255),.sc (.int .u32 0),.sc (.int .u32 65535),.sc (.int .u32 8080),.sc (.int .u32 8080)]],.sc (.slice none 0 0),.sc (.func (.func 132) #[] #[]),.sc (.int .i64 4096)],.tup [.sl 10 [[.sc (.int .u32 0),.sc (.int .u32 0),.sc (.int .u32 7),.sc (.int .u32 7),.sc (.int .u32 0),.sc (.int .u32 255),.sc (.int .u32 0),.sc (.int .u32 65535),.sc (.int .u32 8080),.sc (.int .u32 8080)]],.sc (.bool true)]) :: T5
theorem T6_ok:T6.ok Tryz.prog glob:=Tab.cons T5_ok 100000 (by kernel_rfl)
def T7:Tab:=(16,[.sl 20 [[.sc (.int .u32 0),.sc (.int .u32 4294967295),.sc (.int .u32 5),.sc (.int .u32 5),.sc (.int .u32 0),.sc (.int .u32 255),.sc (.int .u32 0),.sc (.int .u32 65535),.sc (.int .u32 80),.sc (.int .u32 80),.sc (.int .u32 0),.sc (.int .u32 4294967295),.sc (.int .u32 7),.sc (.int .u32 7),.sc (.int .u32 0),.sc (.int .u32 255),.sc (.int .u32 0),.sc (.int .u32 65535),.sc (.int .u32 8080),.sc (.int .u32 8080)]],.sl 10 [[.sc (.int .u32 0),.sc (.int .u32 4294967295),.sc (.int .u32 5),.sc (.int .u32 5),.sc (.int .u32 0),.sc (.int .u32 255),.sc (.int .u32 0),.sc (.int .u32 65535),.sc (.int .u32 80),.sc (.int .u32 80)]]],.tup [.sl 10 [[.sc (.int .u32 0),.sc (.int .u32 4294967295),.sc (.int .u32 7),.sc (.int .u32 7),.sc (.int .u32 0),.sc (.int .u32 255),.sc (.int .u32 0),.sc (.int .u32 65535),.sc (.int .u32 8080),.sc (.int .u32 8080)]],.sc (.int .i64 0)]) :: T6
theorem T7_ok:T7.ok Tryz.prog glob:=Tab.cons T6_ok 100000 (by kernel_rfl)
def T8:Tab:=(14,[],.sc (.bool true)) :: T7
theorem T8_ok:T8.ok Tryz.prog glob:=Tab.cons T7_ok 100000 (by kernel_rfl)
end Go.AM
set_option maxRecDepth 100000
namespace Go.AM
open Go Go.Proofs
def Zto (r:Bool):PV→List Blk→Prop:=fun p K=>p=(vb r)∧K=[]
theorem Ztp (r:Bool) (hF:Zkq=some r):ACall Tryz.prog glob 14 [] [] (Zto r):=by
 have hr:=someb hF
 subst hr
 exact(T8_ok _ (List.mem_cons.2 (.inl rfl))).1
def Zwa (r:Zh):PV→List Blk→Prop:=fun p K=>p=(.ptr 0 0)∧K=[.cells (Zj r)]
theorem Zwb (a:(List Int)) (r:Zh) (hF:Zju a=some r):ACall Tryz.prog glob 8 [(slc 1 Zag a)] [] (Zwa r):=by
 refine ACall.body Tryz.func8 rfl (by kernel_rfl) ?_
 unfold Zju at hF
 refine AWP.seq (AWP.rg0 [] [(0,(slc 1 Zag a))] (AWP.seq (AWP.rg [] [(2,(.ptr 0 0))] [.cells (Zj (Zh.mk a (0:Int)))] (AWP.ret ?_))))
 have hr:=someb hF
 subst hr
 exact(FnQ.f0 1 (.inr rfl))
def Zwc (r:Int):PV→List Blk→Prop:=fun p K=>p=(i64 r)∧K=[]
theorem Zpb (a:Int) (b:Int) (r:Int) (hF:Zhk a b=some r):ACall Tryz.prog glob 86 [(i64 a),(i64 b)] [] (Zwc r):=by
 refine ACall.body Tryz.func86 rfl (by kernel_rfl) ?_
 unfold Zhk at hF
 refine AWP.seq (AWP.rg0 [] [(0,(i64 a)),(1,(i64 b))] (AWP.seq ?_))
 obtain⟨c,hF⟩:=chkb hF
 refine AWP.rg0 [(4,.rem c)] [(4,(i64 (ZI (Int.tmod (IntKind.wrap .u64 a) (IntKind.wrap .u64 b)))))] (AWP.ret ?_)
 have hr:=someb hF
 subst hr
 exact(FnQ.f0 0 (.inr rfl))
def Zpc (r:(Int × Zh)):PV→List Blk→Prop:=fun p K=>p=(i64 r.1)∧K=[.cells (Zj r.2)]
theorem Z5 (a:Zh) (b:Int) (r:(Int × Zh)) (hF:Zu a b=some r):ACall Tryz.prog glob 32 [(.ptr 0 0),(i64 b)] [.cells (Zj a)] (Zpc r):=by
 refine ACall.body Tryz.func32 rfl (by kernel_rfl) ?_
 unfold Zu at hF
 refine AWP.seq (AWP.rg0 [] [(0,(.ptr 0 0)),(1,(i64 b))] (AWP.seq (AWP.seq ?_)))
 obtain⟨d,c,hF⟩:=bindb hF
 replace c:=someb c
 refine AWP.to [(0,(.ptr 0 0)),(1,(i64 b)),(18,(vb (d || (decide (a.f_i ≥ (List.length a.f_l:Int))))))] [.cells (Zj a)] ?_ ?_
 ·cases d with
  | false=>
   exact AWP.drT [(2,.bool c),(11,.len Zag a.f_l)] 14 [] [] []
  | true=>
   exact AWP.drT [(2,.bool c)] 14 [] [] []
 refine AWP.cif hF (fun g hF=>?_) (fun g hF=>?_)
 ·refine AWP.seq (AWP.rg0 [] [(4,(i64 (0:Int)))] (AWP.ret ?_))
  have hr:=someb hF
  subst hr
  exact(FnQ.f0 1 (.inr rfl))
 ·refine AWP.skip (AWP.seq (AWP.rg [] [(0,(.ptr 0 0)),(1,(i64 b))] [.cells (Zj ({ a with f_i:=(ZI (a.f_i + (1:Int))) }:Zh))] (AWP.seq ?_)))
  obtain⟨i,j,hF⟩:=bindb hF
  obtain⟨f,k,hF⟩:=bindb hF
  refine AWP.dr [(9,.idx Zag j),(12,.call Tryz.func86 [] (Zpb i b f k))] 13 [] [] [] [(4,(i64 f))] [.cells (Zj ({ a with f_i:=(ZI (a.f_i + (1:Int))) }:Zh))] (AWP.ret ?_)
  have hr:=someb hF
  subst hr
  exact(FnQ.f0 1 (.inr rfl))
def Zoh (r:Int):PV→List Blk→Prop:=fun p K=>p=(u32 r)∧K=[]
abbrev Zvj (r:Int):Exit→St→List Blk→Prop:=FnQ Tryz.prog Tryz.f43.results 0 (Zoh r)
theorem Zi9 (a:Int) (r:Int) (hF:Zga a=some r):ACall Tryz.prog glob 43 [(i64 a)] [] (Zoh r):=by
 refine ACall.body Tryz.func43 rfl (by kernel_rfl) ?_
 unfold Zga at hF
 refine AWP.seq (AWP.rg0 [] [(0,(i64 a))] ?_)
 obtain⟨b,c,hF⟩:=bindb hF
 refine AWP.seq ?_
 refine AWP.mid (fun e st H=>(e=.normal∧b=(.inl ())∧st=[]∧H=[])∨(e=.ret∧∃ r,b=(.inr r)∧Zvj r e st H)) ?_ ?_
 ·clear hF
  have hF:=c
  refine AWP.seq (AWP.rg0 [] [(3,(i64 a))] (AWP.block ?_))
  obtain⟨d,f,hF⟩:=bindb hF
  refine AWP.seq ?_
  refine AWP.mid (fun e st H=>e=.normal∧st=[(3,(i64 a)),(4,(vb d))]∧H=[]) ?_ ?_
  ·clear hF
   have hF:=f
   refine AWP.seq (AWP.rg0 [] [(3,(i64 a)),(4,(vb (a == (0:Int))))] ?_)
   refine AWP.cif hF (fun g hF=>?_) (fun g hF=>?_)
   ·refine AWP.skip (LeQ.start (LeQ.pk [3,4] 0 ?_))
    have hr:=someb hF
    subst hr
    exact⟨rfl,by kernel_rfl,by kernel_rfl⟩
   ·refine AWP.rg0 [] [(3,(i64 a)),(4,(vb (a == (1:Int))))] (LeQ.start (LeQ.pk [3,4] 0 ?_))
    have hr:=someb hF
    subst hr
    exact⟨rfl,by kernel_rfl,by kernel_rfl⟩
  ·rintro _ _ _ ⟨rfl,rfl,rfl⟩
   refine AWP.cif hF (fun i hF=>?_) (fun i hF=>?_)
   ·refine AWP.seq (AWP.rg0 [] [(2,(u32 (4294967295:Int)))] (AWP.ret ?_))
    exact LeQ.of (.inr ⟨rfl,(4294967295:Int),(someb hF).symm,(FnQ.f0 0 (.inr rfl))⟩)
   ·refine AWP.seq (AWP.rg0 [] [(3,(i64 a)),(7,(vb (a == (2:Int))))] ?_)
    refine AWP.cif hF (fun j hF=>?_) (fun j hF=>?_)
    ·refine AWP.seq (AWP.rg0 [] [(2,(u32 (255:Int)))] (AWP.ret ?_))
     exact LeQ.of (.inr ⟨rfl,(255:Int),(someb hF).symm,(FnQ.f0 0 (.inr rfl))⟩)
    ·obtain⟨k,l,hF⟩:=bindb hF
     refine AWP.seq ?_
     refine AWP.mid (fun e st H=>e=.normal∧st=[(9,(vb k))]∧H=[]) ?_ ?_
     ·clear hF
      have hF:=l
      refine AWP.seq (AWP.rg0 [] [(3,(i64 a)),(9,(vb (a == (3:Int))))] ?_)
      refine AWP.cif hF (fun m hF=>?_) (fun m hF=>?_)
      ·refine AWP.skip (LeQ.start (LeQ.pk [9] 0 ?_))
       have hr:=someb hF
       subst hr
       exact⟨rfl,by kernel_rfl,by kernel_rfl⟩
      ·refine AWP.rg0 [] [(9,(vb (a == (4:Int))))] (LeQ.start (LeQ.pk [9] 0 ?_))
       have hr:=someb hF
       subst hr
       exact⟨rfl,by kernel_rfl,by kernel_rfl⟩
     ·rintro _ _ _ ⟨rfl,rfl,rfl⟩
      refine AWP.cif hF (fun n hF=>?_) (fun n hF=>?_)
      ·refine AWP.seq (AWP.rg0 [] [(2,(u32 (65535:Int)))] (AWP.ret ?_))
       exact LeQ.of (.inr ⟨rfl,(65535:Int),(someb hF).symm,(FnQ.f0 0 (.inr rfl))⟩)
      ·refine AWP.skip (LeQ.start (LeQ.pk [] 0 ?_))
       exact(.inl ⟨rfl,(someb hF).symm,by kernel_rfl,by kernel_rfl⟩)
 ·rintro _ _ _ (⟨rfl,rfl,rfl,rfl⟩ | ⟨rfl,o,rfl,hq⟩)
  ·refine AWP.seq (AWP.rg0 [] [(2,(u32 (0:Int)))] (AWP.ret ?_))
   have hr:=someb hF
   subst hr
   exact(FnQ.f0 0 (.inr rfl))
  ·have hr:=someb hF
   subst hr
   exact hq
def Ztq (r:ZB):PV→List Blk→Prop:=fun p K=>p=(Zt r)∧K=[]
theorem Zkr (r:ZB) (hF:Zgm=some r):ACall Tryz.prog glob 47 [] [] (Ztq r):=by
 refine ACall.body Tryz.func47 rfl (by kernel_rfl) ?_
 unfold Zgm at hF
 refine AWP.seq (AWP.rg [] [(0,(.ptr 0 0))] [.cells (Za Zo)] (AWP.seq (AWP.rg [] [(0,(.ptr 0 0)),(1,(.ptr 1 0))] [.cells (Za Zo),.cells (Za Zo)] (AWP.seq (AWP.seq (AWP.rg0 [] [(0,(.ptr 0 0)),(1,(.ptr 1 0)),(2,(i64 (0:Int)))] ?_))))))
 obtain⟨c,j,hF⟩:=bindb hF
 refine AWP.mid (fun e st H=>e=.normal∧st=[(0,(.ptr 0 0)),(1,(.ptr 1 0))]∧H=[.cells (Za Zo),.cells (Za c)]) ?_ ?_
 ·clear hF
  refine AWP.kp [0,1,2] 2 ?_
  refine AWP.bround (fun n st H=>∃ b,∃ a,Zhi n b a=some c∧st=[(0,(.ptr 0 0)),(1,(.ptr 1 0)),(2,(i64 a))]∧H=[.cells (Za Zo),.cells (Za b)]) fuel ⟨Zo,(0:Int),j,by kernel_rfl,by kernel_rfl⟩ ?_
  rintro f st H ⟨b,a,hF,rfl,rfl⟩
  cases f with
  | zero=>exact noneb hF
  | succ f=>
   rw [Zhi] at hF
   refine AWP.seq (AWP.seq (AWP.rg0 [] [(0,(.ptr 0 0)),(1,(.ptr 1 0)),(2,(i64 a)),(4,(vb (decide (a<(5:Int)))))] ?_))
   refine AWP.cif hF (fun k hF=>?_) (fun k hF=>?_)
   ·refine AWP.skip (AWP.seq (AWP.block ?_))
    obtain⟨d,l,hF⟩:=bindb hF
    obtain⟨g,hF⟩:=chkb hF
    refine AWP.rg [(2,.call Tryz.func43 [] (Zi9 a d l)),(3,.ixd g),(5,.stA (fun i=>Za (Arr5.set b i ({ (Arr5.get b i) with Hi:=d }:Zb))) 0 2 1 g)] [(0,(.ptr 0 0)),(1,(.ptr 1 0)),(2,(i64 a))] [.cells (Za Zo),.cells (Za (Arr5.set b a ({ (Arr5.get b a) with Hi:=d }:Zb)))] (AWP.rg0 [] [(0,(.ptr 0 0)),(1,(.ptr 1 0)),(2,(i64 (ZI (a + (1:Int)))))] (LeQ.start (LeQ.pk [0,1,2] 2 ?_)))
    exact⟨f,Nat.lt_succ_self _,(Arr5.set b a ({ (Arr5.get b a) with Hi:=d }:Zb)),(ZI (a + (1:Int))),hF,by kernel_rfl,by kernel_rfl⟩
   ·refine AWP.exit (LeQ.start (LeQ.pk [0,1] 2 ?_))
    have hr:=someb hF
    subst hr
    exact⟨rfl,by kernel_rfl,by kernel_rfl⟩
 ·rintro _ _ _ ⟨rfl,rfl,rfl⟩
  refine AWP.seq (AWP.rg [] [(0,(.ptr 0 0))] [.cells (Za c),.cells (Za c)] (AWP.ret ?_))
  have hr:=someb hF
  subst hr
  exact(FnQ.f0 0 (.inr rfl))
def Zn0 (r:(Int × Zh)):PV→List Blk→Prop:=fun p K=>p=(u32 r.1)∧K=[.cells (Zj r.2)]
theorem Zgj (b:Zh) (a:Int) (r:(Int × Zh)) (hF:Zcm b a=some r):ACall Tryz.prog glob 46 [(.ptr 0 0),(u32 a)] [.cells (Zj b)] (Zn0 r):=by
 refine ACall.body Tryz.func46 rfl (by kernel_rfl) ?_
 unfold Zcm at hF
 refine AWP.seq (AWP.rg0 [] [(0,(.ptr 0 0)),(1,(u32 a))] (AWP.seq ?_))
 obtain⟨c,f,hF⟩:=bindb hF
 obtain⟨d,g,hF⟩:=bindb hF
 refine AWP.rg [(7,.call Tryz.func32 [] (Z5 b (17:Int) c f)),(8,.idx Zhx g)] [(1,(u32 a)),(5,(u32 d))] [.cells (Zj c.2)] (AWP.seq (AWP.rg0 [] [(4,(u32 (iMin d a)))] (AWP.ret ?_)))
 have hr:=someb hF
 subst hr
 exact(FnQ.f0 1 (.inr rfl))
def Zsl (r:Za6):PV→List Blk→Prop:=fun p K=>p=(Zk4 r)∧K=[]
theorem Zjw (a:Int) (r:Za6) (hF:Ze5 a=some r):ACall Tryz.prog glob 88 [(i64 a)] [] (Zsl r):=by
 refine ACall.body Tryz.func88 rfl (by kernel_rfl) ?_
 unfold Ze5 at hF
 refine AWP.seq (AWP.rg [] [(0,(i64 a)),(2,(.ptr 0 0))] [.cells (Zc6 Zv9)] (AWP.seq ?_))
 obtain⟨b,c,hF⟩:=bindb hF
 obtain⟨d,f,hF⟩:=bindb hF
 refine AWP.rg [(8,.call Tryz.func86 [] (Zpb a (6:Int) b c)),(9,.idx Zc6 f)] [(2,(.ptr 0 0))] [.cells (Zc6 d)] (AWP.ret ?_)
 have hr:=someb hF
 subst hr
 exact(FnQ.f0 0 (.inr rfl))
def Ztr (r:Int):PV→List Blk→Prop:=fun p K=>p=(u64 r)∧K=[]
theorem Znc (a:Int) (r:Int) (hF:Zil a=some r):ACall Tryz.prog glob 127 [(i64 a)] [] (Ztr r):=by
 refine ACall.body Tryz.func127 rfl (by kernel_rfl) ?_
 unfold Zil at hF
 refine AWP.seq (AWP.rg0 [] [(0,(i64 a))] (AWP.seq ?_))
 obtain⟨b,hF⟩:=chkb hF
 refine AWP.rg0 [(3,.sh b)] [(2,(u64 (bShl .u64 (1:Int) (IntKind.wrap .u64 (ZI ((32:Int) - a))))))] (AWP.ret ?_)
 have hr:=someb hF
 subst hr
 exact(FnQ.f0 0 (.inr rfl))
def Zsm (r:Bool):PV→List Blk→Prop:=fun p K=>p=(vb r)∧K=[]
theorem Zsn (b:Za6) (r:Bool) (hF:Zjv b=some r):ACall Tryz.prog glob 126 [(Zk4 b)] [] (Zsm r):=by
 refine ACall.body Tryz.func126 rfl (by kernel_rfl) ?_
 unfold Zjv at hF
 refine AWP.seq (AWP.rg [] [(1,(.ptr 0 0))] [.cells (Zc6 b)] (AWP.seq ?_))
 obtain⟨g,c,hF⟩:=bindb hF
 replace c:=someb c
 obtain⟨i,d,hF⟩:=bindb hF
 replace d:=someb d
 obtain⟨j,f,hF⟩:=bindb hF
 refine AWP.to [(2,(vb j))] [.cells (Zc6 b)] ?_ ?_
 ·cases g with
  | false=>
   subst d
   have k:=someb (ifF f rfl)
   subst k
   exact AWP.drT [(3,.bool c)] 18 [] [] []
  | true=>
   cases i with
   | false=>
    have l:=someb (ifF f rfl)
    subst l
    exact AWP.drT [(3,.bool c),(8,.bool d)] 18 [] [] []
   | true=>
    have a:=ifT f rfl
    obtain⟨m,n,a⟩:=bindb a
    obtain⟨o,a⟩:=chkb a
    replace a:=someb a
    subst a
    exact AWP.drT [(3,.bool c),(8,.bool d),(14,.call Tryz.func127 [] (Znc b.Bits m n)),(15,.rem o)] 18 [] [] []
 refine AWP.ret ?_
 have hr:=someb hF
 subst hr
 exact(FnQ.f0 0 (.inr rfl))
def Zwd (r:(Zb × Bool)):PV→List Blk→Prop:=fun p K=>p=(.tup [(Zlq r.1),(vb r.2)])∧K=[]
theorem Zlr (a:Za6) (r:(Zb × Bool)) (hF:Zhl a=some r):ACall Tryz.prog glob 87 [(Zk4 a)] [] (Zwd r):=by
 refine ACall.body Tryz.func87 rfl (by kernel_rfl) ?_
 unfold Zhl at hF
 refine AWP.seq (AWP.rg [] [(1,(.ptr 0 0)),(2,(.ptr 1 0))] [.cells (Zc6 a),.cells (Zi Zn)] (AWP.seq (AWP.seq ?_)))
 obtain⟨b,d,hF⟩:=bindb hF
 refine AWP.rg0 [(1,.call Tryz.func126 [] (Zsn a b d))] [(1,(.ptr 0 0)),(2,(.ptr 1 0)),(6,(vb (!b)))] ?_
 refine AWP.cif hF (fun f hF=>?_) (fun f hF=>?_)
 ·refine AWP.seq (AWP.rg [] [(2,(.ptr 1 0)),(3,(vb false))] [.cells (Zc6 a),.cells (Zi (Zb.mk (0:Int) (0:Int)))] (AWP.ret ?_))
  have hr:=someb hF
  subst hr
  exact(FnQ.f0 0 (.inr rfl))
 ·refine AWP.skip (AWP.seq ?_)
  obtain⟨c,g,hF⟩:=bindb hF
  refine AWP.dr [(7,.call Tryz.func127 [] (Znc a.Bits c g))] 12 [] [] [] [(2,(.ptr 1 0)),(3,(vb true))] [.cells (Zc6 a),.cells (Zi (Zb.mk a.Addr (IntKind.wrap .u32 (IntKind.wrap .u64 ((IntKind.wrap .u64 ((IntKind.wrap .u64 a.Addr) + c)) - (1:Int))))))] (AWP.ret ?_)
  have hr:=someb hF
  subst hr
  exact(FnQ.f0 0 (.inr rfl))
def Zpd (r:(Zk × Zh)):PV→List Blk→Prop:=fun p K=>p=(Zhy r.1)∧K=[.cells (Zj r.2)]
theorem Zpe (k:Zh) (r:(Zk × Zh)) (hF:Zfs k=some r):ACall Tryz.prog glob 33 [(.ptr 0 0)] [.cells (Zj k)] (Zpd r):=by
 refine ACall.body Tryz.func33 rfl (by kernel_rfl) ?_
 unfold Zfs at hF
 refine AWP.seq (AWP.rg [] [(0,(.ptr 0 0)),(2,(.ptr 1 0))] [.cells (Zj k),.cells (Zd Zeq)] (AWP.seq ?_))
 obtain⟨g,p,hF⟩:=bindb hF
 refine AWP.rg [(0,.call Tryz.func47 [] (Zkr g p))] [(0,(.ptr 0 0)),(2,(.ptr 1 0)),(3,(.ptr 2 0))] [.cells (Zj k),.cells (Zd Zeq),.cells (Za g)] (AWP.seq ?_)
 obtain⟨l,q,hF⟩:=bindb hF
 obtain⟨c,s,hF⟩:=bindb hF
 refine AWP.rg [(2,.call Tryz.func32 [] (Z5 k (2:Int) l q)),(3,.idx Zhx s)] [(0,(.ptr 0 0)),(2,(.ptr 1 0)),(3,(.ptr 2 0)),(4,(u32 c))] [.cells (Zj l.2),.cells (Zd Zeq),.cells (Za g)] (AWP.seq (AWP.rg [] [(0,(.ptr 0 0)),(2,(.ptr 1 0)),(3,(.ptr 2 0))] [.cells (Zj l.2),.cells (Zd Zeq),.cells (Za ({ g with x2:=(Zb.mk c c) }:ZB))] (AWP.seq ?_)))
 obtain⟨n,t,hF⟩:=bindb hF
 obtain⟨d,u,hF⟩:=bindb hF
 obtain⟨a,v,hF⟩:=bindb hF
 refine AWP.dr [(2,.call Tryz.func32 [] (Z5 l.2 (2:Int) n t)),(3,.idx Zhx u),(6,.call Tryz.func46 [] (Zgj n.2 (65000:Int) a v))] 8 [] [2,6] [] [(0,(.ptr 0 0)),(2,(.ptr 1 0)),(3,(.ptr 2 0)),(5,(u32 d)),(6,(u32 a.1))] [.cells (Zj a.2),.cells (Zd Zeq),.cells (Za ({ g with x2:=(Zb.mk c c) }:ZB))] (AWP.seq ?_)
 obtain⟨f,w,hF⟩:=bindb hF
 obtain⟨b,x,hF⟩:=bindb hF
 refine AWP.rg [(1,.call Tryz.func32 [] (Z5 a.2 (3:Int) f w)),(4,.call Tryz.func32 [] (Z5 f.2 (4:Int) b x))] [(0,(.ptr 0 0)),(2,(.ptr 1 0)),(3,(.ptr 2 0)),(5,(u32 d)),(6,(u32 a.1)),(7,(u32 (IntKind.wrap .u32 f.1))),(8,(u32 (IntKind.wrap .u32 b.1)))] [.cells (Zj b.2),.cells (Zd Zeq),.cells (Za ({ g with x2:=(Zb.mk c c) }:ZB))] (AWP.seq (AWP.rg0 [] [(0,(.ptr 0 0)),(2,(.ptr 1 0)),(3,(.ptr 2 0)),(5,(u32 d)),(6,(u32 a.1)),(7,(u32 (IntKind.wrap .u32 f.1))),(8,(u32 (iMin (IntKind.wrap .u32 b.1) (IntKind.wrap .u32 ((65535:Int) - a.1)))))] (AWP.seq (AWP.rg [] [(0,(.ptr 0 0)),(2,(.ptr 1 0)),(3,(.ptr 2 0)),(7,(u32 (IntKind.wrap .u32 f.1))),(8,(u32 (iMin (IntKind.wrap .u32 b.1) (IntKind.wrap .u32 ((65535:Int) - a.1)))))] [.cells (Zj b.2),.cells (Zd Zeq),.cells (Za ({ ({ ({ g with x2:=(Zb.mk c c) }:ZB) with x1:=(Zb.mk d (IntKind.wrap .u32 (d + (IntKind.wrap .u32 f.1)))) }:ZB) with x4:=(Zb.mk a.1 (IntKind.wrap .u32 (a.1 + (iMin (IntKind.wrap .u32 b.1) (IntKind.wrap .u32 ((65535:Int) - a.1)))))) }:ZB))] (AWP.seq (AWP.rg [] [(0,(.ptr 0 0)),(2,(.ptr 1 0)),(3,(.ptr 2 0)),(7,(u32 (IntKind.wrap .u32 f.1))),(8,(u32 (iMin (IntKind.wrap .u32 b.1) (IntKind.wrap .u32 ((65535:Int) - a.1))))),(9,(.ptr 3 0))] [.cells (Zj b.2),.cells (Zd Zeq),.cells (Za ({ ({ ({ g with x2:=(Zb.mk c c) }:ZB) with x1:=(Zb.mk d (IntKind.wrap .u32 (d + (IntKind.wrap .u32 f.1)))) }:ZB) with x4:=(Zb.mk a.1 (IntKind.wrap .u32 (a.1 + (iMin (IntKind.wrap .u32 b.1) (IntKind.wrap .u32 ((65535:Int) - a.1)))))) }:ZB)),.cells (Za ({ ({ ({ g with x2:=(Zb.mk c c) }:ZB) with x1:=(Zb.mk d (IntKind.wrap .u32 (d + (IntKind.wrap .u32 f.1)))) }:ZB) with x4:=(Zb.mk a.1 (IntKind.wrap .u32 (a.1 + (iMin (IntKind.wrap .u32 b.1) (IntKind.wrap .u32 ((65535:Int) - a.1)))))) }:ZB))] ?_))))))
 refine AWP.seq ?_
 obtain⟨m,y,hF⟩:=bindb hF
 obtain⟨o,z,hF⟩:=bindb hF
 obtain⟨j,a0,hF⟩:=bindb hF
 refine AWP.rg [(1,.call Tryz.func32 [] (Z5 b.2 (5:Int) m y)),(2,.call Tryz.func88 [] (Zjw m.1 o z)),(3,.call Tryz.func87 [] (Zlr o j a0))] [(0,(.ptr 0 0)),(2,(.ptr 1 0)),(3,(.ptr 2 0)),(7,(u32 (IntKind.wrap .u32 f.1))),(8,(u32 (iMin (IntKind.wrap .u32 b.1) (IntKind.wrap .u32 ((65535:Int) - a.1))))),(9,(.ptr 3 0)),(10,(.ptr 4 0))] [.cells (Zj m.2),.cells (Zd Zeq),.cells (Za ({ ({ ({ g with x2:=(Zb.mk c c) }:ZB) with x1:=(Zb.mk d (IntKind.wrap .u32 (d + (IntKind.wrap .u32 f.1)))) }:ZB) with x4:=(Zb.mk a.1 (IntKind.wrap .u32 (a.1 + (iMin (IntKind.wrap .u32 b.1) (IntKind.wrap .u32 ((65535:Int) - a.1)))))) }:ZB)),.cells (Za ({ ({ ({ g with x2:=(Zb.mk c c) }:ZB) with x1:=(Zb.mk d (IntKind.wrap .u32 (d + (IntKind.wrap .u32 f.1)))) }:ZB) with x4:=(Zb.mk a.1 (IntKind.wrap .u32 (a.1 + (iMin (IntKind.wrap .u32 b.1) (IntKind.wrap .u32 ((65535:Int) - a.1)))))) }:ZB)),.cells (Zi j.1)] (AWP.seq ?_)
 obtain⟨i,a1,hF⟩:=bindb hF
 refine AWP.rg [(1,.call Tryz.func46 [] (Zgj m.2 (65000:Int) i a1))] [(2,(.ptr 1 0)),(3,(.ptr 2 0)),(6,(u32 i.1)),(7,(u32 (IntKind.wrap .u32 f.1))),(8,(u32 (iMin (IntKind.wrap .u32 b.1) (IntKind.wrap .u32 ((65535:Int) - a.1))))),(9,(.ptr 3 0)),(10,(.ptr 4 0))] [.cells (Zj i.2),.cells (Zd Zeq),.cells (Za ({ ({ ({ g with x2:=(Zb.mk c c) }:ZB) with x1:=(Zb.mk d (IntKind.wrap .u32 (d + (IntKind.wrap .u32 f.1)))) }:ZB) with x4:=(Zb.mk a.1 (IntKind.wrap .u32 (a.1 + (iMin (IntKind.wrap .u32 b.1) (IntKind.wrap .u32 ((65535:Int) - a.1)))))) }:ZB)),.cells (Za ({ ({ ({ g with x2:=(Zb.mk c c) }:ZB) with x1:=(Zb.mk d (IntKind.wrap .u32 (d + (IntKind.wrap .u32 f.1)))) }:ZB) with x4:=(Zb.mk a.1 (IntKind.wrap .u32 (a.1 + (iMin (IntKind.wrap .u32 b.1) (IntKind.wrap .u32 ((65535:Int) - a.1)))))) }:ZB)),.cells (Zi j.1)] (AWP.seq (AWP.rg0 [] [(2,(.ptr 1 0)),(3,(.ptr 2 0)),(6,(u32 (iMin i.1 (IntKind.wrap .u32 ((65535:Int) - (iMin (IntKind.wrap .u32 b.1) (IntKind.wrap .u32 ((65535:Int) - a.1)))))))),(7,(u32 (IntKind.wrap .u32 f.1))),(8,(u32 (iMin (IntKind.wrap .u32 b.1) (IntKind.wrap .u32 ((65535:Int) - a.1))))),(9,(.ptr 3 0)),(10,(.ptr 4 0))] (AWP.seq (AWP.rg [] [(2,(.ptr 1 0)),(3,(.ptr 2 0)),(9,(.ptr 3 0))] [.cells (Zj i.2),.cells (Zd Zeq),.cells (Za ({ ({ ({ g with x2:=(Zb.mk c c) }:ZB) with x1:=(Zb.mk d (IntKind.wrap .u32 (d + (IntKind.wrap .u32 f.1)))) }:ZB) with x4:=(Zb.mk a.1 (IntKind.wrap .u32 (a.1 + (iMin (IntKind.wrap .u32 b.1) (IntKind.wrap .u32 ((65535:Int) - a.1)))))) }:ZB)),.cells (Za ({ ({ ({ ({ ({ g with x2:=(Zb.mk c c) }:ZB) with x1:=(Zb.mk d (IntKind.wrap .u32 (d + (IntKind.wrap .u32 f.1)))) }:ZB) with x4:=(Zb.mk a.1 (IntKind.wrap .u32 (a.1 + (iMin (IntKind.wrap .u32 b.1) (IntKind.wrap .u32 ((65535:Int) - a.1)))))) }:ZB) with x1:=(Zb.mk j.1.Lo (IntKind.wrap .u32 (j.1.Lo + (IntKind.wrap .u32 f.1)))) }:ZB) with x4:=(Zb.mk (iMin i.1 (IntKind.wrap .u32 ((65535:Int) - (iMin (IntKind.wrap .u32 b.1) (IntKind.wrap .u32 ((65535:Int) - a.1)))))) (IntKind.wrap .u32 ((iMin i.1 (IntKind.wrap .u32 ((65535:Int) - (iMin (IntKind.wrap .u32 b.1) (IntKind.wrap .u32 ((65535:Int) - a.1)))))) + (iMin (IntKind.wrap .u32 b.1) (IntKind.wrap .u32 ((65535:Int) - a.1)))))) }:ZB)),.cells (Zi j.1)] (AWP.seq (AWP.rg [] [(2,(.ptr 1 0))] [.cells (Zj i.2),.cells (Zd (Zk.mk ({ ({ ({ g with x2:=(Zb.mk c c) }:ZB) with x1:=(Zb.mk d (IntKind.wrap .u32 (d + (IntKind.wrap .u32 f.1)))) }:ZB) with x4:=(Zb.mk a.1 (IntKind.wrap .u32 (a.1 + (iMin (IntKind.wrap .u32 b.1) (IntKind.wrap .u32 ((65535:Int) - a.1)))))) }:ZB) ({ ({ ({ ({ ({ g with x2:=(Zb.mk c c) }:ZB) with x1:=(Zb.mk d (IntKind.wrap .u32 (d + (IntKind.wrap .u32 f.1)))) }:ZB) with x4:=(Zb.mk a.1 (IntKind.wrap .u32 (a.1 + (iMin (IntKind.wrap .u32 b.1) (IntKind.wrap .u32 ((65535:Int) - a.1)))))) }:ZB) with x1:=(Zb.mk j.1.Lo (IntKind.wrap .u32 (j.1.Lo + (IntKind.wrap .u32 f.1)))) }:ZB) with x4:=(Zb.mk (iMin i.1 (IntKind.wrap .u32 ((65535:Int) - (iMin (IntKind.wrap .u32 b.1) (IntKind.wrap .u32 ((65535:Int) - a.1)))))) (IntKind.wrap .u32 ((iMin i.1 (IntKind.wrap .u32 ((65535:Int) - (iMin (IntKind.wrap .u32 b.1) (IntKind.wrap .u32 ((65535:Int) - a.1)))))) + (iMin (IntKind.wrap .u32 b.1) (IntKind.wrap .u32 ((65535:Int) - a.1)))))) }:ZB))),.cells (Za ({ ({ ({ g with x2:=(Zb.mk c c) }:ZB) with x1:=(Zb.mk d (IntKind.wrap .u32 (d + (IntKind.wrap .u32 f.1)))) }:ZB) with x4:=(Zb.mk a.1 (IntKind.wrap .u32 (a.1 + (iMin (IntKind.wrap .u32 b.1) (IntKind.wrap .u32 ((65535:Int) - a.1)))))) }:ZB)),.cells (Za ({ ({ ({ ({ ({ g with x2:=(Zb.mk c c) }:ZB) with x1:=(Zb.mk d (IntKind.wrap .u32 (d + (IntKind.wrap .u32 f.1)))) }:ZB) with x4:=(Zb.mk a.1 (IntKind.wrap .u32 (a.1 + (iMin (IntKind.wrap .u32 b.1) (IntKind.wrap .u32 ((65535:Int) - a.1)))))) }:ZB) with x1:=(Zb.mk j.1.Lo (IntKind.wrap .u32 (j.1.Lo + (IntKind.wrap .u32 f.1)))) }:ZB) with x4:=(Zb.mk (iMin i.1 (IntKind.wrap .u32 ((65535:Int) - (iMin (IntKind.wrap .u32 b.1) (IntKind.wrap .u32 ((65535:Int) - a.1)))))) (IntKind.wrap .u32 ((iMin i.1 (IntKind.wrap .u32 ((65535:Int) - (iMin (IntKind.wrap .u32 b.1) (IntKind.wrap .u32 ((65535:Int) - a.1)))))) + (iMin (IntKind.wrap .u32 b.1) (IntKind.wrap .u32 ((65535:Int) - a.1)))))) }:ZB)),.cells (Zi j.1)] ?_))))))
 refine AWP.ret ?_
 have hr:=someb hF
 subst hr
 exact(FnQ.f0 1 (.inr rfl))
def Zmx (r:(ZB × Zh)):PV→List Blk→Prop:=fun p K=>p=(Zt r.1)∧K=[.cells (Zj r.2)]
theorem Zi4 (f:Zh) (a:ZB) (r:(ZB × Zh)) (hF:Zdl f a=some r):ACall Tryz.prog glob 34 [(.ptr 0 0),(Zt a)] [.cells (Zj f)] (Zmx r):=by
 refine ACall.body Tryz.func34 rfl (by kernel_rfl) ?_
 unfold Zdl at hF
 refine AWP.seq (AWP.rg [] [(0,(.ptr 0 0)),(3,(.ptr 1 0)),(4,(.ptr 2 0))] [.cells (Zj f),.cells (Za a),.cells (Za Zo)] (AWP.seq ?_))
 obtain⟨b,s,hF⟩:=bindb hF
 refine AWP.rg [(1,.call Tryz.func32 [] (Z5 f (5:Int) b s))] [(0,(.ptr 0 0)),(3,(.ptr 1 0)),(4,(.ptr 2 0)),(5,(i64 b.1))] [.cells (Zj b.2),.cells (Za a),.cells (Za Zo)] ?_
 obtain⟨t,u,hF⟩:=bindb hF
 refine AWP.seq ?_
 refine AWP.mid (fun e st H=>(e=.normal∧∃ g,∃ d,t=(g,d)∧st=[(3,(.ptr 1 0)),(4,(.ptr 2 0))]∧H=[.cells (Zj g),.cells (Za d),.cells (Za Zo)])) ?_ ?_
 ·clear hF
  have hF:=u
  refine AWP.seq ?_
  obtain⟨c,v,hF⟩:=bindb hF
  refine AWP.rg [(1,.call Tryz.func32 [] (Z5 b.2 (3:Int) c v))] [(3,(.ptr 1 0)),(4,(.ptr 2 0)),(5,(i64 b.1)),(9,(i64 c.1))] [.cells (Zj c.2),.cells (Za a),.cells (Za Zo)] (AWP.block (AWP.seq (AWP.rg0 [] [(3,(.ptr 1 0)),(4,(.ptr 2 0)),(5,(i64 b.1)),(9,(i64 c.1)),(13,(vb (c.1 == (0:Int))))] ?_)))
  refine AWP.cif hF (fun w hF=>?_) (fun w hF=>?_)
  ·obtain⟨i,hF⟩:=chkb hF
   obtain⟨j,hF⟩:=chkb hF
   obtain⟨k,hF⟩:=chkb hF
   obtain⟨l,hF⟩:=chkb hF
   refine AWP.dr [(3,.ixd i),(5,.ldA Zi (Arr5.get a) 0 2 1 i),(7,.ixd j),(9,.ldA Zi (Arr5.get a) 0 2 0 j),(10,.ixd k),(12,.stA (fun m=>Za (Arr5.set a m ({ (Arr5.get a m) with Lo:=(Arr5.get a b.1).Hi }:Zb))) 0 2 0 k),(13,.ixd l),(15,.stA (fun n=>Za (Arr5.set (Arr5.set a b.1 ({ (Arr5.get a b.1) with Lo:=(Arr5.get a b.1).Hi }:Zb)) n ({ (Arr5.get (Arr5.set a b.1 ({ (Arr5.get a b.1) with Lo:=(Arr5.get a b.1).Hi }:Zb)) n) with Hi:=(Arr5.get a b.1).Lo }:Zb))) 0 2 1 l)] 13 [] [12] [] [(3,(.ptr 1 0)),(4,(.ptr 2 0))] [.cells (Zj c.2),.cells (Za (Arr5.set (Arr5.set a b.1 ({ (Arr5.get a b.1) with Lo:=(Arr5.get a b.1).Hi }:Zb)) b.1 ({ (Arr5.get (Arr5.set a b.1 ({ (Arr5.get a b.1) with Lo:=(Arr5.get a b.1).Hi }:Zb)) b.1) with Hi:=(Arr5.get a b.1).Lo }:Zb))),.cells (Za Zo)] (LeQ.start (LeQ.pk [3,4] 3 ?_))
   exact⟨rfl,c.2,(Arr5.set (Arr5.set a b.1 ({ (Arr5.get a b.1) with Lo:=(Arr5.get a b.1).Hi }:Zb)) b.1 ({ (Arr5.get (Arr5.set a b.1 ({ (Arr5.get a b.1) with Lo:=(Arr5.get a b.1).Hi }:Zb)) b.1) with Hi:=(Arr5.get a b.1).Lo }:Zb)),(someb hF).symm,by kernel_rfl,by kernel_rfl⟩
  ·refine AWP.seq (AWP.rg0 [] [(3,(.ptr 1 0)),(4,(.ptr 2 0)),(5,(i64 b.1)),(29,(vb (c.1 == (1:Int))))] ?_)
   refine AWP.cif hF (fun x hF=>?_) (fun x hF=>?_)
   ·obtain⟨o,hF⟩:=chkb hF
    refine AWP.rg [(1,.ixd o),(3,.stA (fun p=>Za (Arr5.set a p ({ (Arr5.get a p) with Hi:=(4294967295:Int) }:Zb))) 0 2 1 o)] [(3,(.ptr 1 0)),(4,(.ptr 2 0))] [.cells (Zj c.2),.cells (Za (Arr5.set a b.1 ({ (Arr5.get a b.1) with Hi:=(4294967295:Int) }:Zb))),.cells (Za Zo)] (LeQ.start (LeQ.pk [3,4] 3 ?_))
    exact⟨rfl,c.2,(Arr5.set a b.1 ({ (Arr5.get a b.1) with Hi:=(4294967295:Int) }:Zb)),(someb hF).symm,by kernel_rfl,by kernel_rfl⟩
   ·obtain⟨q,hF⟩:=chkb hF
    refine AWP.rg [(2,.ixd q),(3,.stA (fun y=>Za (Arr5.set a y (Zb.mk (1:Int) (0:Int)))) 0 2 0 q)] [(3,(.ptr 1 0)),(4,(.ptr 2 0))] [.cells (Zj c.2),.cells (Za (Arr5.set a b.1 (Zb.mk (1:Int) (0:Int)))),.cells (Za Zo)] (LeQ.start (LeQ.pk [3,4] 3 ?_))
    exact⟨rfl,c.2,(Arr5.set a b.1 (Zb.mk (1:Int) (0:Int))),(someb hF).symm,by kernel_rfl,by kernel_rfl⟩
 ·rintro _ _ _ ⟨rfl,g,d,rfl,rfl,rfl⟩
  refine AWP.seq (AWP.rg [] [(4,(.ptr 2 0))] [.cells (Zj g),.cells (Za d),.cells (Za d)] (AWP.ret ?_))
  have hr:=someb hF
  subst hr
  exact(FnQ.f0 1 (.inr rfl))
def Zol (r:((List Zk) × Zh)):PV→List Blk→Prop:=fun p K=>p=(slc 20 Zd r.1)∧K=[.cells (Zj r.2)]
theorem Zom (y:Zh) (g:Int) (b:Bool) (r:((List Zk) × Zh)) (hF:Zfi y g b=some r):ACall Tryz.prog glob 9 [(.ptr 0 0),(i64 g),(vb b)] [.cells (Zj y)] (Zol r):=by
 refine ACall.body Tryz.func9 rfl (by kernel_rfl) ?_
 unfold Zfi at hF
 refine AWP.seq (AWP.rg0 [] [(0,(.ptr 0 0)),(1,(i64 g)),(2,(vb b))] (AWP.seq (AWP.rg0 [] [(0,(.ptr 0 0)),(1,(i64 g)),(2,(vb b)),(7,nils)] ?_)))
 refine AWP.own (H':=[.cells (Zj y),bf 20 72 Zd ([]:(List Zk)) false]) (st':=[(7,(.own 1 (List.length ([]:(List Zk))))),(0,(.ptr 0 0)),(1,(i64 g)),(2,(vb b))]) 7 20 72 (by kernel_rfl) (by kernel_rfl) (by kernel_rfl) ?_
 refine AWP.pick (st':=[(0,(.ptr 0 0)),(1,(i64 g)),(2,(vb b)),(7,(.own 1 (List.length ([]:(List Zk)))))]) (ks:=[0,1,2,7]) (by kernel_rfl) ?_
 refine AWP.seq (AWP.seq ?_)
 obtain⟨o,a9,hF⟩:=bindb hF
 refine AWP.rg [(3,.call Tryz.func32 [] (Z5 y (ZI (g + (1:Int))) o a9))] [(0,(.ptr 0 0)),(2,(vb b)),(7,(.own 1 (List.length ([]:(List Zk))))),(8,(i64 o.1))] [.cells (Zj o.2),bf 20 72 Zd ([]:(List Zk)) false] ?_
 obtain⟨a6,b0,hF⟩:=bindb hF
 refine AWP.mid (fun e st H=>(e=.normal∧∃ a4,∃ k,a6=(a4,k)∧st=[(7,(.own 1 (List.length k)))]∧H=[.cells (Zj a4),bf 20 72 Zd k false])) ?_ ?_
 ·clear hF
  refine AWP.kp [0,2,7,8] 2 ?_
  refine AWP.bround (fun n st H=>∃ p,∃ a,∃ c,Zb2 b n p a c=some a6∧st=[(0,(.ptr 0 0)),(2,(vb b)),(7,(.own 1 (List.length a))),(8,(i64 c))]∧H=[.cells (Zj p),bf 20 72 Zd a false]) fuel ⟨o.2,([]:(List Zk)),o.1,b0,by kernel_rfl,by kernel_rfl⟩ ?_
  rintro a5 st H ⟨p,a,c,hF,rfl,rfl⟩
  cases a5 with
  | zero=>exact noneb hF
  | succ a5=>
   rw [Zb2] at hF
   refine AWP.seq (AWP.seq (AWP.rg0 [] [(0,(.ptr 0 0)),(2,(vb b)),(7,(.own 1 (List.length a))),(8,(i64 c)),(15,(vb (decide (c > (0:Int)))))] ?_))
   refine AWP.cif hF (fun b1 hF=>?_) (fun b1 hF=>?_)
   ·refine AWP.skip ?_
    obtain⟨b2,b3,hF⟩:=bindb hF
    refine AWP.seq ?_
    refine AWP.mid (fun e st H=>(e=.normal∧∃ z,∃ m,b2=(z,m)∧st=[(0,(.ptr 0 0)),(2,(vb b)),(7,(.own 1 (List.length m))),(8,(i64 c))]∧H=[.cells (Zj z),bf 20 72 Zd m false])) ?_ ?_
    ·clear hF
     have hF:=b3
     refine AWP.block (AWP.seq ?_)
     obtain⟨f,b4,hF⟩:=bindb hF
     refine AWP.rg [(1,.call Tryz.func33 [] (Zpe p f b4))] [(0,(.ptr 0 0)),(2,(vb b)),(7,(.own 1 (List.length a))),(8,(i64 c)),(9,(.ptr 2 0))] [.cells (Zj f.2),bf 20 72 Zd a false,.cells (Zd f.1)] ?_
     obtain⟨b5,b6,hF⟩:=bindb hF
     refine AWP.seq ?_
     refine AWP.mid (fun e st H=>(e=.normal∧∃ a0,∃ d,b5=(a0,d)∧st=[(0,(.ptr 0 0)),(2,(vb b)),(7,(.own 1 (List.length a))),(8,(i64 c)),(9,(.ptr 2 0))]∧H=[.cells (Zj a0),bf 20 72 Zd a false,.cells (Zd d)])) ?_ ?_
     ·clear hF
      have hF:=b6
      refine AWP.seq ?_
      obtain⟨b7,a1,hF⟩:=bindb hF
      replace a1:=someb a1
      obtain⟨a2,a7,hF⟩:=bindb hF
      refine AWP.to [(0,(.ptr 0 0)),(2,(vb b)),(7,(.own 1 (List.length a))),(8,(i64 c)),(9,(.ptr 2 0)),(25,(vb a2.1))] [.cells (Zj a2.2),bf 20 72 Zd a false,.cells (Zd f.1)] ?_ ?_
      ·cases b7 with
       | false=>
        have b8:=someb (ifF a7 rfl)
        subst b8
        exact AWP.rgT [(1,.bool a1)]
       | true=>
        have q:=ifT a7 rfl
        obtain⟨b9,c0,q⟩:=bindb q
        replace q:=someb q
        subst q
        exact AWP.rgT [(1,.bool a1),(3,.call Tryz.func32 [] (Z5 f.2 (6:Int) b9 c0))]
      refine AWP.cif hF (fun c1 hF=>?_) (fun c1 hF=>?_)
      ·obtain⟨u,c2,hF⟩:=bindb hF
       refine AWP.rg [(3,.call Tryz.func34 [] (Zi4 a2.2 f.1.To u c2))] [(0,(.ptr 0 0)),(2,(vb b)),(7,(.own 1 (List.length a))),(8,(i64 c)),(9,(.ptr 2 0))] [.cells (Zj u.2),bf 20 72 Zd a false,.cells (Zd ({ f.1 with To:=u.1 }:Zk))] (LeQ.start (LeQ.pk [0,2,7,8,9] 3 ?_))
       exact⟨rfl,u.2,({ f.1 with To:=u.1 }:Zk),(someb hF).symm,by kernel_rfl,by kernel_rfl⟩
      ·refine AWP.skip (LeQ.start (LeQ.pk [0,2,7,8,9] 3 ?_))
       exact⟨rfl,a2.2,f.1,(someb hF).symm,by kernel_rfl,by kernel_rfl⟩
     ·rintro _ _ _ ⟨rfl,a0,d,rfl,rfl,rfl⟩
      obtain⟨c3,c4,hF⟩:=bindb hF
      refine AWP.seq ?_
      refine AWP.mid (fun e st H=>(e=.normal∧∃ v,∃ j,c3=(v,j)∧st=[(0,(.ptr 0 0)),(2,(vb b)),(7,(.own 1 (List.length a))),(8,(i64 c)),(9,(.ptr 2 0))]∧H=[.cells (Zj v),bf 20 72 Zd a false,.cells (Zd j)])) ?_ ?_
      ·clear hF
       have hF:=c4
       refine AWP.seq ?_
       obtain⟨c5,a3,hF⟩:=bindb hF
       replace a3:=someb a3
       obtain⟨w,a8,hF⟩:=bindb hF
       refine AWP.to [(0,(.ptr 0 0)),(2,(vb b)),(7,(.own 1 (List.length a))),(8,(i64 c)),(9,(.ptr 2 0)),(36,(vb w.1))] [.cells (Zj w.2),bf 20 72 Zd a false,.cells (Zd d)] ?_ ?_
       ·cases c5 with
        | false=>
         have c6:=someb (ifF a8 rfl)
         subst c6
         exact AWP.rgT [(1,.bool a3)]
        | true=>
         have x:=ifT a8 rfl
         obtain⟨c7,c8,x⟩:=bindb x
         replace x:=someb x
         subst x
         exact AWP.rgT [(1,.bool a3),(3,.call Tryz.func32 [] (Z5 a0 (6:Int) c7 c8))]
       refine AWP.cif hF (fun c9 hF=>?_) (fun c9 hF=>?_)
       ·refine AWP.rg [] [(0,(.ptr 0 0)),(2,(vb b)),(7,(.own 1 (List.length a))),(8,(i64 c)),(9,(.ptr 2 0))] [.cells (Zj w.2),bf 20 72 Zd a false,.cells (Zd ({ ({ d with From:=d.To }:Zk) with To:=d.From }:Zk))] (LeQ.start (LeQ.pk [0,2,7,8,9] 3 ?_))
        exact⟨rfl,w.2,({ ({ d with From:=d.To }:Zk) with To:=d.From }:Zk),(someb hF).symm,by kernel_rfl,by kernel_rfl⟩
       ·refine AWP.skip (LeQ.start (LeQ.pk [0,2,7,8,9] 3 ?_))
        exact⟨rfl,w.2,d,(someb hF).symm,by kernel_rfl,by kernel_rfl⟩
      ·rintro _ _ _ ⟨rfl,v,j,rfl,rfl,rfl⟩
       obtain⟨d0,hF⟩:=chkb hF
       refine AWP.rg [(3,.app Zd (fun _=>by kernel_rfl) d0)] [(0,(.ptr 0 0)),(2,(vb b)),(7,(.own 1 (List.length (a++[j])))),(8,(i64 c))] [.cells (Zj v),bf 20 72 Zd (a++[j]) false,.cells (Zd j)] (LeQ.start (LeQ.pk [0,2,7,8] 2 ?_))
       exact⟨rfl,v,(a++[j]),(someb hF).symm,by kernel_rfl,by kernel_rfl⟩
    ·rintro _ _ _ ⟨rfl,z,m,rfl,rfl,rfl⟩
     refine AWP.rg0 [] [(0,(.ptr 0 0)),(2,(vb b)),(7,(.own 1 (List.length m))),(8,(i64 (ZI (c - (1:Int)))))] (LeQ.start (LeQ.pk [0,2,7,8] 2 ?_))
     exact⟨a5,Nat.lt_succ_self _,z,m,(ZI (c - (1:Int))),hF,by kernel_rfl,by kernel_rfl⟩
   ·refine AWP.exit (LeQ.start (LeQ.pk [7] 2 ?_))
    exact⟨rfl,p,a,(someb hF).symm,by kernel_rfl,by kernel_rfl⟩
 ·rintro _ _ _ ⟨rfl,a4,k,rfl,rfl,rfl⟩
  refine AWP.seq (AWP.rg0 [] [(6,(.own 1 (List.length k)))] (AWP.ret ?_))
  have hr:=someb hF
  subst hr
  exact(FnQ.f1 1 (.inr rfl) (.inl (Wk.ownT (i:=1) (s:=20) (t:=72) (l:=k) (sh:=false) (row:=Zd) (by kernel_rfl) (.inl rfl))))
def Zpf (r:(Int × Zh)):PV→List Blk→Prop:=fun p K=>p=(u32 r.1)∧K=[.cells (Zj r.2)]
theorem Zh9 (d:Zh) (r:(Int × Zh)) (hF:Zd0 d=some r):ACall Tryz.prog glob 45 [(.ptr 0 0)] [.cells (Zj d)] (Zpf r):=by
 refine ACall.body Tryz.func45 rfl (by kernel_rfl) ?_
 unfold Zd0 at hF
 refine AWP.seq (AWP.rg0 [] [(0,(.ptr 0 0))] (AWP.seq (AWP.seq ?_)))
 obtain⟨a,j,hF⟩:=bindb hF
 refine AWP.rg [(1,.call Tryz.func32 [] (Z5 d (5:Int) a j))] [(0,(.ptr 0 0)),(8,(vb (a.1 == (4:Int))))] [.cells (Zj a.2)] ?_
 refine AWP.cif hF (fun k hF=>?_) (fun k hF=>?_)
 ·refine AWP.seq ?_
  obtain⟨g,l,hF⟩:=bindb hF
  obtain⟨m,n,hF⟩:=bindb hF
  refine AWP.rg [(2,.call Tryz.func32 [] (Z5 a.2 (6:Int) g l)),(3,.idx Zhx n)] [(2,(u32 m))] [.cells (Zj g.2)] (AWP.ret ?_)
  have hr:=someb hF
  subst hr
  exact(FnQ.f0 1 (.inr rfl))
 ·refine AWP.skip (AWP.seq ?_)
  obtain⟨b,o,hF⟩:=bindb hF
  obtain⟨c,p,hF⟩:=bindb hF
  refine AWP.rg [(1,.call Tryz.func32 [] (Z5 a.2 (6:Int) b o)),(2,.call Tryz.func88 [] (Zjw b.1 c p))] [(0,(.ptr 0 0)),(3,(.ptr 1 0))] [.cells (Zj b.2),.cells (Zc6 c)] (AWP.seq ?_)
  obtain⟨f,q,hF⟩:=bindb hF
  refine AWP.rg [(1,.call Tryz.func87 [] (Zlr c f q))] [(0,(.ptr 0 0)),(4,(.ptr 2 0))] [.cells (Zj b.2),.cells (Zc6 c),.cells (Zi f.1)] (AWP.seq ?_)
  obtain⟨i,s,hF⟩:=bindb hF
  obtain⟨t,u,hF⟩:=bindb hF
  refine AWP.dr [(15,.call Tryz.func32 [] (Z5 b.2 (5:Int) i s)),(16,.idx Zhx u)] 18 [] [15] [] [(2,(u32 t))] [.cells (Zj i.2),.cells (Zc6 c),.cells (Zi f.1)] (AWP.ret ?_)
  have hr:=someb hF
  subst hr
  exact(FnQ.f0 1 (.inr rfl))
def Zl1 (r:(Zb × Zh)):PV→List Blk→Prop:=fun p K=>p=(Zlq r.1)∧K=[.cells (Zj r.2)]
theorem Zir (f:Zh) (r:(Zb × Zh)) (hF:Zdc f=some r):ACall Tryz.prog glob 117 [(.ptr 0 0)] [.cells (Zj f)] (Zl1 r):=by
 refine ACall.body Tryz.func117 rfl (by kernel_rfl) ?_
 unfold Zdc at hF
 refine AWP.seq (AWP.rg [] [(0,(.ptr 0 0)),(2,(.ptr 1 0))] [.cells (Zj f),.cells (Zi Zn)] (AWP.seq (AWP.seq ?_)))
 obtain⟨a,k,hF⟩:=bindb hF
 refine AWP.rg [(1,.call Tryz.func32 [] (Z5 f (4:Int) a k))] [(0,(.ptr 0 0)),(2,(.ptr 1 0)),(9,(i64 a.1))] [.cells (Zj a.2),.cells (Zi Zn)] (AWP.block (AWP.seq (AWP.rg0 [] [(0,(.ptr 0 0)),(2,(.ptr 1 0)),(9,(i64 a.1)),(10,(vb (a.1 == (0:Int))))] ?_)))
 refine AWP.cif hF (fun l hF=>?_) (fun l hF=>?_)
 ·refine AWP.seq ?_
  obtain⟨g,m,hF⟩:=bindb hF
  obtain⟨j,n,hF⟩:=bindb hF
  obtain⟨i,o,hF⟩:=bindb hF
  refine AWP.rg [(1,.call Tryz.func32 [] (Z5 a.2 (6:Int) g m)),(2,.call Tryz.func88 [] (Zjw g.1 j n)),(3,.call Tryz.func87 [] (Zlr j i o))] [(2,(.ptr 1 0)),(3,(.ptr 2 0))] [.cells (Zj g.2),.cells (Zi Zn),.cells (Zi i.1)] (AWP.seq (AWP.rg [] [(2,(.ptr 1 0))] [.cells (Zj g.2),.cells (Zi i.1),.cells (Zi i.1)] (AWP.ret ?_)))
  have hr:=someb hF
  subst hr
  exact(FnQ.f0 1 (.inr rfl))
 ·refine AWP.seq (AWP.rg0 [] [(0,(.ptr 0 0)),(2,(.ptr 1 0)),(9,(i64 a.1)),(20,(vb (a.1 == (1:Int))))] ?_)
  refine AWP.cif hF (fun p hF=>?_) (fun p hF=>?_)
  ·refine AWP.seq ?_
   obtain⟨d,q,hF⟩:=bindb hF
   obtain⟨b,s,hF⟩:=bindb hF
   refine AWP.rg [(1,.call Tryz.func45 [] (Zh9 a.2 d q)),(3,.call Tryz.func45 [] (Zh9 d.2 b s))] [(2,(.ptr 1 0)),(5,(u32 d.1)),(6,(u32 b.1))] [.cells (Zj b.2),.cells (Zi Zn)] (AWP.seq (AWP.rg [] [(2,(.ptr 1 0))] [.cells (Zj b.2),.cells (Zi (Zb.mk (iMin d.1 b.1) (iMax d.1 b.1)))] (AWP.ret ?_)))
   have hr:=someb hF
   subst hr
   exact(FnQ.f0 1 (.inr rfl))
  ·refine AWP.seq (AWP.rg0 [] [(0,(.ptr 0 0)),(2,(.ptr 1 0)),(33,(vb (a.1 == (2:Int))))] ?_)
   refine AWP.cif hF (fun t hF=>?_) (fun t hF=>?_)
   ·refine AWP.seq ?_
    obtain⟨c,u,hF⟩:=bindb hF
    refine AWP.rg [(1,.call Tryz.func45 [] (Zh9 a.2 c u))] [(2,(.ptr 1 0)),(7,(u32 c.1))] [.cells (Zj c.2),.cells (Zi Zn)] (AWP.seq (AWP.rg [] [(2,(.ptr 1 0))] [.cells (Zj c.2),.cells (Zi (Zb.mk c.1 c.1))] (AWP.ret ?_)))
    have hr:=someb hF
    subst hr
    exact(FnQ.f0 1 (.inr rfl))
   ·refine AWP.skip (AWP.seq (AWP.rg [] [(2,(.ptr 1 0))] [.cells (Zj a.2),.cells (Zi (Zb.mk (0:Int) (4294967295:Int)))] (AWP.ret ?_)))
    have hr:=someb hF
    subst hr
    exact(FnQ.f0 1 (.inr rfl))
def Zon (r:(Zb × Zh)):PV→List Blk→Prop:=fun p K=>p=(Zlq r.1)∧K=[.cells (Zj r.2)]
theorem Zkc (d:Zh) (b:Int) (r:(Zb × Zh)) (hF:Zel d b=some r):ACall Tryz.prog glob 118 [(.ptr 0 0),(u32 b)] [.cells (Zj d)] (Zon r):=by
 refine ACall.body Tryz.func118 rfl (by kernel_rfl) ?_
 unfold Zel at hF
 refine AWP.seq (AWP.rg [] [(0,(.ptr 0 0)),(1,(u32 b)),(4,(.ptr 1 0))] [.cells (Zj d),.cells (Zi Zn)] (AWP.seq ?_))
 obtain⟨c,f,hF⟩:=bindb hF
 obtain⟨a,g,hF⟩:=bindb hF
 refine AWP.rg [(2,.call Tryz.func46 [] (Zgj d b c f)),(5,.call Tryz.func46 [] (Zgj c.2 b a g))] [(4,(.ptr 1 0)),(5,(u32 c.1)),(6,(u32 a.1))] [.cells (Zj a.2),.cells (Zi Zn)] (AWP.seq (AWP.rg [] [(4,(.ptr 1 0))] [.cells (Zj a.2),.cells (Zi (Zb.mk (iMin c.1 a.1) (iMax c.1 a.1)))] (AWP.ret ?_)))
 have hr:=someb hF
 subst hr
 exact(FnQ.f0 1 (.inr rfl))
def Zqc (r:(ZB × Zh)):PV→List Blk→Prop:=fun p K=>p=(Zt r.1)∧K=[.cells (Zj r.2)]
theorem Zqd (d:Zh) (r:(ZB × Zh)) (hF:Zgf d=some r):ACall Tryz.prog glob 67 [(.ptr 0 0)] [.cells (Zj d)] (Zqc r):=by
 refine ACall.body Tryz.func67 rfl (by kernel_rfl) ?_
 unfold Zgf at hF
 refine AWP.seq (AWP.rg [] [(0,(.ptr 0 0)),(2,(.ptr 1 0))] [.cells (Zj d),.cells (Za Zo)] (AWP.seq ?_))
 obtain⟨p,x,hF⟩:=bindb hF
 refine AWP.rg [(0,.call Tryz.func47 [] (Zkr p x))] [(0,(.ptr 0 0)),(2,(.ptr 1 0)),(3,(.ptr 2 0))] [.cells (Zj d),.cells (Za Zo),.cells (Za p)] (AWP.seq (AWP.seq ?_))
 obtain⟨f,y,hF⟩:=bindb hF
 refine AWP.rg [(1,.call Tryz.func32 [] (Z5 d (3:Int) f y))] [(0,(.ptr 0 0)),(2,(.ptr 1 0)),(3,(.ptr 2 0)),(4,(i64 (ZI ((1:Int) + f.1))))] [.cells (Zj f.2),.cells (Za Zo),.cells (Za p)] ?_
 obtain⟨w,z,hF⟩:=bindb hF
 refine AWP.mid (fun e st H=>(e=.normal∧∃ q,∃ g,w=(q,g)∧st=[(2,(.ptr 1 0)),(3,(.ptr 2 0))]∧H=[.cells (Zj q),.cells (Za Zo),.cells (Za g)])) ?_ ?_
 ·clear hF
  refine AWP.kp [0,2,3,4] 3 ?_
  refine AWP.bround (fun n st H=>∃ i,∃ b,∃ a,Zco n i b a=some w∧st=[(0,(.ptr 0 0)),(2,(.ptr 1 0)),(3,(.ptr 2 0)),(4,(i64 a))]∧H=[.cells (Zj i),.cells (Za Zo),.cells (Za b)]) fuel ⟨f.2,p,(ZI ((1:Int) + f.1)),z,by kernel_rfl,by kernel_rfl⟩ ?_
  rintro v st H ⟨i,b,a,hF,rfl,rfl⟩
  cases v with
  | zero=>exact noneb hF
  | succ v=>
   rw [Zco] at hF
   refine AWP.seq (AWP.seq (AWP.rg0 [] [(0,(.ptr 0 0)),(2,(.ptr 1 0)),(3,(.ptr 2 0)),(4,(i64 a)),(11,(vb (decide (a > (0:Int)))))] ?_))
   refine AWP.cif hF (fun a0 hF=>?_) (fun a0 hF=>?_)
   ·refine AWP.skip ?_
    obtain⟨a1,a2,hF⟩:=bindb hF
    refine AWP.seq ?_
    refine AWP.mid (fun e st H=>(e=.normal∧∃ s,∃ t,a1=(s,t)∧st=[(0,(.ptr 0 0)),(2,(.ptr 1 0)),(3,(.ptr 2 0)),(4,(i64 a))]∧H=[.cells (Zj s),.cells (Za Zo),.cells (Za t)])) ?_ ?_
    ·clear hF
     have hF:=a2
     refine AWP.block (AWP.seq ?_)
     obtain⟨c,a3,hF⟩:=bindb hF
     refine AWP.rg [(1,.call Tryz.func32 [] (Z5 i (5:Int) c a3))] [(0,(.ptr 0 0)),(2,(.ptr 1 0)),(3,(.ptr 2 0)),(4,(i64 a)),(15,(i64 c.1))] [.cells (Zj c.2),.cells (Za Zo),.cells (Za b)] (AWP.block (AWP.seq (AWP.rg0 [] [(0,(.ptr 0 0)),(2,(.ptr 1 0)),(3,(.ptr 2 0)),(4,(i64 a)),(15,(i64 c.1)),(19,(vb (c.1 == (0:Int))))] ?_)))
     refine AWP.cif hF (fun a4 hF=>?_) (fun a4 hF=>?_)
     ·obtain⟨j,a5,hF⟩:=bindb hF
      refine AWP.rg [(1,.call Tryz.func117 [] (Zir c.2 j a5))] [(0,(.ptr 0 0)),(2,(.ptr 1 0)),(3,(.ptr 2 0)),(4,(i64 a))] [.cells (Zj j.2),.cells (Za Zo),.cells (Za ({ b with x0:=j.1 }:ZB))] (LeQ.start (LeQ.pk [0,2,3,4] 3 ?_))
      exact⟨rfl,j.2,({ b with x0:=j.1 }:ZB),(someb hF).symm,by kernel_rfl,by kernel_rfl⟩
     ·refine AWP.seq (AWP.rg0 [] [(0,(.ptr 0 0)),(2,(.ptr 1 0)),(3,(.ptr 2 0)),(4,(i64 a)),(15,(i64 c.1)),(24,(vb (c.1 == (1:Int))))] ?_)
      refine AWP.cif hF (fun a6 hF=>?_) (fun a6 hF=>?_)
      ·obtain⟨k,a7,hF⟩:=bindb hF
       refine AWP.rg [(1,.call Tryz.func117 [] (Zir c.2 k a7))] [(0,(.ptr 0 0)),(2,(.ptr 1 0)),(3,(.ptr 2 0)),(4,(i64 a))] [.cells (Zj k.2),.cells (Za Zo),.cells (Za ({ b with x1:=k.1 }:ZB))] (LeQ.start (LeQ.pk [0,2,3,4] 3 ?_))
       exact⟨rfl,k.2,({ b with x1:=k.1 }:ZB),(someb hF).symm,by kernel_rfl,by kernel_rfl⟩
      ·refine AWP.seq (AWP.rg0 [] [(0,(.ptr 0 0)),(2,(.ptr 1 0)),(3,(.ptr 2 0)),(4,(i64 a)),(15,(i64 c.1)),(29,(vb (c.1 == (2:Int))))] ?_)
       refine AWP.cif hF (fun a8 hF=>?_) (fun a8 hF=>?_)
       ·refine AWP.seq ?_
        obtain⟨u,a9,hF⟩:=bindb hF
        obtain⟨l,b0,hF⟩:=bindb hF
        refine AWP.rg [(2,.call Tryz.func32 [] (Z5 c.2 (6:Int) u a9)),(3,.idx Zhx b0)] [(0,(.ptr 0 0)),(2,(.ptr 1 0)),(3,(.ptr 2 0)),(4,(i64 a)),(5,(u32 l))] [.cells (Zj u.2),.cells (Za Zo),.cells (Za b)] (AWP.rg [] [(0,(.ptr 0 0)),(2,(.ptr 1 0)),(3,(.ptr 2 0)),(4,(i64 a))] [.cells (Zj u.2),.cells (Za Zo),.cells (Za ({ b with x2:=(Zb.mk l l) }:ZB))] (LeQ.start (LeQ.pk [0,2,3,4] 3 ?_)))
        exact⟨rfl,u.2,({ b with x2:=(Zb.mk l l) }:ZB),(someb hF).symm,by kernel_rfl,by kernel_rfl⟩
       ·refine AWP.seq (AWP.rg0 [] [(0,(.ptr 0 0)),(2,(.ptr 1 0)),(3,(.ptr 2 0)),(4,(i64 a)),(40,(vb (c.1 == (3:Int))))] ?_)
        refine AWP.cif hF (fun b1 hF=>?_) (fun b1 hF=>?_)
        ·obtain⟨m,b2,hF⟩:=bindb hF
         refine AWP.rg [(1,.call Tryz.func118 [] (Zkc c.2 (65535:Int) m b2))] [(0,(.ptr 0 0)),(2,(.ptr 1 0)),(3,(.ptr 2 0)),(4,(i64 a))] [.cells (Zj m.2),.cells (Za Zo),.cells (Za ({ b with x3:=m.1 }:ZB))] (LeQ.start (LeQ.pk [0,2,3,4] 3 ?_))
         exact⟨rfl,m.2,({ b with x3:=m.1 }:ZB),(someb hF).symm,by kernel_rfl,by kernel_rfl⟩
        ·obtain⟨o,b3,hF⟩:=bindb hF
         refine AWP.rg [(1,.call Tryz.func118 [] (Zkc c.2 (65535:Int) o b3))] [(0,(.ptr 0 0)),(2,(.ptr 1 0)),(3,(.ptr 2 0)),(4,(i64 a))] [.cells (Zj o.2),.cells (Za Zo),.cells (Za ({ b with x4:=o.1 }:ZB))] (LeQ.start (LeQ.pk [0,2,3,4] 3 ?_))
         exact⟨rfl,o.2,({ b with x4:=o.1 }:ZB),(someb hF).symm,by kernel_rfl,by kernel_rfl⟩
    ·rintro _ _ _ ⟨rfl,s,t,rfl,rfl,rfl⟩
     refine AWP.rg0 [] [(0,(.ptr 0 0)),(2,(.ptr 1 0)),(3,(.ptr 2 0)),(4,(i64 (ZI (a - (1:Int)))))] (LeQ.start (LeQ.pk [0,2,3,4] 3 ?_))
     exact⟨v,Nat.lt_succ_self _,s,t,(ZI (a - (1:Int))),hF,by kernel_rfl,by kernel_rfl⟩
   ·refine AWP.exit (LeQ.start (LeQ.pk [2,3] 3 ?_))
    exact⟨rfl,i,b,(someb hF).symm,by kernel_rfl,by kernel_rfl⟩
 ·rintro _ _ _ ⟨rfl,q,g,rfl,rfl,rfl⟩
  refine AWP.seq (AWP.rg [] [(2,(.ptr 1 0))] [.cells (Zj q),.cells (Za g),.cells (Za g)] (AWP.ret ?_))
  have hr:=someb hF
  subst hr
  exact(FnQ.f0 1 (.inr rfl))
def Zoo (r:(ZL × Zh)):PV→List Blk→Prop:=fun p K=>p=(slc 10 Za r.1)∧K=[.cells (Zj r.2)]
theorem Zhz (v:Zh) (d:Int) (a:Bool) (r:(ZL × Zh)) (hF:Zem v d a=some r):ACall Tryz.prog glob 20 [(.ptr 0 0),(i64 d),(vb a)] [.cells (Zj v)] (Zoo r):=by
 refine ACall.body Tryz.func20 rfl (by kernel_rfl) ?_
 unfold Zem at hF
 refine AWP.seq (AWP.rg0 [] [(0,(.ptr 0 0)),(1,(i64 d)),(2,(vb a))] (AWP.seq (AWP.rg0 [] [(0,(.ptr 0 0)),(1,(i64 d)),(2,(vb a)),(7,nils)] ?_)))
 refine AWP.own (H':=[.cells (Zj v),bf 10 57 Za ([]:ZL) false]) (st':=[(7,(.own 1 (List.length ([]:ZL)))),(0,(.ptr 0 0)),(1,(i64 d)),(2,(vb a))]) 7 10 57 (by kernel_rfl) (by kernel_rfl) (by kernel_rfl) ?_
 refine AWP.pick (st':=[(0,(.ptr 0 0)),(1,(i64 d)),(2,(vb a)),(7,(.own 1 (List.length ([]:ZL))))]) (ks:=[0,1,2,7]) (by kernel_rfl) ?_
 refine AWP.seq (AWP.seq ?_)
 obtain⟨m,a3,hF⟩:=bindb hF
 refine AWP.rg [(3,.call Tryz.func32 [] (Z5 v (ZI (d + (1:Int))) m a3))] [(0,(.ptr 0 0)),(2,(vb a)),(7,(.own 1 (List.length ([]:ZL)))),(8,(i64 m.1))] [.cells (Zj m.2),bf 10 57 Za ([]:ZL) false] ?_
 obtain⟨a1,a4,hF⟩:=bindb hF
 refine AWP.mid (fun e st H=>(e=.normal∧∃ z,∃ j,a1=(z,j)∧st=[(7,(.own 1 (List.length j)))]∧H=[.cells (Zj z),bf 10 57 Za j false])) ?_ ?_
 ·clear hF
  refine AWP.kp [0,2,7,8] 2 ?_
  refine AWP.bround (fun n st H=>∃ o,∃ b,∃ c,Zb4 a n o b c=some a1∧st=[(0,(.ptr 0 0)),(2,(vb a)),(7,(.own 1 (List.length b))),(8,(i64 c))]∧H=[.cells (Zj o),bf 10 57 Za b false]) fuel ⟨m.2,([]:ZL),m.1,a4,by kernel_rfl,by kernel_rfl⟩ ?_
  rintro a0 st H ⟨o,b,c,hF,rfl,rfl⟩
  cases a0 with
  | zero=>exact noneb hF
  | succ a0=>
   rw [Zb4] at hF
   refine AWP.seq (AWP.seq (AWP.rg0 [] [(0,(.ptr 0 0)),(2,(vb a)),(7,(.own 1 (List.length b))),(8,(i64 c)),(15,(vb (decide (c > (0:Int)))))] ?_))
   refine AWP.cif hF (fun a5 hF=>?_) (fun a5 hF=>?_)
   ·refine AWP.skip ?_
    obtain⟨a6,a7,hF⟩:=bindb hF
    refine AWP.seq ?_
    refine AWP.mid (fun e st H=>(e=.normal∧∃ w,∃ k,a6=(w,k)∧st=[(0,(.ptr 0 0)),(2,(vb a)),(7,(.own 1 (List.length k))),(8,(i64 c))]∧H=[.cells (Zj w),bf 10 57 Za k false])) ?_ ?_
    ·clear hF
     have hF:=a7
     refine AWP.block (AWP.seq ?_)
     obtain⟨f,a8,hF⟩:=bindb hF
     refine AWP.rg [(1,.call Tryz.func67 [] (Zqd o f a8))] [(0,(.ptr 0 0)),(2,(vb a)),(7,(.own 1 (List.length b))),(8,(i64 c)),(9,(.ptr 2 0))] [.cells (Zj f.2),bf 10 57 Za b false,.cells (Za f.1)] ?_
     obtain⟨a9,b0,hF⟩:=bindb hF
     refine AWP.seq ?_
     refine AWP.mid (fun e st H=>(e=.normal∧∃ p,∃ g,a9=(p,g)∧st=[(0,(.ptr 0 0)),(2,(vb a)),(7,(.own 1 (List.length b))),(8,(i64 c)),(9,(.ptr 2 0))]∧H=[.cells (Zj p),bf 10 57 Za b false,.cells (Za g)])) ?_ ?_
     ·clear hF
      have hF:=b0
      refine AWP.seq ?_
      obtain⟨b1,x,hF⟩:=bindb hF
      replace x:=someb x
      obtain⟨y,a2,hF⟩:=bindb hF
      refine AWP.to [(0,(.ptr 0 0)),(2,(vb a)),(7,(.own 1 (List.length b))),(8,(i64 c)),(9,(.ptr 2 0)),(25,(vb y.1))] [.cells (Zj y.2),bf 10 57 Za b false,.cells (Za f.1)] ?_ ?_
      ·cases b1 with
       | false=>
        have b2:=someb (ifF a2 rfl)
        subst b2
        exact AWP.rgT [(1,.bool x)]
       | true=>
        have q:=ifT a2 rfl
        obtain⟨b3,b4,q⟩:=bindb q
        replace q:=someb q
        subst q
        exact AWP.rgT [(1,.bool x),(3,.call Tryz.func32 [] (Z5 f.2 (8:Int) b3 b4))]
      refine AWP.cif hF (fun b5 hF=>?_) (fun b5 hF=>?_)
      ·obtain⟨u,b6,hF⟩:=bindb hF
       refine AWP.rg [(2,.call Tryz.func34 [] (Zi4 y.2 f.1 u b6))] [(0,(.ptr 0 0)),(2,(vb a)),(7,(.own 1 (List.length b))),(8,(i64 c)),(9,(.ptr 2 0))] [.cells (Zj u.2),bf 10 57 Za b false,.cells (Za u.1)] (LeQ.start (LeQ.pk [0,2,7,8,9] 3 ?_))
       exact⟨rfl,u.2,u.1,(someb hF).symm,by kernel_rfl,by kernel_rfl⟩
      ·refine AWP.skip (LeQ.start (LeQ.pk [0,2,7,8,9] 3 ?_))
       exact⟨rfl,y.2,f.1,(someb hF).symm,by kernel_rfl,by kernel_rfl⟩
     ·rintro _ _ _ ⟨rfl,p,g,rfl,rfl,rfl⟩
      obtain⟨b7,hF⟩:=chkb hF
      refine AWP.rg [(3,.app Za (fun _=>by kernel_rfl) b7)] [(0,(.ptr 0 0)),(2,(vb a)),(7,(.own 1 (List.length (b++[g])))),(8,(i64 c))] [.cells (Zj p),bf 10 57 Za (b++[g]) false,.cells (Za g)] (LeQ.start (LeQ.pk [0,2,7,8] 2 ?_))
      exact⟨rfl,p,(b++[g]),(someb hF).symm,by kernel_rfl,by kernel_rfl⟩
    ·rintro _ _ _ ⟨rfl,w,k,rfl,rfl,rfl⟩
     refine AWP.rg0 [] [(0,(.ptr 0 0)),(2,(vb a)),(7,(.own 1 (List.length k))),(8,(i64 (ZI (c - (1:Int)))))] (LeQ.start (LeQ.pk [0,2,7,8] 2 ?_))
     exact⟨a0,Nat.lt_succ_self _,w,k,(ZI (c - (1:Int))),hF,by kernel_rfl,by kernel_rfl⟩
   ·refine AWP.exit (LeQ.start (LeQ.pk [7] 2 ?_))
    exact⟨rfl,o,b,(someb hF).symm,by kernel_rfl,by kernel_rfl⟩
 ·rintro _ _ _ ⟨rfl,z,j,rfl,rfl,rfl⟩
  refine AWP.seq (AWP.rg0 [] [(6,(.own 1 (List.length j)))] (AWP.ret ?_))
  have hr:=someb hF
  subst hr
  exact(FnQ.f1 1 (.inr rfl) (.inl (Wk.ownT (i:=1) (s:=10) (t:=57) (l:=j) (sh:=false) (row:=Za) (by kernel_rfl) (.inl rfl))))
def Zmc (r:Bool):PV→List Blk→Prop:=fun p K=>p=(vb r)∧K=[]
abbrev Zso (r:Bool):Exit→St→List Blk→Prop:=FnQ Tryz.prog Tryz.f96.results 0 (Zmc r)
theorem Zcv (a:ZB) (r:Bool) (hF:Zcn a=some r):ACall Tryz.prog glob 96 [(Zt a)] [] (Zmc r):=by
 refine ACall.body Tryz.func96 rfl (by kernel_rfl) ?_
 unfold Zcn at hF
 refine AWP.seq (AWP.rg [] [(1,(.ptr 0 0))] [.cells (Za a)] (AWP.seq (AWP.seq (AWP.rg0 [] [(1,(.ptr 0 0)),(3,(i64 (0:Int)))] ?_))))
 obtain⟨i,m,hF⟩:=bindb hF
 refine AWP.mid (fun e st H=>(e=.normal∧i=(.inl ())∧st=[]∧H=[.cells (Za a)])∨(e=.ret∧∃ r,i=(.inr r)∧Zso r e st H)) ?_ ?_
 ·clear hF
  refine AWP.kp [1,3] 1 ?_
  refine AWP.bround (fun n st H=>∃ b,Zab a n b=some i∧st=[(1,(.ptr 0 0)),(3,(i64 b))]∧H=[.cells (Za a)]) fuel ⟨(0:Int),m,by kernel_rfl,by kernel_rfl⟩ ?_
  rintro j st H ⟨b,hF,rfl,rfl⟩
  cases j with
  | zero=>exact noneb hF
  | succ j=>
   rw [Zab] at hF
   refine AWP.seq (AWP.seq (AWP.rg0 [] [(1,(.ptr 0 0)),(3,(i64 b)),(5,(vb (decide (b<(5:Int)))))] ?_))
   refine AWP.cif hF (fun o hF=>?_) (fun o hF=>?_)
   ·refine AWP.skip (AWP.seq (AWP.block (AWP.seq ?_)))
    obtain⟨d,hF⟩:=chkb hF
    obtain⟨f,hF⟩:=chkb hF
    obtain⟨p,g,hF⟩:=bindb hF
    replace g:=someb g
    obtain⟨q,k,hF⟩:=bindb hF
    refine AWP.to [(1,(.ptr 0 0)),(3,(i64 b)),(25,(vb q))] [.cells (Za a)] ?_ ?_
    ·cases p with
     | false=>
      have c:=ifF k rfl
      obtain⟨l,c⟩:=chkb c
      obtain⟨s,t,c⟩:=bindb c
      replace c:=someb c
      subst c
      exact AWP.drT [(1,.ixd d),(3,.ldA Zi (Arr5.get a) 0 2 0 d),(5,.ixd f),(7,.ldA Zi (Arr5.get a) 0 2 1 f),(9,.bool g),(11,.ixd l),(13,.ldA Zi (Arr5.get a) 0 2 1 l),(15,.call Tryz.func43 [] (Zi9 b s t))] 18 [] [] []
     | true=>
      have u:=someb (ifT k rfl)
      subst u
      exact AWP.drT [(1,.ixd d),(3,.ldA Zi (Arr5.get a) 0 2 0 d),(5,.ixd f),(7,.ldA Zi (Arr5.get a) 0 2 1 f),(9,.bool g)] 18 [] [] []
    refine AWP.cif hF (fun v hF=>?_) (fun v hF=>?_)
    ·refine AWP.seq (AWP.rg0 [] [(2,(vb false))] (AWP.ret ?_))
     exact LeQ.of (.inr ⟨rfl,false,(someb hF).symm,(FnQ.f0 0 (.inr rfl))⟩)
    ·refine AWP.skip (AWP.rg0 [] [(1,(.ptr 0 0)),(3,(i64 (ZI (b + (1:Int)))))] (LeQ.start (LeQ.pk [1,3] 1 ?_)))
     exact⟨j,Nat.lt_succ_self _,(ZI (b + (1:Int))),hF,by kernel_rfl,by kernel_rfl⟩
   ·refine AWP.exit (LeQ.start (LeQ.pk [] 1 ?_))
    exact(.inl ⟨rfl,(someb hF).symm,by kernel_rfl,by kernel_rfl⟩)
 ·rintro _ _ _ (⟨rfl,rfl,rfl,rfl⟩ | ⟨rfl,w,rfl,hq⟩)
  ·refine AWP.seq (AWP.rg0 [] [(2,(vb true))] (AWP.ret ?_))
   have hr:=someb hF
   subst hr
   exact(FnQ.f0 0 (.inr rfl))
  ·have hr:=someb hF
   subst hr
   exact hq
def Zsp (r:Bool):PV→List Blk→Prop:=fun p K=>p=(vb r)∧K=[]
theorem Zsq (b:Int) (c:Bool) (a:Bool) (r:Bool) (hF:Zg6 b c a=some r):ACall Tryz.prog glob 106 [(i64 b),(vb c),(vb a)] [] (Zsp r):=by
 refine ACall.body Tryz.func106 rfl (by kernel_rfl) ?_
 unfold Zg6 at hF
 refine AWP.seq (AWP.rg0 [] [(0,(i64 b)),(1,(vb c)),(2,(vb a))] (AWP.seq (AWP.seq (AWP.rg0 [] [(1,(vb c)),(2,(vb a)),(7,(i64 b))] (AWP.block (AWP.seq ?_))))))
 refine AWP.rg0 [] [(1,(vb c)),(2,(vb a)),(7,(i64 b)),(8,(vb (b == (0:Int))))] ?_
 refine AWP.cif hF (fun l hF=>?_) (fun l hF=>?_)
 ·refine AWP.seq ?_
  obtain⟨i,d,hF⟩:=bindb hF
  replace d:=someb d
  refine AWP.to [(6,(vb (i || a)))] [] ?_ ?_
  ·cases i with
   | false=>
    exact AWP.rgT [(1,.bool d)]
   | true=>
    exact AWP.rgT [(1,.bool d)]
  refine AWP.ret ?_
  have hr:=someb hF
  subst hr
  exact(FnQ.f0 0 (.inr rfl))
 ·refine AWP.seq (AWP.rg0 [] [(1,(vb c)),(2,(vb a)),(7,(i64 b)),(14,(vb (b == (1:Int))))] ?_)
  refine AWP.cif hF (fun m hF=>?_) (fun m hF=>?_)
  ·refine AWP.seq ?_
   obtain⟨j,f,hF⟩:=bindb hF
   replace f:=someb f
   refine AWP.to [(6,(vb (j && a)))] [] ?_ ?_
   ·cases j with
    | false=>
     exact AWP.rgT [(1,.bool f)]
    | true=>
     exact AWP.rgT [(1,.bool f)]
   refine AWP.ret ?_
   have hr:=someb hF
   subst hr
   exact(FnQ.f0 0 (.inr rfl))
  ·refine AWP.seq (AWP.rg0 [] [(1,(vb c)),(2,(vb a)),(20,(vb (b == (2:Int))))] ?_)
   refine AWP.cif hF (fun n hF=>?_) (fun n hF=>?_)
   ·refine AWP.seq ?_
    obtain⟨k,g,hF⟩:=bindb hF
    replace g:=someb g
    refine AWP.to [(6,(vb (k && (!a))))] [] ?_ ?_
    ·cases k with
     | false=>
      exact AWP.rgT [(1,.bool g)]
     | true=>
      exact AWP.rgT [(1,.bool g)]
    refine AWP.ret ?_
    have hr:=someb hF
    subst hr
    exact(FnQ.f0 0 (.inr rfl))
   ·refine AWP.skip (AWP.seq (AWP.rg0 [] [(6,(vb (!(c == a))))] (AWP.ret ?_)))
    have hr:=someb hF
    subst hr
    exact(FnQ.f0 0 (.inr rfl))
def Zts (r:Bool):PV→List Blk→Prop:=fun p K=>p=(vb r)∧K=[]
theorem Ztt (b:Int) (c:Bool) (a:Bool) (r:Bool) (hF:Zhn b c a=some r):ACall Tryz.prog glob 107 [(i64 b),(vb c),(vb a)] [] (Zts r):=by
 refine ACall.body Tryz.func107 rfl (by kernel_rfl) ?_
 unfold Zhn at hF
 refine AWP.seq (AWP.rg0 [] [(0,(i64 b)),(1,(vb c)),(2,(vb a))] (AWP.seq (AWP.seq (AWP.rg0 [] [(1,(vb c)),(2,(vb a)),(7,(i64 b))] (AWP.block (AWP.seq ?_))))))
 refine AWP.rg0 [] [(1,(vb c)),(2,(vb a)),(7,(i64 b)),(8,(vb (b == (1:Int))))] ?_
 refine AWP.cif hF (fun j hF=>?_) (fun j hF=>?_)
 ·refine AWP.seq ?_
  obtain⟨g,d,hF⟩:=bindb hF
  replace d:=someb d
  refine AWP.to [(6,(vb (g || (!a))))] [] ?_ ?_
  ·cases g with
   | false=>
    exact AWP.rgT [(2,.bool d)]
   | true=>
    exact AWP.rgT [(2,.bool d)]
  refine AWP.ret ?_
  have hr:=someb hF
  subst hr
  exact(FnQ.f0 0 (.inr rfl))
 ·refine AWP.seq (AWP.rg0 [] [(1,(vb c)),(2,(vb a)),(16,(vb (b == (2:Int))))] ?_)
  refine AWP.cif hF (fun k hF=>?_) (fun k hF=>?_)
  ·refine AWP.seq (AWP.rg0 [] [(6,(vb (!c)))] (AWP.ret ?_))
   have hr:=someb hF
   subst hr
   exact(FnQ.f0 0 (.inr rfl))
  ·refine AWP.skip (AWP.seq ?_)
   obtain⟨i,f,hF⟩:=bindb hF
   replace f:=someb f
   refine AWP.to [(6,(vb (i && (!a))))] [] ?_ ?_
   ·cases i with
    | false=>
     exact AWP.rgT [(2,.bool f)]
    | true=>
     exact AWP.rgT [(2,.bool f)]
   refine AWP.ret ?_
   have hr:=someb hF
   subst hr
   exact(FnQ.f0 0 (.inr rfl))
def Zrg (r:(List Zb)):PV→List Blk→Prop:=fun p K=>p=(slc 2 Zi r)∧K=[]
theorem Zrh (c:ZL) (b:ZL) (a:Int) (r:(List Zb)) (hF:Zgr c b a=some r):ACall Tryz.prog glob 109 [(slc 10 Za c),(slc 10 Za b),(i64 a)] [] (Zrg r):=by
 refine ACall.body Tryz.func109 rfl (by kernel_rfl) ?_
 unfold Zgr at hF
 refine AWP.seq (AWP.rg0 [] [(0,(slc 10 Za c)),(1,(slc 10 Za b)),(2,(i64 a))] (AWP.seq (AWP.rg0 [] [(0,(slc 10 Za c)),(1,(slc 10 Za b)),(2,(i64 a)),(7,nils)] ?_)))
 refine AWP.own (H':=[bf 2 55 Zi ([]:(List Zb)) false]) (st':=[(7,(.own 0 (List.length ([]:(List Zb))))),(0,(slc 10 Za c)),(1,(slc 10 Za b)),(2,(i64 a))]) 7 2 55 (by kernel_rfl) (by kernel_rfl) (by kernel_rfl) ?_
 refine AWP.pick (st':=[(0,(slc 10 Za c)),(1,(slc 10 Za b)),(2,(i64 a)),(7,(.own 0 (List.length ([]:(List Zb)))))]) (ks:=[0,1,2,7]) (by kernel_rfl) ?_
 refine AWP.seq (AWP.seq (AWP.rg0 [] [(0,(slc 10 Za c)),(1,(slc 10 Za b)),(2,(i64 a)),(7,(.own 0 (List.length ([]:(List Zb))))),(8,(i64 (0:Int)))] ?_))
 obtain⟨k,x,hF⟩:=bindb hF
 refine AWP.mid (fun e st H=>e=.normal∧st=[(1,(slc 10 Za b)),(2,(i64 a)),(7,(.own 0 (List.length k)))]∧H=[bf 2 55 Zi k false]) ?_ ?_
 ·clear hF
  refine AWP.kp [0,1,2,7,8] 1 ?_
  refine AWP.bround (fun n st H=>∃ d,∃ g,Zdq c a n d g=some k∧st=[(0,(slc 10 Za c)),(1,(slc 10 Za b)),(2,(i64 a)),(7,(.own 0 (List.length d))),(8,(i64 g))]∧H=[bf 2 55 Zi d false]) fuel ⟨([]:(List Zb)),(0:Int),x,by kernel_rfl,by kernel_rfl⟩ ?_
  rintro q st H ⟨d,g,hF,rfl,rfl⟩
  cases q with
  | zero=>exact noneb hF
  | succ q=>
   rw [Zdq] at hF
   refine AWP.seq (AWP.seq (AWP.rg0 [(2,.len Za c)] [(0,(slc 10 Za c)),(1,(slc 10 Za b)),(2,(i64 a)),(7,(.own 0 (List.length d))),(8,(i64 g)),(13,(vb (decide (g<(List.length c:Int)))))] ?_))
   refine AWP.cif hF (fun y hF=>?_) (fun y hF=>?_)
   ·refine AWP.skip (AWP.seq (AWP.block ?_))
    obtain⟨m,z,hF⟩:=bindb hF
    obtain⟨v,hF⟩:=chkb hF
    obtain⟨a0,hF⟩:=chkb hF
    refine AWP.rg [(4,.idx Za z),(5,.ixd v),(6,.ldA Zi (Arr5.get m) 0 2 0 v),(8,.app Zi (fun _=>by kernel_rfl) a0)] [(0,(slc 10 Za c)),(1,(slc 10 Za b)),(2,(i64 a)),(7,(.own 0 (List.length (d++[(Arr5.get m a)])))),(8,(i64 g))] [bf 2 55 Zi (d++[(Arr5.get m a)]) false] (AWP.rg0 [] [(0,(slc 10 Za c)),(1,(slc 10 Za b)),(2,(i64 a)),(7,(.own 0 (List.length (d++[(Arr5.get m a)])))),(8,(i64 (ZI (g + (1:Int)))))] (LeQ.start (LeQ.pk [0,1,2,7,8] 1 ?_)))
    exact⟨q,Nat.lt_succ_self _,(d++[(Arr5.get m a)]),(ZI (g + (1:Int))),hF,by kernel_rfl,by kernel_rfl⟩
   ·refine AWP.exit (LeQ.start (LeQ.pk [1,2,7] 1 ?_))
    have hr:=someb hF
    subst hr
    exact⟨rfl,by kernel_rfl,by kernel_rfl⟩
 ·rintro _ _ _ ⟨rfl,rfl,rfl⟩
  refine AWP.seq (AWP.seq (AWP.rg0 [] [(1,(slc 10 Za b)),(2,(i64 a)),(7,(.own 0 (List.length k))),(9,(i64 (0:Int)))] ?_))
  obtain⟨o,a1,hF⟩:=bindb hF
  refine AWP.mid (fun e st H=>e=.normal∧st=[(7,(.own 0 (List.length o)))]∧H=[bf 2 55 Zi o false]) ?_ ?_
  ·clear hF
   refine AWP.kp [1,2,7,9] 1 ?_
   refine AWP.bround (fun n st H=>∃ f,∃ j,Zdr b a n f j=some o∧st=[(1,(slc 10 Za b)),(2,(i64 a)),(7,(.own 0 (List.length f))),(9,(i64 j))]∧H=[bf 2 55 Zi f false]) fuel ⟨k,(0:Int),a1,by kernel_rfl,by kernel_rfl⟩ ?_
   rintro u st H ⟨f,j,hF,rfl,rfl⟩
   cases u with
   | zero=>exact noneb hF
   | succ u=>
    rw [Zdr] at hF
    refine AWP.seq (AWP.seq (AWP.rg0 [(2,.len Za b)] [(1,(slc 10 Za b)),(2,(i64 a)),(7,(.own 0 (List.length f))),(9,(i64 j)),(28,(vb (decide (j<(List.length b:Int)))))] ?_))
    refine AWP.cif hF (fun a2 hF=>?_) (fun a2 hF=>?_)
    ·refine AWP.skip (AWP.seq (AWP.block ?_))
     obtain⟨p,a3,hF⟩:=bindb hF
     obtain⟨w,hF⟩:=chkb hF
     obtain⟨a4,hF⟩:=chkb hF
     refine AWP.rg [(4,.idx Za a3),(5,.ixd w),(6,.ldA Zi (Arr5.get p) 0 2 0 w),(8,.app Zi (fun _=>by kernel_rfl) a4)] [(1,(slc 10 Za b)),(2,(i64 a)),(7,(.own 0 (List.length (f++[(Arr5.get p a)])))),(9,(i64 j))] [bf 2 55 Zi (f++[(Arr5.get p a)]) false] (AWP.rg0 [] [(1,(slc 10 Za b)),(2,(i64 a)),(7,(.own 0 (List.length (f++[(Arr5.get p a)])))),(9,(i64 (ZI (j + (1:Int)))))] (LeQ.start (LeQ.pk [1,2,7,9] 1 ?_)))
     exact⟨u,Nat.lt_succ_self _,(f++[(Arr5.get p a)]),(ZI (j + (1:Int))),hF,by kernel_rfl,by kernel_rfl⟩
    ·refine AWP.exit (LeQ.start (LeQ.pk [7] 1 ?_))
     have hr:=someb hF
     subst hr
     exact⟨rfl,by kernel_rfl,by kernel_rfl⟩
  ·rintro _ _ _ ⟨rfl,rfl,rfl⟩
   refine AWP.seq (AWP.rg0 [] [(6,(.own 0 (List.length o)))] (AWP.ret ?_))
   have hr:=someb hF
   subst hr
   exact(FnQ.f1 0 (.inr rfl) (.inl (Wk.ownT (i:=0) (s:=2) (t:=55) (l:=o) (sh:=false) (row:=Zi) (by kernel_rfl) (.inl rfl))))
def Zri (r:(List Int)):PV→List Blk→Prop:=fun p K=>p=(slc 1 Zc r)∧K=[]
theorem Zls (a:(List Int)) (b:Int) (j:Int) (r:(List Int)) (hF:Zfm a b j=some r):ACall Tryz.prog glob 136 [(slc 1 Zc a),(u64 b),(u32 j)] [] (Zri r):=by
 refine ACall.body Tryz.func136 rfl (by kernel_rfl) ?_
 unfold Zfm at hF
 refine AWP.seq (AWP.rg0 [] [(0,(slc 1 Zc a)),(1,(u64 b)),(2,(u32 j))] (AWP.seq (AWP.seq (AWP.rg0 [] [(0,(slc 1 Zc a)),(1,(u64 b)),(11,(vb (decide (b > (IntKind.wrap .u64 j)))))] ?_))))
 refine AWP.cif hF (fun v hF=>?_) (fun v hF=>?_)
 ·refine AWP.seq (AWP.rg0 [] [(6,(slc 1 Zc a))] (AWP.ret ?_))
  have hr:=someb hF
  subst hr
  exact(FnQ.f0 0 (.inr rfl))
 ·refine AWP.skip (AWP.seq (AWP.rg0 [] [(0,(slc 1 Zc a)),(1,(u64 b)),(7,(i64 (0:Int)))] (AWP.seq ?_)))
  obtain⟨c,w,hF⟩:=bindb hF
  refine AWP.mid (fun e st H=>e=.normal∧st=[(0,(slc 1 Zc a)),(1,(u64 b)),(7,(i64 c))]∧H=[]) ?_ ?_
  ·clear hF
   refine AWP.kp [0,1,7] 0 ?_
   refine AWP.bround (fun n st H=>∃ d,Zds a b n d=some c∧st=[(0,(slc 1 Zc a)),(1,(u64 b)),(7,(i64 d))]∧H=[]) fuel ⟨(0:Int),w,by kernel_rfl,by kernel_rfl⟩ ?_
   rintro p st H ⟨d,hF,rfl,rfl⟩
   cases p with
   | zero=>exact noneb hF
   | succ p=>
    rw [Zds] at hF
    refine AWP.seq (AWP.seq ?_)
    obtain⟨x,k,hF⟩:=bindb hF
    replace k:=someb k
    obtain⟨y,q,hF⟩:=bindb hF
    refine AWP.to [(0,(slc 1 Zc a)),(1,(u64 b)),(7,(i64 d)),(24,(vb y))] [] ?_ ?_
    ·cases x with
     | false=>
      have z:=someb (ifF q rfl)
      subst z
      exact AWP.rgT [(2,.len Zc a),(4,.bool k)]
     | true=>
      have f:=ifT q rfl
      obtain⟨b2,a0,f⟩:=bindb f
      replace f:=someb f
      subst f
      exact AWP.rgT [(2,.len Zc a),(4,.bool k),(7,.idx Zc a0)]
    refine AWP.cif hF (fun a1 hF=>?_) (fun a1 hF=>?_)
    ·refine AWP.skip (AWP.block (AWP.rg0 [] [(0,(slc 1 Zc a)),(1,(u64 b)),(7,(i64 (ZI (d + (1:Int)))))] (LeQ.start (LeQ.pk [0,1,7] 0 ?_))))
     exact⟨p,Nat.lt_succ_self _,(ZI (d + (1:Int))),hF,by kernel_rfl,by kernel_rfl⟩
    ·refine AWP.exit (LeQ.start (LeQ.pk [0,1,7] 0 ?_))
     have hr:=someb hF
     subst hr
     exact⟨rfl,by kernel_rfl,by kernel_rfl⟩
  ·rintro _ _ _ ⟨rfl,rfl,rfl⟩
   refine AWP.seq (AWP.seq ?_)
   obtain⟨a2,o,hF⟩:=bindb hF
   replace o:=someb o
   obtain⟨a3,u,hF⟩:=bindb hF
   refine AWP.to [(0,(slc 1 Zc a)),(1,(u64 b)),(7,(i64 c)),(38,(vb a3))] [] ?_ ?_
   ·cases a2 with
    | false=>
     have a4:=someb (ifF u rfl)
     subst a4
     exact AWP.rgT [(2,.len Zc a),(4,.bool o)]
    | true=>
     have g:=ifT u rfl
     obtain⟨b3,a5,g⟩:=bindb g
     replace g:=someb g
     subst g
     exact AWP.rgT [(2,.len Zc a),(4,.bool o),(7,.idx Zc a5)]
   refine AWP.cif hF (fun a6 hF=>?_) (fun a6 hF=>?_)
   ·refine AWP.seq (AWP.rg0 [] [(6,(slc 1 Zc a))] (AWP.ret ?_))
    have hr:=someb hF
    subst hr
    exact(FnQ.f0 0 (.inr rfl))
   ·refine AWP.skip (AWP.seq ?_)
    obtain⟨a7,hF⟩:=chkb hF
    obtain⟨a8,hF⟩:=chkb hF
    obtain⟨a9,hF⟩:=chkb hF
    obtain⟨b0,hF⟩:=chkb hF
    obtain⟨b1,hF⟩:=chkb hF
    refine AWP.dr [(0,.m),(3,.slice Zc a a7),(4,.app Zc (fun _=>by kernel_rfl) a8),(7,.app Zc (fun _=>by kernel_rfl) a9),(10,.slice Zc a b0),(11,.app Zc (fun _=>by kernel_rfl) b1)] 12 [] [0,4,7,11] [] [(6,(.own 0 (List.length (((([]:(List Int))++(List.drop (Int.toNat (0:Int)) (List.take (Int.toNat c) a)))++[b])++(List.drop (Int.toNat c) (List.take (Int.toNat (List.length a:Int)) a))))))] [bf 1 134 Zc (((([]:(List Int))++(List.drop (Int.toNat (0:Int)) (List.take (Int.toNat c) a)))++[b])++(List.drop (Int.toNat c) (List.take (Int.toNat (List.length a:Int)) a))) false] (AWP.ret ?_)
    have hr:=someb hF
    subst hr
    exact(FnQ.f1 0 (.inr rfl) (.inl (Wk.ownT (i:=0) (s:=1) (t:=134) (l:=(((([]:(List Int))++(List.drop (Int.toNat (0:Int)) (List.take (Int.toNat c) a)))++[b])++(List.drop (Int.toNat c) (List.take (Int.toNat (List.length a:Int)) a)))) (sh:=false) (row:=Zc) (by kernel_rfl) (.inl rfl))))
def Zrj (r:(List Int)):PV→List Blk→Prop:=fun p K=>p=(slc 1 Zc r)∧K=[]
theorem Zrk (a:(List Zb)) (b:Int) (r:(List Int)) (hF:Zgs a b=some r):ACall Tryz.prog glob 108 [(slc 2 Zi a),(u32 b)] [] (Zrj r):=by
 refine ACall.body Tryz.func108 rfl (by kernel_rfl) ?_
 unfold Zgs at hF
 refine AWP.seq (AWP.rg0 [] [(0,(slc 2 Zi a)),(1,(u32 b))] (AWP.seq (AWP.rg0 [] [(0,(slc 2 Zi a)),(1,(u32 b)),(5,(slc 1 Zc [(0:Int)]))] (AWP.seq (AWP.seq (AWP.rg0 [] [(0,(slc 2 Zi a)),(1,(u32 b)),(5,(slc 1 Zc [(0:Int)])),(6,(i64 (0:Int)))] ?_))))))
 obtain⟨f,l,hF⟩:=bindb hF
 refine AWP.mid (fun e st H=>e=.normal∧st=[(5,(slc 1 Zc f))]∧H=[]) ?_ ?_
 ·clear hF
  refine AWP.kp [0,1,5,6] 0 ?_
  refine AWP.bround (fun n st H=>∃ d,∃ c,Zdt a b n d c=some f∧st=[(0,(slc 2 Zi a)),(1,(u32 b)),(5,(slc 1 Zc d)),(6,(i64 c))]∧H=[]) fuel ⟨[(0:Int)],(0:Int),l,by kernel_rfl,by kernel_rfl⟩ ?_
  rintro g st H ⟨d,c,hF,rfl,rfl⟩
  cases g with
  | zero=>exact noneb hF
  | succ g=>
   rw [Zdt] at hF
   refine AWP.seq (AWP.seq (AWP.rg0 [(2,.len Zi a)] [(0,(slc 2 Zi a)),(1,(u32 b)),(5,(slc 1 Zc d)),(6,(i64 c)),(11,(vb (decide (c<(List.length a:Int)))))] ?_))
   refine AWP.cif hF (fun m hF=>?_) (fun m hF=>?_)
   ·refine AWP.skip ?_
    obtain⟨i,o,hF⟩:=bindb hF
    refine AWP.seq ?_
    refine AWP.mid (fun e st H=>e=.normal∧st=[(0,(slc 2 Zi a)),(1,(u32 b)),(5,(slc 1 Zc i)),(6,(i64 c))]∧H=[]) ?_ ?_
    ·clear hF
     have hF:=o
     refine AWP.block (AWP.seq ?_)
     obtain⟨p,q,hF⟩:=bindb hF
     obtain⟨s,t,hF⟩:=bindb hF
     refine AWP.dr [(2,.idx Zi q),(7,.idx Zi t)] 11 [] [] [] [(0,(slc 2 Zi a)),(1,(u32 b)),(5,(slc 1 Zc d)),(6,(i64 c)),(24,(vb (decide (p.Lo≤s.Hi))))] [] ?_
     refine AWP.cif hF (fun u hF=>?_) (fun u hF=>?_)
     ·obtain⟨v,w,hF⟩:=bindb hF
      obtain⟨j,x,hF⟩:=bindb hF
      obtain⟨y,z,hF⟩:=bindb hF
      obtain⟨k,a0,hF⟩:=bindb hF
      refine AWP.dr [(3,.idx Zi w),(8,.call Tryz.func136 [] (Zls d (IntKind.wrap .u64 v.Lo) b j x)),(11,.idx Zi z),(17,.call Tryz.func136 [] (Zls j (IntKind.wrap .u64 ((IntKind.wrap .u64 y.Hi) + (1:Int))) b k a0))] 18 [] [] [] [(0,(slc 2 Zi a)),(1,(u32 b)),(5,(slc 1 Zc k)),(6,(i64 c))] [] (LeQ.start (LeQ.pk [0,1,5,6] 0 ?_))
      have hr:=someb hF
      subst hr
      exact⟨rfl,by kernel_rfl,by kernel_rfl⟩
     ·refine AWP.skip (LeQ.start (LeQ.pk [0,1,5,6] 0 ?_))
      have hr:=someb hF
      subst hr
      exact⟨rfl,by kernel_rfl,by kernel_rfl⟩
    ·rintro _ _ _ ⟨rfl,rfl,rfl⟩
     refine AWP.rg0 [] [(0,(slc 2 Zi a)),(1,(u32 b)),(5,(slc 1 Zc i)),(6,(i64 (ZI (c + (1:Int)))))] (LeQ.start (LeQ.pk [0,1,5,6] 0 ?_))
     exact⟨g,Nat.lt_succ_self _,i,(ZI (c + (1:Int))),hF,by kernel_rfl,by kernel_rfl⟩
   ·refine AWP.exit (LeQ.start (LeQ.pk [5] 0 ?_))
    have hr:=someb hF
    subst hr
    exact⟨rfl,by kernel_rfl,by kernel_rfl⟩
 ·rintro _ _ _ ⟨rfl,rfl,rfl⟩
  refine AWP.seq (AWP.rg0 [] [(4,(slc 1 Zc f))] (AWP.ret ?_))
  have hr:=someb hF
  subst hr
  exact(FnQ.f0 0 (.inr rfl))
def Zwe (r:ZL):PV→List Blk→Prop:=fun p K=>p=(slc 10 Za r)∧K=[]
theorem Zpg (a:ZL) (b:Int) (c:Int) (r:ZL) (hF:Zho a b c=some r):ACall Tryz.prog glob 110 [(slc 10 Za a),(i64 b),(u64 c)] [] (Zwe r):=by
 refine ACall.body Tryz.func110 rfl (by kernel_rfl) ?_
 unfold Zho at hF
 refine AWP.seq (AWP.rg0 [] [(0,(slc 10 Za a)),(1,(i64 b)),(2,(u64 c))] (AWP.seq (AWP.rg0 [] [(0,(slc 10 Za a)),(1,(i64 b)),(2,(u64 c)),(7,nils)] ?_)))
 refine AWP.own (H':=[bf 10 57 Za ([]:ZL) false]) (st':=[(7,(.own 0 (List.length ([]:ZL)))),(0,(slc 10 Za a)),(1,(i64 b)),(2,(u64 c))]) 7 10 57 (by kernel_rfl) (by kernel_rfl) (by kernel_rfl) ?_
 refine AWP.pick (st':=[(0,(slc 10 Za a)),(1,(i64 b)),(2,(u64 c)),(7,(.own 0 (List.length ([]:ZL))))]) (ks:=[0,1,2,7]) (by kernel_rfl) ?_
 refine AWP.seq (AWP.seq (AWP.rg0 [] [(0,(slc 10 Za a)),(1,(i64 b)),(2,(u64 c)),(7,(.own 0 (List.length ([]:ZL)))),(8,(i64 (0:Int)))] ?_))
 obtain⟨j,y,hF⟩:=bindb hF
 refine AWP.mid (fun e st H=>e=.normal∧st=[(7,(.own 0 (List.length j)))]∧H=[bf 10 57 Za j false]) ?_ ?_
 ·clear hF
  refine AWP.kp [0,1,2,7,8] 1 ?_
  refine AWP.bround (fun n st H=>∃ f,∃ d,Ze6 a b c n f d=some j∧st=[(0,(slc 10 Za a)),(1,(i64 b)),(2,(u64 c)),(7,(.own 0 (List.length f))),(8,(i64 d))]∧H=[bf 10 57 Za f false]) fuel ⟨([]:ZL),(0:Int),y,by kernel_rfl,by kernel_rfl⟩ ?_
  rintro p st H ⟨f,d,hF,rfl,rfl⟩
  cases p with
  | zero=>exact noneb hF
  | succ p=>
   rw [Ze6] at hF
   refine AWP.seq (AWP.seq (AWP.rg0 [(2,.len Za a)] [(0,(slc 10 Za a)),(1,(i64 b)),(2,(u64 c)),(7,(.own 0 (List.length f))),(8,(i64 d)),(12,(vb (decide (d<(List.length a:Int)))))] ?_))
   refine AWP.cif hF (fun z hF=>?_) (fun z hF=>?_)
   ·refine AWP.skip ?_
    obtain⟨k,a0,hF⟩:=bindb hF
    refine AWP.seq ?_
    refine AWP.mid (fun e st H=>e=.normal∧st=[(0,(slc 10 Za a)),(1,(i64 b)),(2,(u64 c)),(7,(.own 0 (List.length k))),(8,(i64 d))]∧H=[bf 10 57 Za k false]) ?_ ?_
    ·clear hF
     have hF:=a0
     refine AWP.block (AWP.seq ?_)
     obtain⟨q,u,hF⟩:=bindb hF
     obtain⟨m,hF⟩:=chkb hF
     obtain⟨a1,o,hF⟩:=bindb hF
     replace o:=someb o
     obtain⟨a2,v,hF⟩:=bindb hF
     refine AWP.to [(0,(slc 10 Za a)),(1,(i64 b)),(2,(u64 c)),(7,(.own 0 (List.length f))),(8,(i64 d)),(36,(vb a2))] [bf 10 57 Za f false] ?_ ?_
     ·cases a1 with
      | false=>
       have a3:=someb (ifF v rfl)
       subst a3
       exact AWP.rgT [(3,.idx Za u),(4,.ixd m),(6,.ldA Zi (Arr5.get q) 0 2 0 m),(10,.bool o)]
      | true=>
       have g:=ifT v rfl
       obtain⟨a4,a5,g⟩:=bindb g
       obtain⟨w,g⟩:=chkb g
       replace g:=someb g
       subst g
       exact AWP.rgT [(3,.idx Za u),(4,.ixd m),(6,.ldA Zi (Arr5.get q) 0 2 0 m),(10,.bool o),(15,.idx Za a5),(16,.ixd w),(18,.ldA Zi (Arr5.get a4) 0 2 1 w)]
     refine AWP.cif hF (fun a6 hF=>?_) (fun a6 hF=>?_)
     ·obtain⟨x,a7,hF⟩:=bindb hF
      obtain⟨a8,hF⟩:=chkb hF
      refine AWP.rg [(3,.idx Za a7),(6,.app Za (fun _=>by kernel_rfl) a8)] [(0,(slc 10 Za a)),(1,(i64 b)),(2,(u64 c)),(7,(.own 0 (List.length (f++[x])))),(8,(i64 d))] [bf 10 57 Za (f++[x]) false] (LeQ.start (LeQ.pk [0,1,2,7,8] 1 ?_))
      have hr:=someb hF
      subst hr
      exact⟨rfl,by kernel_rfl,by kernel_rfl⟩
     ·refine AWP.skip (LeQ.start (LeQ.pk [0,1,2,7,8] 1 ?_))
      have hr:=someb hF
      subst hr
      exact⟨rfl,by kernel_rfl,by kernel_rfl⟩
    ·rintro _ _ _ ⟨rfl,rfl,rfl⟩
     refine AWP.rg0 [] [(0,(slc 10 Za a)),(1,(i64 b)),(2,(u64 c)),(7,(.own 0 (List.length k))),(8,(i64 (ZI (d + (1:Int)))))] (LeQ.start (LeQ.pk [0,1,2,7,8] 1 ?_))
     exact⟨p,Nat.lt_succ_self _,k,(ZI (d + (1:Int))),hF,by kernel_rfl,by kernel_rfl⟩
   ·refine AWP.exit (LeQ.start (LeQ.pk [7] 1 ?_))
    have hr:=someb hF
    subst hr
    exact⟨rfl,by kernel_rfl,by kernel_rfl⟩
 ·rintro _ _ _ ⟨rfl,rfl,rfl⟩
  refine AWP.seq (AWP.rg0 [] [(6,(.own 0 (List.length j)))] (AWP.ret ?_))
  have hr:=someb hF
  subst hr
  exact(FnQ.f1 0 (.inr rfl) (.inl (Wk.ownT (i:=0) (s:=10) (t:=57) (l:=j) (sh:=false) (row:=Za) (by kernel_rfl) (.inl rfl))))
def Znd (r:Bool):PV→List Blk→Prop:=fun p K=>p=(vb r)∧K=[]
abbrev Ztu (r:Bool):Exit→St→List Blk→Prop:=FnQ Tryz.prog Tryz.f111.results 0 (Znd r)
theorem Zne (a:ZL) (b:ZL) (r:Bool) (hF:Zfn a b=some r):ACall Tryz.prog glob 111 [(slc 10 Za a),(slc 10 Za b)] [] (Znd r):=by
 refine ACall.body Tryz.func111 rfl (by kernel_rfl) ?_
 unfold Zfn at hF
 refine AWP.seq (AWP.rg0 [] [(0,(slc 10 Za a)),(1,(slc 10 Za b))] (AWP.seq (AWP.seq (AWP.rg0 [(1,.len Za a),(3,.len Za b)] [(0,(slc 10 Za a)),(1,(slc 10 Za b)),(10,(vb ((List.length a:Int) != (List.length b:Int))))] ?_))))
 refine AWP.cif hF (fun g hF=>?_) (fun g hF=>?_)
 ·refine AWP.seq (AWP.rg0 [] [(4,(vb false))] (AWP.ret ?_))
  have hr:=someb hF
  subst hr
  exact(FnQ.f0 0 (.inr rfl))
 ·refine AWP.skip (AWP.seq (AWP.seq (AWP.rg0 [] [(0,(slc 10 Za a)),(1,(slc 10 Za b)),(5,(i64 (0:Int)))] ?_)))
  obtain⟨d,i,hF⟩:=bindb hF
  refine AWP.mid (fun e st H=>(e=.normal∧d=(.inl ())∧st=[]∧H=[])∨(e=.ret∧∃ r,d=(.inr r)∧Ztu r e st H)) ?_ ?_
  ·clear hF
   refine AWP.kp [0,1,5] 0 ?_
   refine AWP.bround (fun n st H=>∃ c,Zeb a b n c=some d∧st=[(0,(slc 10 Za a)),(1,(slc 10 Za b)),(5,(i64 c))]∧H=[]) fuel ⟨(0:Int),i,by kernel_rfl,by kernel_rfl⟩ ?_
   rintro f st H ⟨c,hF,rfl,rfl⟩
   cases f with
   | zero=>exact noneb hF
   | succ f=>
    rw [Zeb] at hF
    refine AWP.seq (AWP.seq (AWP.rg0 [(2,.len Za a)] [(0,(slc 10 Za a)),(1,(slc 10 Za b)),(5,(i64 c)),(14,(vb (decide (c<(List.length a:Int)))))] ?_))
    refine AWP.cif hF (fun j hF=>?_) (fun j hF=>?_)
    ·refine AWP.skip (AWP.seq (AWP.block (AWP.seq ?_)))
     obtain⟨k,l,hF⟩:=bindb hF
     obtain⟨m,o,hF⟩:=bindb hF
     refine AWP.dr [(2,.idx Za l),(6,.idx Za o)] 9 [] [] [] [(0,(slc 10 Za a)),(1,(slc 10 Za b)),(5,(i64 c)),(25,(vb (!(Zfy k m))))] [] ?_
     refine AWP.cif hF (fun p hF=>?_) (fun p hF=>?_)
     ·refine AWP.seq (AWP.rg0 [] [(4,(vb false))] (AWP.ret ?_))
      exact LeQ.of (.inr ⟨rfl,false,(someb hF).symm,(FnQ.f0 0 (.inr rfl))⟩)
     ·refine AWP.skip (AWP.rg0 [] [(0,(slc 10 Za a)),(1,(slc 10 Za b)),(5,(i64 (ZI (c + (1:Int)))))] (LeQ.start (LeQ.pk [0,1,5] 0 ?_)))
      exact⟨f,Nat.lt_succ_self _,(ZI (c + (1:Int))),hF,by kernel_rfl,by kernel_rfl⟩
    ·refine AWP.exit (LeQ.start (LeQ.pk [] 0 ?_))
     exact(.inl ⟨rfl,(someb hF).symm,by kernel_rfl,by kernel_rfl⟩)
  ·rintro _ _ _ (⟨rfl,rfl,rfl,rfl⟩ | ⟨rfl,q,rfl,hq⟩)
   ·refine AWP.seq (AWP.rg0 [] [(4,(vb true))] (AWP.ret ?_))
    have hr:=someb hF
    subst hr
    exact(FnQ.f0 0 (.inr rfl))
   ·have hr:=someb hF
    subst hr
    exact hq
def Zmd (r:ZL):PV→List Blk→Prop:=fun p K=>p=(slc 10 Za r)∧K=[]
theorem Zqe:∀(nr:Nat) (b:ZL) (c:ZL) (d:Int) (a:Int) (r:ZL) (hF:Zbv nr b c d a=some r),ACall Tryz.prog glob 60 [(slc 10 Za b),(slc 10 Za c),(i64 d),(i64 a)] [] (Zmd r):=by
 intro nr
 induction nr with
 | zero=>intro b c d a r hF; exact noneb (by rw [Zbv] at hF; exact hF)
 | succ nr ih=>
  intro b c d a r hF
  refine ACall.body Tryz.func60 rfl (by kernel_rfl) ?_
  rw [Zbv] at hF
  refine AWP.seq (AWP.rg0 [] [(0,(slc 10 Za b)),(1,(slc 10 Za c)),(2,(i64 d)),(3,(i64 a))] (AWP.seq (AWP.seq (AWP.rg0 [] [(0,(slc 10 Za b)),(1,(slc 10 Za c)),(2,(i64 d)),(3,(i64 a)),(19,(vb (a == (5:Int))))] ?_))))
  refine AWP.cif hF (fun c4 hF=>?_) (fun c4 hF=>?_)
  ·refine AWP.seq (AWP.seq ?_)
   obtain⟨b4,c5,hF⟩:=bindb hF
   refine AWP.rg0 [(2,.len Za b),(5,.len Za c),(7,.call Tryz.func106 [] (Zsq d (decide ((List.length b:Int) > (0:Int))) (decide ((List.length c:Int) > (0:Int))) b4 c5))] [(27,(vb b4))] ?_
   refine AWP.cif hF (fun c6 hF=>?_) (fun c6 hF=>?_)
   ·refine AWP.seq (AWP.rg0 [] [(8,(slc 10 Za [(Arr5.mk Zn Zn Zn Zn Zn)]))] (AWP.ret ?_))
    have hr:=someb hF
    subst hr
    exact(FnQ.f0 0 (.inr rfl))
   ·refine AWP.skip (AWP.seq (AWP.rg0 [] [(8,nils)] (AWP.ret ?_)))
    have hr:=someb hF
    subst hr
    exact(FnQ.f1 0 (.inr rfl) (.inl (.nil 10)))
  ·refine AWP.skip (AWP.seq (AWP.seq ?_))
   obtain⟨b5,c7,hF⟩:=bindb hF
   refine AWP.rg0 [(2,.len Za b),(5,.len Za c),(7,.call Tryz.func107 [] (Ztt d (decide ((List.length b:Int) > (0:Int))) (decide ((List.length c:Int) > (0:Int))) b5 c7))] [(0,(slc 10 Za b)),(1,(slc 10 Za c)),(2,(i64 d)),(3,(i64 a)),(37,(vb b5))] ?_
   refine AWP.cif hF (fun c8 hF=>?_) (fun c8 hF=>?_)
   ·refine AWP.seq (AWP.rg0 [] [(8,nils)] (AWP.ret ?_))
    have hr:=someb hF
    subst hr
    exact(FnQ.f1 0 (.inr rfl) (.inl (.nil 10)))
   ·refine AWP.skip (AWP.seq (AWP.rg0 [] [(0,(slc 10 Za b)),(1,(slc 10 Za c)),(2,(i64 d)),(3,(i64 a)),(9,nils),(10,nils)] ?_))
    refine AWP.own (H':=[bf 10 57 Za ([]:ZL) false]) (st':=[(9,(.own 0 (List.length ([]:ZL)))),(0,(slc 10 Za b)),(1,(slc 10 Za c)),(2,(i64 d)),(3,(i64 a)),(10,nils)]) 9 10 57 (by kernel_rfl) (by kernel_rfl) (by kernel_rfl) ?_
    refine AWP.pick (st':=[(0,(slc 10 Za b)),(1,(slc 10 Za c)),(2,(i64 d)),(3,(i64 a)),(9,(.own 0 (List.length ([]:ZL)))),(10,nils)]) (ks:=[0,1,2,3,9,10]) (by kernel_rfl) ?_
    refine AWP.seq ?_
    obtain⟨b6,c9,hF⟩:=bindb hF
    obtain⟨b7,d0,hF⟩:=bindb hF
    obtain⟨f,d1,hF⟩:=bindb hF
    refine AWP.rg0 [(3,.call Tryz.func109 [] (Zrh b c a b6 c9)),(5,.call Tryz.func43 [] (Zi9 a b7 d0)),(6,.call Tryz.func108 [] (Zrk b6 b7 f d1))] [(0,(slc 10 Za b)),(1,(slc 10 Za c)),(2,(i64 d)),(3,(i64 a)),(9,(.own 0 (List.length ([]:ZL)))),(10,nils),(11,(slc 1 Zc f))] (AWP.seq (AWP.seq (AWP.rg0 [] [(0,(slc 10 Za b)),(1,(slc 10 Za c)),(2,(i64 d)),(3,(i64 a)),(9,(.own 0 (List.length ([]:ZL)))),(10,nils),(11,(slc 1 Zc f)),(12,(i64 (0:Int)))] ?_)))
    obtain⟨a2,d2,hF⟩:=bindb hF
    refine AWP.mid (fun e st H=>e=.normal∧st=[(9,(.own 0 (List.length a2)))]∧H=[bf 10 57 Za a2 false]) ?_ ?_
    ·clear hF
     refine AWP.wk (p:=nils) (q:=(slc 10 Za ([]:ZL))) (st':=[(10,(slc 10 Za ([]:ZL))),(0,(slc 10 Za b)),(1,(slc 10 Za c)),(2,(i64 d)),(3,(i64 a)),(9,(.own 0 (List.length ([]:ZL)))),(11,(slc 1 Zc f)),(12,(i64 (0:Int)))]) 10 (by kernel_rfl) (.nil 10) (by kernel_rfl) ?_
     refine AWP.kp [0,1,2,3,9,10,11,12] 1 ?_
     refine AWP.bround (fun n st H=>∃ m,∃ o,∃ g,Zd3 b c d a (Zbv nr) f n m o g=some a2∧st=[(0,(slc 10 Za b)),(1,(slc 10 Za c)),(2,(i64 d)),(3,(i64 a)),(9,(.own 0 (List.length m))),(10,(slc 10 Za o)),(11,(slc 1 Zc f)),(12,(i64 g))]∧H=[bf 10 57 Za m false]) fuel ⟨([]:ZL),([]:ZL),(0:Int),d2,by kernel_rfl,by kernel_rfl⟩ ?_
     rintro a9 st H ⟨m,o,g,hF,rfl,rfl⟩
     cases a9 with
     | zero=>exact noneb hF
     | succ a9=>
      rw [Zd3] at hF
      refine AWP.seq (AWP.seq (AWP.rg0 [(2,.len Zc f)] [(0,(slc 10 Za b)),(1,(slc 10 Za c)),(2,(i64 d)),(3,(i64 a)),(9,(.own 0 (List.length m))),(10,(slc 10 Za o)),(11,(slc 1 Zc f)),(12,(i64 g)),(48,(vb (decide (g<(List.length f:Int)))))] ?_))
      refine AWP.cif hF (fun d3 hF=>?_) (fun d3 hF=>?_)
      ·refine AWP.skip ?_
       obtain⟨d4,d5,hF⟩:=bindb hF
       refine AWP.seq ?_
       refine AWP.mid (fun e st H=>(e=.normal∧∃ a1,∃ a3,d4=(a1,a3)∧st=[(0,(slc 10 Za b)),(1,(slc 10 Za c)),(2,(i64 d)),(3,(i64 a)),(9,(.own 0 (List.length a1))),(10,(slc 10 Za a3)),(11,(slc 1 Zc f)),(12,(i64 g))]∧H=[bf 10 57 Za a1 false])) ?_ ?_
       ·clear hF
        have hF:=d5
        refine AWP.block (AWP.seq ?_)
        obtain⟨b0,d6,hF⟩:=bindb hF
        refine AWP.rg0 [(1,.call Tryz.func43 [] (Zi9 a b0 d6))] [(0,(slc 10 Za b)),(1,(slc 10 Za c)),(2,(i64 d)),(3,(i64 a)),(9,(.own 0 (List.length m))),(10,(slc 10 Za o)),(11,(slc 1 Zc f)),(12,(i64 g)),(13,(u64 (IntKind.wrap .u64 b0)))] ?_
        obtain⟨j,d7,hF⟩:=bindb hF
        refine AWP.seq ?_
        refine AWP.mid (fun e st H=>e=.normal∧st=[(0,(slc 10 Za b)),(1,(slc 10 Za c)),(2,(i64 d)),(3,(i64 a)),(9,(.own 0 (List.length m))),(10,(slc 10 Za o)),(11,(slc 1 Zc f)),(12,(i64 g)),(13,(u64 j))]∧H=[bf 10 57 Za m false]) ?_ ?_
        ·clear hF
         have hF:=d7
         refine AWP.seq (AWP.rg0 [(3,.len Zc f)] [(0,(slc 10 Za b)),(1,(slc 10 Za c)),(2,(i64 d)),(3,(i64 a)),(9,(.own 0 (List.length m))),(10,(slc 10 Za o)),(11,(slc 1 Zc f)),(12,(i64 g)),(13,(u64 (IntKind.wrap .u64 b0))),(58,(vb (decide ((ZI (g + (1:Int)))<(List.length f:Int)))))] ?_)
         refine AWP.cif hF (fun d8 hF=>?_) (fun d8 hF=>?_)
         ·obtain⟨d9,e0,hF⟩:=bindb hF
          refine AWP.rg0 [(3,.idx Zc e0)] [(0,(slc 10 Za b)),(1,(slc 10 Za c)),(2,(i64 d)),(3,(i64 a)),(9,(.own 0 (List.length m))),(10,(slc 10 Za o)),(11,(slc 1 Zc f)),(12,(i64 g)),(13,(u64 (IntKind.wrap .u64 (d9 - (1:Int)))))] (LeQ.start (LeQ.pk [0,1,2,3,9,10,11,12,13] 1 ?_))
          have hr:=someb hF
          subst hr
          exact⟨rfl,by kernel_rfl,by kernel_rfl⟩
         ·refine AWP.skip (LeQ.start (LeQ.pk [0,1,2,3,9,10,11,12,13] 1 ?_))
          have hr:=someb hF
          subst hr
          exact⟨rfl,by kernel_rfl,by kernel_rfl⟩
        ·rintro _ _ _ ⟨rfl,rfl,rfl⟩
         refine AWP.seq ?_
         obtain⟨e1,e2,hF⟩:=bindb hF
         obtain⟨b8,e3,hF⟩:=bindb hF
         obtain⟨e4,e5,hF⟩:=bindb hF
         obtain⟨b9,e6,hF⟩:=bindb hF
         obtain⟨k,e7,hF⟩:=bindb hF
         refine AWP.dr [(4,.idx Zc e2),(6,.call Tryz.func110 [] (Zpg b a e1 b8 e3)),(11,.idx Zc e5),(13,.call Tryz.func110 [] (Zpg c a e4 b9 e6)),(17,.call Tryz.func60 [] (ih b8 b9 d (ZI (a + (1:Int))) k e7))] 18 [] [] [] [(0,(slc 10 Za b)),(1,(slc 10 Za c)),(2,(i64 d)),(3,(i64 a)),(9,(.own 0 (List.length m))),(10,(slc 10 Za o)),(11,(slc 1 Zc f)),(12,(i64 g)),(13,(u64 j)),(14,(slc 10 Za k))] [bf 10 57 Za m false] (AWP.seq (AWP.seq ?_))
         obtain⟨e8,a4,hF⟩:=bindb hF
         replace a4:=someb a4
         obtain⟨e9,a5,hF⟩:=bindb hF
         replace a5:=someb a5
         obtain⟨f2,b1,hF⟩:=bindb hF
         refine AWP.to [(0,(slc 10 Za b)),(1,(slc 10 Za c)),(2,(i64 d)),(3,(i64 a)),(9,(.own 0 (List.length m))),(10,(slc 10 Za o)),(11,(slc 1 Zc f)),(12,(i64 g)),(13,(u64 j)),(14,(slc 10 Za k)),(94,(vb f2))] [bf 10 57 Za m false] ?_ ?_
         ·cases e8 with
          | false=>
           subst a5
           have f3:=someb (ifF b1 rfl)
           subst f3
           exact AWP.rgT [(2,.bool a4)]
          | true=>
           cases e9 with
           | false=>
            have f4:=someb (ifF b1 rfl)
            subst f4
            exact AWP.rgT [(2,.bool a4),(4,.len Za k),(7,.bool a5)]
           | true=>
            have a6:=ifT b1 rfl
            obtain⟨f5,f6,a6⟩:=bindb a6
            replace a6:=someb a6
            subst a6
            exact AWP.rgT [(2,.bool a4),(4,.len Za k),(7,.bool a5),(10,.call Tryz.func111 [] (Zne k o f5 f6))]
         refine AWP.cif hF (fun f7 hF=>?_) (fun f7 hF=>?_)
         ·refine AWP.seq (AWP.seq (AWP.rg0 [(1,.len Za m),(3,.len Za k)] [(0,(slc 10 Za b)),(1,(slc 10 Za c)),(2,(i64 d)),(3,(i64 a)),(9,(.own 0 (List.length m))),(10,(slc 10 Za o)),(11,(slc 1 Zc f)),(12,(i64 g)),(13,(u64 j)),(15,(i64 (ZI ((List.length m:Int) - (List.length k:Int)))))] ?_))
          obtain⟨a7,f8,hF⟩:=bindb hF
          refine AWP.mid (fun e st H=>e=.normal∧st=[(0,(slc 10 Za b)),(1,(slc 10 Za c)),(2,(i64 d)),(3,(i64 a)),(9,(.own 0 (List.length a7))),(10,(slc 10 Za o)),(11,(slc 1 Zc f)),(12,(i64 g))]∧H=[bf 10 57 Za a7 false]) ?_ ?_
          ·clear hF
           refine AWP.kp [0,1,2,3,9,10,11,12,13,15] 1 ?_
           refine AWP.bround (fun n st H=>∃ v,∃ u,Zd2 a j n v u=some a7∧st=[(0,(slc 10 Za b)),(1,(slc 10 Za c)),(2,(i64 d)),(3,(i64 a)),(9,(.own 0 (List.length v))),(10,(slc 10 Za o)),(11,(slc 1 Zc f)),(12,(i64 g)),(13,(u64 j)),(15,(i64 u))]∧H=[bf 10 57 Za v false]) fuel ⟨m,(ZI ((List.length m:Int) - (List.length k:Int))),f8,by kernel_rfl,by kernel_rfl⟩ ?_
           rintro b2 st H ⟨v,u,hF,rfl,rfl⟩
           cases b2 with
           | zero=>exact noneb hF
           | succ b2=>
            rw [Zd2] at hF
            refine AWP.seq (AWP.seq (AWP.rg0 [(2,.len Za v)] [(0,(slc 10 Za b)),(1,(slc 10 Za c)),(2,(i64 d)),(3,(i64 a)),(9,(.own 0 (List.length v))),(10,(slc 10 Za o)),(11,(slc 1 Zc f)),(12,(i64 g)),(13,(u64 j)),(15,(i64 u)),(103,(vb (decide (u<(List.length v:Int)))))] ?_))
            refine AWP.cif hF (fun f9 hF=>?_) (fun f9 hF=>?_)
            ·refine AWP.skip (AWP.seq (AWP.block ?_))
             obtain⟨x,c0,hF⟩:=bindb hF
             obtain⟨c1,hF⟩:=chkb hF
             refine AWP.rg [(5,.idx Za c0),(6,.ixE Za v u c1),(7,.fdE Za v u),(8,.stEd Za c0 (fun c2=>(Arr5.set x c2 ({ (Arr5.get x c2) with Hi:=(IntKind.wrap .u32 j) }:Zb))) 0 2 1 c1)] [(0,(slc 10 Za b)),(1,(slc 10 Za c)),(2,(i64 d)),(3,(i64 a)),(9,(.own 0 (List.length v))),(10,(slc 10 Za o)),(11,(slc 1 Zc f)),(12,(i64 g)),(13,(u64 j)),(15,(i64 u))] [bf 10 57 Za (List.set v (Int.toNat u) (Arr5.set x a ({ (Arr5.get x a) with Hi:=(IntKind.wrap .u32 j) }:Zb))) false] ?_
             rw [show ([(0,(slc 10 Za b)),(1,(slc 10 Za c)),(2,(i64 d)),(3,(i64 a)),(9,(.own 0 (List.length v))),(10,(slc 10 Za o)),(11,(slc 1 Zc f)),(12,(i64 g)),(13,(u64 j)),(15,(i64 u))]:St)=[(0,(slc 10 Za b)),(1,(slc 10 Za c)),(2,(i64 d)),(3,(i64 a)),(9,(.own 0 (List.length (List.set v (Int.toNat u) (Arr5.set x a ({ (Arr5.get x a) with Hi:=(IntKind.wrap .u32 j) }:Zb)))))),(10,(slc 10 Za o)),(11,(slc 1 Zc f)),(12,(i64 g)),(13,(u64 j)),(15,(i64 u))] by simp only [List.length_set]]
             refine AWP.rg0 [] [(0,(slc 10 Za b)),(1,(slc 10 Za c)),(2,(i64 d)),(3,(i64 a)),(9,(.own 0 (List.length (List.set v (Int.toNat u) (Arr5.set x a ({ (Arr5.get x a) with Hi:=(IntKind.wrap .u32 j) }:Zb)))))),(10,(slc 10 Za o)),(11,(slc 1 Zc f)),(12,(i64 g)),(13,(u64 j)),(15,(i64 (ZI (u + (1:Int)))))] (LeQ.start (LeQ.pk [0,1,2,3,9,10,11,12,13,15] 1 ?_))
             exact⟨b2,Nat.lt_succ_self _,(List.set v (Int.toNat u) (Arr5.set x a ({ (Arr5.get x a) with Hi:=(IntKind.wrap .u32 j) }:Zb))),(ZI (u + (1:Int))),hF,by kernel_rfl,by kernel_rfl⟩
            ·refine AWP.exit (LeQ.start (LeQ.pk [0,1,2,3,9,10,11,12] 1 ?_))
             have hr:=someb hF
             subst hr
             exact⟨rfl,by kernel_rfl,by kernel_rfl⟩
          ·rintro _ _ _ ⟨rfl,rfl,rfl⟩
           refine AWP.exit (LeQ.start (LeQ.pk [0,1,2,3,9,10,11,12] 1 ?_))
           exact⟨rfl,a7,o,(someb hF).symm,by kernel_rfl,by kernel_rfl⟩
         ·refine AWP.skip (AWP.seq (AWP.rg0 [] [(0,(slc 10 Za b)),(1,(slc 10 Za c)),(2,(i64 d)),(3,(i64 a)),(9,(.own 0 (List.length m))),(10,(slc 10 Za k)),(11,(slc 1 Zc f)),(12,(i64 g)),(13,(u64 j)),(14,(slc 10 Za k))] (AWP.seq (AWP.rg0 [] [(0,(slc 10 Za b)),(1,(slc 10 Za c)),(2,(i64 d)),(3,(i64 a)),(9,(.own 0 (List.length m))),(10,(slc 10 Za k)),(11,(slc 1 Zc f)),(12,(i64 g)),(13,(u64 j)),(14,(slc 10 Za k)),(16,(i64 (0:Int)))] ?_))))
          obtain⟨a8,g0,hF⟩:=bindb hF
          refine AWP.mid (fun e st H=>e=.normal∧st=[(0,(slc 10 Za b)),(1,(slc 10 Za c)),(2,(i64 d)),(3,(i64 a)),(9,(.own 0 (List.length a8))),(10,(slc 10 Za k)),(11,(slc 1 Zc f)),(12,(i64 g))]∧H=[bf 10 57 Za a8 false]) ?_ ?_
          ·clear hF
           refine AWP.kp [0,1,2,3,9,10,11,12,13,14,16] 1 ?_
           refine AWP.bround (fun n st H=>∃ w,∃ y,Zc9 a f g j k n w y=some a8∧st=[(0,(slc 10 Za b)),(1,(slc 10 Za c)),(2,(i64 d)),(3,(i64 a)),(9,(.own 0 (List.length w))),(10,(slc 10 Za k)),(11,(slc 1 Zc f)),(12,(i64 g)),(13,(u64 j)),(14,(slc 10 Za k)),(16,(i64 y))]∧H=[bf 10 57 Za w false]) fuel ⟨m,(0:Int),g0,by kernel_rfl,by kernel_rfl⟩ ?_
           rintro b3 st H ⟨w,y,hF,rfl,rfl⟩
           cases b3 with
           | zero=>exact noneb hF
           | succ b3=>
            rw [Zc9] at hF
            refine AWP.seq (AWP.seq (AWP.rg0 [(2,.len Za k)] [(0,(slc 10 Za b)),(1,(slc 10 Za c)),(2,(i64 d)),(3,(i64 a)),(9,(.own 0 (List.length w))),(10,(slc 10 Za k)),(11,(slc 1 Zc f)),(12,(i64 g)),(13,(u64 j)),(14,(slc 10 Za k)),(16,(i64 y)),(118,(vb (decide (y<(List.length k:Int)))))] ?_))
            refine AWP.cif hF (fun g1 hF=>?_) (fun g1 hF=>?_)
            ·refine AWP.skip (AWP.seq (AWP.block (AWP.seq ?_)))
             obtain⟨z,g2,hF⟩:=bindb hF
             refine AWP.rg [(2,.idx Za g2)] [(0,(slc 10 Za b)),(1,(slc 10 Za c)),(2,(i64 d)),(3,(i64 a)),(9,(.own 0 (List.length w))),(10,(slc 10 Za k)),(11,(slc 1 Zc f)),(12,(i64 g)),(13,(u64 j)),(14,(slc 10 Za k)),(16,(i64 y)),(17,(.ptr 1 0))] [bf 10 57 Za w false,.cells (Za z)] (AWP.seq ?_)
             obtain⟨a0,g3,hF⟩:=bindb hF
             obtain⟨c3,hF⟩:=chkb hF
             refine AWP.rg [(3,.idx Zc g3),(9,.ixd c3),(10,.stA (fun g4=>Za (Arr5.set z g4 (Zb.mk (IntKind.wrap .u32 a0) (IntKind.wrap .u32 j)))) 0 2 0 c3)] [(0,(slc 10 Za b)),(1,(slc 10 Za c)),(2,(i64 d)),(3,(i64 a)),(9,(.own 0 (List.length w))),(10,(slc 10 Za k)),(11,(slc 1 Zc f)),(12,(i64 g)),(13,(u64 j)),(14,(slc 10 Za k)),(16,(i64 y)),(17,(.ptr 1 0))] [bf 10 57 Za w false,.cells (Za (Arr5.set z a (Zb.mk (IntKind.wrap .u32 a0) (IntKind.wrap .u32 j))))] ?_
             obtain⟨g5,hF⟩:=chkb hF
             refine AWP.rg [(3,.app Za (fun _=>by kernel_rfl) g5)] [(0,(slc 10 Za b)),(1,(slc 10 Za c)),(2,(i64 d)),(3,(i64 a)),(9,(.own 0 (List.length (w++[(Arr5.set z a (Zb.mk (IntKind.wrap .u32 a0) (IntKind.wrap .u32 j)))])))),(10,(slc 10 Za k)),(11,(slc 1 Zc f)),(12,(i64 g)),(13,(u64 j)),(14,(slc 10 Za k)),(16,(i64 y))] [bf 10 57 Za (w++[(Arr5.set z a (Zb.mk (IntKind.wrap .u32 a0) (IntKind.wrap .u32 j)))]) false,.cells (Za (Arr5.set z a (Zb.mk (IntKind.wrap .u32 a0) (IntKind.wrap .u32 j))))] (AWP.rg0 [] [(0,(slc 10 Za b)),(1,(slc 10 Za c)),(2,(i64 d)),(3,(i64 a)),(9,(.own 0 (List.length (w++[(Arr5.set z a (Zb.mk (IntKind.wrap .u32 a0) (IntKind.wrap .u32 j)))])))),(10,(slc 10 Za k)),(11,(slc 1 Zc f)),(12,(i64 g)),(13,(u64 j)),(14,(slc 10 Za k)),(16,(i64 (ZI (y + (1:Int)))))] (LeQ.start (LeQ.pk [0,1,2,3,9,10,11,12,13,14,16] 1 ?_)))
             exact⟨b3,Nat.lt_succ_self _,(w++[(Arr5.set z a (Zb.mk (IntKind.wrap .u32 a0) (IntKind.wrap .u32 j)))]),(ZI (y + (1:Int))),hF,by kernel_rfl,by kernel_rfl⟩
            ·refine AWP.exit (LeQ.start (LeQ.pk [0,1,2,3,9,10,11,12] 1 ?_))
             have hr:=someb hF
             subst hr
             exact⟨rfl,by kernel_rfl,by kernel_rfl⟩
          ·rintro _ _ _ ⟨rfl,rfl,rfl⟩
           refine LeQ.start (LeQ.pk [0,1,2,3,9,10,11,12] 1 ?_)
           exact⟨rfl,a8,k,(someb hF).symm,by kernel_rfl,by kernel_rfl⟩
       ·rintro _ _ _ ⟨rfl,a1,a3,rfl,rfl,rfl⟩
        refine AWP.rg0 [] [(0,(slc 10 Za b)),(1,(slc 10 Za c)),(2,(i64 d)),(3,(i64 a)),(9,(.own 0 (List.length a1))),(10,(slc 10 Za a3)),(11,(slc 1 Zc f)),(12,(i64 (ZI (g + (1:Int)))))] (LeQ.start (LeQ.pk [0,1,2,3,9,10,11,12] 1 ?_))
        exact⟨a9,Nat.lt_succ_self _,a1,a3,(ZI (g + (1:Int))),hF,by kernel_rfl,by kernel_rfl⟩
      ·refine AWP.exit (LeQ.start (LeQ.pk [9] 1 ?_))
       have hr:=someb hF
       subst hr
       exact⟨rfl,by kernel_rfl,by kernel_rfl⟩
    ·rintro _ _ _ ⟨rfl,rfl,rfl⟩
     refine AWP.seq (AWP.rg0 [] [(8,(.own 0 (List.length a2)))] (AWP.ret ?_))
     have hr:=someb hF
     subst hr
     exact(FnQ.f1 0 (.inr rfl) (.inl (Wk.ownT (i:=0) (s:=10) (t:=57) (l:=a2) (sh:=false) (row:=Za) (by kernel_rfl) (.inl rfl))))
theorem Zme (a:ZL) (b:ZL) (c:Int) (d:Int) (r:ZL) (hF:Zbv fuel a b c d=some r):ACall Tryz.prog glob 60 [(slc 10 Za a),(slc 10 Za b),(i64 c),(i64 d)] [] (Zmd r):=Zqe fuel a b c d r hF
def Zqf (r:(ZL × Int)):PV→List Blk→Prop:=fun p K=>p=(.tup [(slc 10 Za r.1),(i64 r.2)])∧K=[]
theorem Zk7 (a:ZL) (r:(ZL × Int)) (hF:Zfa a=some r):ACall Tryz.prog glob 97 [(slc 10 Za a)] [] (Zqf r):=by
 refine ACall.body Tryz.func97 rfl (by kernel_rfl) ?_
 unfold Zfa at hF
 refine AWP.seq (AWP.rg0 [] [(0,(slc 10 Za a))] (AWP.seq (AWP.seq (AWP.rg0 [(1,.len Za a)] [(0,(slc 10 Za a)),(6,(vb (decide ((List.length a:Int) > (4096:Int)))))] ?_))))
 refine AWP.cif hF (fun b hF=>?_) (fun b hF=>?_)
 ·refine AWP.seq (AWP.rg0 [] [(2,nils),(3,(i64 (3:Int)))] (AWP.ret ?_))
  have hr:=someb hF
  subst hr
  exact(FnQ.f1 0 (.inr rfl) (.inr ⟨_,_,rfl,rfl,(.cons _ _ _ _ (.nil 10) (.cons _ _ _ _ (.refl _) .nil))⟩))
 ·refine AWP.skip (AWP.seq (AWP.rg0 [] [(2,(slc 10 Za a)),(3,(i64 (0:Int)))] (AWP.ret ?_)))
  have hr:=someb hF
  subst hr
  exact(FnQ.f0 0 (.inr rfl))
def Znf (r:(ZL × Int)):PV→List Blk→Prop:=fun p K=>p=(.tup [(slc 10 Za r.1),(i64 r.2)])∧K=[]
abbrev Zng (r:(ZL × Int)):Exit→St→List Blk→Prop:=FnQ Tryz.prog Tryz.f48.results 0 (Znf r)
theorem Znh (a:ZL) (r:(ZL × Int)) (hF:Zgn a=some r):ACall Tryz.prog glob 48 [(slc 10 Za a)] [] (Znf r):=by
 refine ACall.body Tryz.func48 rfl (by kernel_rfl) ?_
 unfold Zgn at hF
 refine AWP.seq (AWP.rg0 [] [(0,(slc 10 Za a))] (AWP.seq (AWP.rg0 [] [(0,(slc 10 Za a)),(4,nils)] (AWP.seq (AWP.seq (AWP.rg0 [] [(0,(slc 10 Za a)),(4,nils),(5,(i64 (0:Int)))] ?_))))))
 obtain⟨i,o,hF⟩:=bindb hF
 refine AWP.mid (fun e st H=>(e=.normal∧∃ g,i=(.inl g)∧st=[(4,(slc 10 Za g))]∧H=[])∨(e=.ret∧∃ r,i=(.inr r)∧Zng r e st H)) ?_ ?_
 ·clear hF
  refine AWP.wk (p:=nils) (q:=(slc 10 Za ([]:ZL))) (st':=[(4,(slc 10 Za ([]:ZL))),(0,(slc 10 Za a)),(5,(i64 (0:Int)))]) 4 (by kernel_rfl) (.nil 10) (by kernel_rfl) ?_
  refine AWP.kp [0,4,5] 0 ?_
  refine AWP.bround (fun n st H=>∃ d,∃ b,Zec a n d b=some i∧st=[(0,(slc 10 Za a)),(4,(slc 10 Za d)),(5,(i64 b))]∧H=[]) fuel ⟨([]:ZL),(0:Int),o,by kernel_rfl,by kernel_rfl⟩ ?_
  rintro j st H ⟨d,b,hF,rfl,rfl⟩
  cases j with
  | zero=>exact noneb hF
  | succ j=>
   rw [Zec] at hF
   refine AWP.seq (AWP.seq (AWP.rg0 [(2,.len Za a)] [(0,(slc 10 Za a)),(4,(slc 10 Za d)),(5,(i64 b)),(11,(vb (decide (b<(List.length a:Int)))))] ?_))
   refine AWP.cif hF (fun s hF=>?_) (fun s hF=>?_)
   ·refine AWP.skip ?_
    obtain⟨k,t,hF⟩:=bindb hF
    refine AWP.seq ?_
    refine AWP.mid (fun e st H=>(e=.normal∧∃ f,k=(.inl f)∧st=[(0,(slc 10 Za a)),(4,(slc 10 Za f)),(5,(i64 b))]∧H=[])∨(e=.ret∧∃ r,k=(.inr r)∧Zng r e st H)) ?_ ?_
    ·clear hF
     have hF:=t
     refine AWP.block (AWP.seq (AWP.seq ?_))
     obtain⟨u,v,hF⟩:=bindb hF
     obtain⟨l,w,hF⟩:=bindb hF
     refine AWP.rg0 [(2,.idx Za v),(4,.call Tryz.func96 [] (Zcv u l w))] [(0,(slc 10 Za a)),(4,(slc 10 Za d)),(5,(i64 b)),(19,(vb (!l)))] ?_
     refine AWP.cif hF (fun x hF=>?_) (fun x hF=>?_)
     ·refine AWP.exit (LeQ.start (LeQ.pk [0,4,5] 0 ?_))
      exact(.inl ⟨rfl,d,(someb hF).symm,by kernel_rfl,by kernel_rfl⟩)
     ·refine AWP.skip (AWP.seq ?_)
      obtain⟨y,hF⟩:=chkb hF
      obtain⟨m,z,hF⟩:=bindb hF
      obtain⟨c,a0,hF⟩:=bindb hF
      refine AWP.rg0 [(5,.slice Za a y),(6,.call Tryz.func60 [] (Zme d (List.drop (Int.toNat b) (List.take (Int.toNat (ZI (b + (1:Int)))) a)) (0:Int) (0:Int) m z)),(7,.call Tryz.func97 [] (Zk7 m c a0))] [(0,(slc 10 Za a)),(5,(i64 b)),(6,(slc 10 Za c.1)),(7,(i64 c.2))] (AWP.seq (AWP.seq (AWP.rg0 [] [(0,(slc 10 Za a)),(5,(i64 b)),(6,(slc 10 Za c.1)),(7,(i64 c.2)),(32,(vb (c.2 != (0:Int))))] ?_)))
      refine AWP.cif hF (fun a1 hF=>?_) (fun a1 hF=>?_)
      ·refine AWP.seq (AWP.rg0 [] [(2,nils),(3,(i64 c.2))] (AWP.ret ?_))
       exact LeQ.of (.inr ⟨rfl,(([]:ZL),c.2),(someb hF).symm,(FnQ.f1 0 (.inr rfl) (.inr ⟨_,_,rfl,rfl,(.cons _ _ _ _ (.nil 10) (.cons _ _ _ _ (.refl _) .nil))⟩))⟩)
      ·refine AWP.skip (AWP.rg0 [] [(0,(slc 10 Za a)),(4,(slc 10 Za c.1)),(5,(i64 b))] (LeQ.start (LeQ.pk [0,4,5] 0 ?_)))
       exact(.inl ⟨rfl,c.1,(someb hF).symm,by kernel_rfl,by kernel_rfl⟩)
    ·rintro _ _ _ (⟨rfl,f,rfl,rfl,rfl⟩ | ⟨rfl,a2,rfl,hq⟩)
     ·refine AWP.rg0 [] [(0,(slc 10 Za a)),(4,(slc 10 Za f)),(5,(i64 (ZI (b + (1:Int)))))] (LeQ.start (LeQ.pk [0,4,5] 0 ?_))
      exact⟨j,Nat.lt_succ_self _,f,(ZI (b + (1:Int))),hF,by kernel_rfl,by kernel_rfl⟩
     ·exact LeQ.of (.inr ⟨rfl,a2,(someb hF).symm,hq⟩)
   ·refine AWP.exit (LeQ.start (LeQ.pk [4] 0 ?_))
    exact(.inl ⟨rfl,d,(someb hF).symm,by kernel_rfl,by kernel_rfl⟩)
 ·rintro _ _ _ (⟨rfl,g,rfl,rfl,rfl⟩ | ⟨rfl,a3,rfl,hq⟩)
  ·refine AWP.seq (AWP.rg0 [] [(2,(slc 10 Za g)),(3,(i64 (0:Int)))] (AWP.ret ?_))
   have hr:=someb hF
   subst hr
   exact(FnQ.f0 0 (.inr rfl))
  ·have hr:=someb hF
   subst hr
   exact hq
def Zqg (r:(ZL × Zh)):PV→List Blk→Prop:=fun p K=>p=(slc 10 Za r.1)∧K=[.cells (Zj r.2)]
theorem Ziu (b:Zh) (a:Int) (r:(ZL × Zh)) (hF:Zgg b a=some r):ACall Tryz.prog glob 15 [(.ptr 0 0),(i64 a)] [.cells (Zj b)] (Zqg r):=by
 refine ACall.body Tryz.func15 rfl (by kernel_rfl) ?_
 unfold Zgg at hF
 refine AWP.seq (AWP.rg0 [] [(0,(.ptr 0 0)),(1,(i64 a))] (AWP.seq ?_))
 obtain⟨c,f,hF⟩:=bindb hF
 obtain⟨d,g,hF⟩:=bindb hF
 refine AWP.rg [(2,.call Tryz.func20 [] (Zhz b a false c f)),(3,.call Tryz.func48 [] (Znh c.1 d g))] [(5,(slc 10 Za d.1))] [.cells (Zj c.2)] (AWP.seq (AWP.rg0 [] [(4,(slc 10 Za d.1))] (AWP.ret ?_)))
 have hr:=someb hF
 subst hr
 exact(FnQ.f0 1 (.inr rfl))
def Zqy (r:Bool):PV→List Blk→Prop:=fun p K=>p=(vb r)∧K=[]
abbrev Zxe (r:Bool):Exit→St→List Blk→Prop:=FnQ Tryz.prog Tryz.f98.results 0 (Zqy r)
theorem Zi5 (a:ZB) (r:Bool) (hF:Zgl a=some r):ACall Tryz.prog glob 98 [(Zt a)] [] (Zqy r):=by
 refine ACall.body Tryz.func98 rfl (by kernel_rfl) ?_
 unfold Zgl at hF
 refine AWP.seq (AWP.rg [] [(1,(.ptr 0 0))] [.cells (Za a)] (AWP.seq (AWP.seq (AWP.rg0 [] [(5,(Zt a)),(6,(i64 (0:Int)))] ?_))))
 obtain⟨f,k,hF⟩:=bindb hF
 refine AWP.mid (fun e st H=>(e=.normal∧f=(.inl ())∧st=[]∧H=[.cells (Za a)])∨(e=.ret∧∃ r,f=(.inr r)∧Zxe r e st H)) ?_ ?_
 ·clear hF
  refine AWP.kp [5,6] 1 ?_
  refine AWP.bround (fun n st H=>∃ b,Zaq a n b=some f∧st=[(5,(Zt a)),(6,(i64 b))]∧H=[.cells (Za a)]) fuel ⟨(0:Int),k,by kernel_rfl,by kernel_rfl⟩ ?_
  rintro g st H ⟨b,hF,rfl,rfl⟩
  cases g with
  | zero=>exact noneb hF
  | succ g=>
   rw [Zaq] at hF
   refine AWP.seq (AWP.rg0 [] [(5,(Zt a)),(6,(i64 b)),(7,(vb (decide (b<(5:Int)))))] (AWP.seq ?_))
   refine AWP.cif hF (fun l hF=>?_) (fun l hF=>?_)
   ·refine AWP.skip (AWP.seq (AWP.block (AWP.seq ?_)))
    obtain⟨m,hF⟩:=chkb hF
    refine AWP.rg [(1,.ixA Zi (Arr5.get a) m)] [(3,(i64 b)),(4,(.ptr 1 0)),(5,(Zt a)),(6,(i64 b))] [.cells (Za a),.cells (Zi (Arr5.get a b))] (AWP.seq ?_)
    obtain⟨o,d,hF⟩:=bindb hF
    replace d:=someb d
    obtain⟨p,i,hF⟩:=bindb hF
    refine AWP.to [(5,(Zt a)),(6,(i64 b)),(22,(vb p))] [.cells (Za a),.cells (Zi (Arr5.get a b))] ?_ ?_
    ·cases o with
     | false=>
      have c:=ifF i rfl
      obtain⟨j,c⟩:=chkb c
      replace c:=someb c
      subst c
      exact AWP.drT [(5,.bool d),(9,.ixd j),(10,.ldA Zhx (Arr5.get Za2) 0 1 0 j)] 13 [] [] []
     | true=>
      have q:=someb (ifT i rfl)
      subst q
      exact AWP.drT [(5,.bool d)] 13 [] [] []
    refine AWP.cif hF (fun s hF=>?_) (fun s hF=>?_)
    ·refine AWP.seq (AWP.rg0 [] [(2,(vb false))] (AWP.ret ?_))
     exact LeQ.of (.inr ⟨rfl,false,(someb hF).symm,(FnQ.f0 0 (.inr rfl))⟩)
    ·refine AWP.skip (AWP.rg0 [] [(5,(Zt a)),(6,(i64 (ZI (b + (1:Int)))))] (LeQ.start (LeQ.pk [5,6] 1 ?_)))
     exact⟨g,Nat.lt_succ_self _,(ZI (b + (1:Int))),hF,by kernel_rfl,by kernel_rfl⟩
   ·refine AWP.exit (LeQ.start (LeQ.pk [] 1 ?_))
    exact(.inl ⟨rfl,(someb hF).symm,by kernel_rfl,by kernel_rfl⟩)
 ·rintro _ _ _ (⟨rfl,rfl,rfl,rfl⟩ | ⟨rfl,t,rfl,hq⟩)
  ·refine AWP.seq (AWP.rg0 [] [(2,(vb true))] (AWP.ret ?_))
   have hr:=someb hF
   subst hr
   exact(FnQ.f0 0 (.inr rfl))
  ·have hr:=someb hF
   subst hr
   exact hq
def Zkd (r:Bool):PV→List Blk→Prop:=fun p K=>p=(vb r)∧K=[]
abbrev Zop (r:Bool):Exit→St→List Blk→Prop:=FnQ Tryz.prog Tryz.f52.results 0 (Zkd r)
theorem Zgu (a:Zk) (r:Bool) (hF:Zc2 a=some r):ACall Tryz.prog glob 52 [(Zhy a)] [] (Zkd r):=by
 refine ACall.body Tryz.func52 rfl (by kernel_rfl) ?_
 unfold Zc2 at hF
 refine AWP.seq (AWP.rg [] [(1,(.ptr 0 0))] [.cells (Zd a)] (AWP.seq (AWP.seq ?_)))
 obtain⟨i,j,hF⟩:=bindb hF
 obtain⟨o,d,hF⟩:=bindb hF
 replace d:=someb d
 obtain⟨p,k,hF⟩:=bindb hF
 refine AWP.to [(1,(.ptr 0 0)),(14,(vb p))] [.cells (Zd a)] ?_ ?_
 ·cases o with
  | false=>
   have c:=ifF k rfl
   obtain⟨q,s,c⟩:=bindb c
   replace c:=someb c
   subst c
   exact AWP.rgT [(2,.call Tryz.func98 [] (Zi5 a.From i j)),(4,.bool d),(7,.call Tryz.func98 [] (Zi5 a.To q s))]
  | true=>
   have t:=someb (ifT k rfl)
   subst t
   exact AWP.rgT [(2,.call Tryz.func98 [] (Zi5 a.From i j)),(4,.bool d)]
 refine AWP.cif hF (fun u hF=>?_) (fun u hF=>?_)
 ·refine AWP.seq (AWP.rg0 [] [(2,(vb false))] (AWP.ret ?_))
  have hr:=someb hF
  subst hr
  exact(FnQ.f0 0 (.inr rfl))
 ·refine AWP.skip (AWP.seq (AWP.seq (AWP.rg0 [] [(1,(.ptr 0 0)),(16,(Zt a.From)),(17,(i64 (0:Int)))] ?_)))
  obtain⟨f,v,hF⟩:=bindb hF
  refine AWP.mid (fun e st H=>(e=.normal∧f=(.inl ())∧st=[]∧H=[.cells (Zd a)])∨(e=.ret∧∃ r,f=(.inr r)∧Zop r e st H)) ?_ ?_
  ·clear hF
   refine AWP.kp [1,16,17] 1 ?_
   refine AWP.bround (fun n st H=>∃ b,Zcw a n b=some f∧st=[(1,(.ptr 0 0)),(16,(Zt a.From)),(17,(i64 b))]∧H=[.cells (Zd a)]) fuel ⟨(0:Int),v,by kernel_rfl,by kernel_rfl⟩ ?_
   rintro g st H ⟨b,hF,rfl,rfl⟩
   cases g with
   | zero=>exact noneb hF
   | succ g=>
    rw [Zcw] at hF
    refine AWP.seq (AWP.rg0 [] [(1,(.ptr 0 0)),(16,(Zt a.From)),(17,(i64 b)),(18,(vb (decide (b<(5:Int)))))] (AWP.seq ?_))
    refine AWP.cif hF (fun w hF=>?_) (fun w hF=>?_)
    ·refine AWP.skip (AWP.seq (AWP.block (AWP.seq ?_)))
     obtain⟨x,hF⟩:=chkb hF
     refine AWP.rg [(1,.ixA Zi (Arr5.get a.From) x)] [(1,(.ptr 0 0)),(3,(i64 b)),(4,(.ptr 1 0)),(16,(Zt a.From)),(17,(i64 b))] [.cells (Zd a),.cells (Zi (Arr5.get a.From b))] (AWP.seq ?_)
     obtain⟨l,hF⟩:=chkb hF
     obtain⟨m,hF⟩:=chkb hF
     refine AWP.dr [(7,.ixd l),(9,.ldA Zi (Arr5.get a.To) 10 2 1 l),(12,.ixd m),(14,.ldA Zi (Arr5.get a.To) 10 2 0 m)] 17 [] [] [] [(1,(.ptr 0 0)),(16,(Zt a.From)),(17,(i64 b)),(37,(vb ((IntKind.wrap .u32 ((Arr5.get a.From b).Hi - (Arr5.get a.From b).Lo)) != (IntKind.wrap .u32 ((Arr5.get a.To b).Hi - (Arr5.get a.To b).Lo)))))] [.cells (Zd a),.cells (Zi (Arr5.get a.From b))] ?_
     refine AWP.cif hF (fun y hF=>?_) (fun y hF=>?_)
     ·refine AWP.seq (AWP.rg0 [] [(2,(vb false))] (AWP.ret ?_))
      exact LeQ.of (.inr ⟨rfl,false,(someb hF).symm,(FnQ.f0 0 (.inr rfl))⟩)
     ·refine AWP.skip (AWP.rg0 [] [(1,(.ptr 0 0)),(16,(Zt a.From)),(17,(i64 (ZI (b + (1:Int)))))] (LeQ.start (LeQ.pk [1,16,17] 1 ?_)))
      exact⟨g,Nat.lt_succ_self _,(ZI (b + (1:Int))),hF,by kernel_rfl,by kernel_rfl⟩
    ·refine AWP.exit (LeQ.start (LeQ.pk [] 1 ?_))
     exact(.inl ⟨rfl,(someb hF).symm,by kernel_rfl,by kernel_rfl⟩)
  ·rintro _ _ _ (⟨rfl,rfl,rfl,rfl⟩ | ⟨rfl,z,rfl,hq⟩)
   ·refine AWP.seq (AWP.rg0 [] [(2,(vb true))] (AWP.ret ?_))
    have hr:=someb hF
    subst hr
    exact(FnQ.f0 0 (.inr rfl))
   ·have hr:=someb hF
    subst hr
    exact hq
def Ztv (r:ZL):PV→List Blk→Prop:=fun p K=>p=(slc 10 Za r)∧K=[]
theorem Zni (a:(List Zk)) (r:ZL) (hF:Zgo a=some r):ACall Tryz.prog glob 50 [(slc 20 Zd a)] [] (Ztv r):=by
 refine ACall.body Tryz.func50 rfl (by kernel_rfl) ?_
 unfold Zgo at hF
 refine AWP.seq (AWP.rg0 [] [(0,(slc 20 Zd a))] (AWP.seq (AWP.rg0 [] [(0,(slc 20 Zd a)),(3,nils)] ?_)))
 refine AWP.own (H':=[bf 10 57 Za ([]:ZL) false]) (st':=[(3,(.own 0 (List.length ([]:ZL)))),(0,(slc 20 Zd a))]) 3 10 57 (by kernel_rfl) (by kernel_rfl) (by kernel_rfl) ?_
 refine AWP.pick (st':=[(0,(slc 20 Zd a)),(3,(.own 0 (List.length ([]:ZL))))]) (ks:=[0,3]) (by kernel_rfl) ?_
 refine AWP.seq (AWP.seq (AWP.rg0 [(1,.len Zd a)] [(3,(.own 0 (List.length ([]:ZL)))),(6,(slc 20 Zd a)),(7,(i64 (List.length a:Int))),(8,(i64 (0:Int)))] ?_))
 obtain⟨d,o,hF⟩:=bindb hF
 refine AWP.mid (fun e st H=>e=.normal∧st=[(3,(.own 0 (List.length d)))]∧H=[bf 10 57 Za d false]) ?_ ?_
 ·clear hF
  refine AWP.kp [3,6,7,8] 1 ?_
  refine AWP.bround (fun n st H=>∃ b,∃ c,Zed a n b c=some d∧st=[(3,(.own 0 (List.length b))),(6,(slc 20 Zd a)),(7,(i64 (List.length a:Int))),(8,(i64 c))]∧H=[bf 10 57 Za b false]) fuel ⟨([]:ZL),(0:Int),o,by kernel_rfl,by kernel_rfl⟩ ?_
  rintro j st H ⟨b,c,hF,rfl,rfl⟩
  cases j with
  | zero=>exact noneb hF
  | succ j=>
   rw [Zed] at hF
   refine AWP.seq (AWP.rg0 [] [(3,(.own 0 (List.length b))),(6,(slc 20 Zd a)),(7,(i64 (List.length a:Int))),(8,(i64 c)),(9,(vb (decide (c<(List.length a:Int)))))] (AWP.seq ?_))
   refine AWP.cif hF (fun p hF=>?_) (fun p hF=>?_)
   ·refine AWP.skip ?_
    obtain⟨f,q,hF⟩:=bindb hF
    refine AWP.seq ?_
    refine AWP.mid (fun e st H=>e=.normal∧st=[(3,(.own 0 (List.length f))),(6,(slc 20 Zd a)),(7,(i64 (List.length a:Int))),(8,(i64 c))]∧H=[bf 10 57 Za f false]) ?_ ?_
    ·clear hF
     have hF:=q
     refine AWP.block (AWP.seq ?_)
     obtain⟨k,u,hF⟩:=bindb hF
     refine AWP.rg [(0,.idx Zd u)] [(3,(.own 0 (List.length b))),(5,(.ptr 1 0)),(6,(slc 20 Zd a)),(7,(i64 (List.length a:Int))),(8,(i64 c))] [bf 10 57 Za b false,.cells (Zd k)] ?_
     obtain⟨g,v,hF⟩:=bindb hF
     refine AWP.seq ?_
     refine AWP.mid (fun e st H=>e=.normal∧st=[(3,(.own 0 (List.length b))),(5,(.ptr 1 0)),(6,(slc 20 Zd a)),(7,(i64 (List.length a:Int))),(8,(i64 c))]∧H=[bf 10 57 Za b false,.cells (Zd g)]) ?_ ?_
     ·clear hF
      have hF:=v
      refine AWP.seq ?_
      obtain⟨m,w,hF⟩:=bindb hF
      refine AWP.rg0 [(1,.call Tryz.func52 [] (Zgu k m w))] [(3,(.own 0 (List.length b))),(5,(.ptr 1 0)),(6,(slc 20 Zd a)),(7,(i64 (List.length a:Int))),(8,(i64 c)),(14,(vb (!m)))] ?_
      refine AWP.cif hF (fun x hF=>?_) (fun x hF=>?_)
      ·refine AWP.rg [] [(3,(.own 0 (List.length b))),(5,(.ptr 1 0)),(6,(slc 20 Zd a)),(7,(i64 (List.length a:Int))),(8,(i64 c))] [bf 10 57 Za b false,.cells (Zd ({ k with From:=(Arr5.mk (Zb.mk (1:Int) (0:Int)) Zn Zn Zn Zn) }:Zk))] (LeQ.start (LeQ.pk [3,5,6,7,8] 2 ?_))
       have hr:=someb hF
       subst hr
       exact⟨rfl,by kernel_rfl,by kernel_rfl⟩
      ·refine AWP.skip (LeQ.start (LeQ.pk [3,5,6,7,8] 2 ?_))
       have hr:=someb hF
       subst hr
       exact⟨rfl,by kernel_rfl,by kernel_rfl⟩
     ·rintro _ _ _ ⟨rfl,rfl,rfl⟩
      obtain⟨y,hF⟩:=chkb hF
      refine AWP.rg [(4,.app Za (fun _=>by kernel_rfl) y)] [(3,(.own 0 (List.length (b++[g.From])))),(6,(slc 20 Zd a)),(7,(i64 (List.length a:Int))),(8,(i64 c))] [bf 10 57 Za (b++[g.From]) false,.cells (Zd g)] (LeQ.start (LeQ.pk [3,6,7,8] 1 ?_))
      have hr:=someb hF
      subst hr
      exact⟨rfl,by kernel_rfl,by kernel_rfl⟩
    ·rintro _ _ _ ⟨rfl,rfl,rfl⟩
     refine AWP.rg0 [] [(3,(.own 0 (List.length f))),(6,(slc 20 Zd a)),(7,(i64 (List.length a:Int))),(8,(i64 (ZI (c + (1:Int)))))] (LeQ.start (LeQ.pk [3,6,7,8] 1 ?_))
     exact⟨j,Nat.lt_succ_self _,f,(ZI (c + (1:Int))),hF,by kernel_rfl,by kernel_rfl⟩
   ·refine AWP.exit (LeQ.start (LeQ.pk [3] 1 ?_))
    have hr:=someb hF
    subst hr
    exact⟨rfl,by kernel_rfl,by kernel_rfl⟩
 ·rintro _ _ _ ⟨rfl,rfl,rfl⟩
  refine AWP.seq (AWP.rg0 [] [(2,(.own 0 (List.length d)))] (AWP.ret ?_))
  have hr:=someb hF
  subst hr
  exact(FnQ.f1 0 (.inr rfl) (.inl (Wk.ownT (i:=0) (s:=10) (t:=57) (l:=d) (sh:=false) (row:=Za) (by kernel_rfl) (.inl rfl))))
def Zoq (r:Bool):PV→List Blk→Prop:=fun p K=>p=(vb r)∧K=[]
theorem Zgv (a:ZB) (r:Bool) (hF:Zc3 a=some r):ACall Tryz.prog glob 144 [(Zt a)] [] (Zoq r):=by
 refine ACall.body Tryz.func144 rfl (by kernel_rfl) ?_
 unfold Zc3 at hF
 refine AWP.seq (AWP.rg [] [(1,(.ptr 0 0))] [.cells (Za a)] (AWP.seq ?_))
 obtain⟨b,c,hF⟩:=bindb hF
 refine AWP.rg0 [(1,.call Tryz.func98 [] (Zi5 a b c))] [(2,(vb (!b)))] (AWP.ret ?_)
 have hr:=someb hF
 subst hr
 exact(FnQ.f0 0 (.inr rfl))
def Zej (a:ZL) (b:List Value) (r:Int):PV→List Blk→Prop:=fun p K=>p=(i64 r)∧K=[.cells (cel Za a b)]
abbrev Zg9 (a:ZL) (b:List Value) (r:Int):Exit→St→List Blk→Prop:=FnQ Tryz.prog Tryz.f150.results 1 (Zej a b r)
theorem Zha (a:Nat) (c:ZL) (d:List Value) (r:Int) (hF:Zbm a c=some r):ACall Tryz.prog glob 150 [(.vw 0 0 a),(.sc (.func (.func 144) #[] #[]))] [.cells (cel Za c d)] (Zej c d r):=by
 refine ACall.body Tryz.func150 rfl (by kernel_rfl) ?_
 unfold Zbm at hF
 refine AWP.seq (AWP.rg0 [] [(0,(.vw 0 0 a)),(1,(.sc (.func (.func 144) #[] #[])))] (AWP.seq (AWP.seq (AWP.rg0 [(1,.lenV a)] [(0,(.vw 0 0 a)),(1,(.sc (.func (.func 144) #[] #[]))),(7,(i64 (a:Int))),(8,(i64 (0:Int)))] ?_))))
 obtain⟨f,k,hF⟩:=bindb hF
 refine AWP.mid (fun e st H=>(e=.normal∧f=(.inl ())∧st=[]∧H=[.cells (cel Za c d)])∨(e=.ret∧∃ r,f=(.inr r)∧Zg9 c d r e st H)) ?_ ?_
 ·clear hF
  refine AWP.kp [0,1,7,8] 1 ?_
  refine AWP.bround (fun n st H=>∃ b,Z7 a c n b=some f∧st=[(0,(.vw 0 0 a)),(1,(.sc (.func (.func 144) #[] #[]))),(7,(i64 (a:Int))),(8,(i64 b))]∧H=[.cells (cel Za c d)]) fuel ⟨(0:Int),k,by kernel_rfl,by kernel_rfl⟩ ?_
  rintro g st H ⟨b,hF,rfl,rfl⟩
  cases g with
  | zero=>exact noneb hF
  | succ g=>
   rw [Z7] at hF
   refine AWP.seq (AWP.rg0 [] [(0,(.vw 0 0 a)),(1,(.sc (.func (.func 144) #[] #[]))),(7,(i64 (a:Int))),(8,(i64 b)),(9,(vb (decide (b<(a:Int)))))] (AWP.seq ?_))
   refine AWP.cif hF (fun l hF=>?_) (fun l hF=>?_)
   ·refine AWP.skip (AWP.seq (AWP.block (AWP.seq (AWP.rg0 [] [(0,(.vw 0 0 a)),(1,(.sc (.func (.func 144) #[] #[]))),(5,(i64 b)),(7,(i64 (a:Int))),(8,(i64 b))] (AWP.seq ?_)))))
    obtain⟨m,i,hF⟩:=bindb hF
    obtain⟨j,o,hF⟩:=bindb hF
    refine AWP.rg0 [(3,.idxV (Zs i)),(4,.ldV Za (s:=10) (fun _=>rfl) d (Zq i) (0 + Int.toNat b * 10) (Nat.zero_add _) []),(5,.call Tryz.func144 [] (Zgv m j o))] [(0,(.vw 0 0 a)),(1,(.sc (.func (.func 144) #[] #[]))),(5,(i64 b)),(7,(i64 (a:Int))),(8,(i64 b)),(16,(vb j))] ?_
    refine AWP.cif hF (fun p hF=>?_) (fun p hF=>?_)
    ·refine AWP.seq (AWP.rg0 [] [(4,(i64 b))] (AWP.ret ?_))
     exact LeQ.of (.inr ⟨rfl,b,(someb hF).symm,(FnQ.f0 1 (.inr rfl))⟩)
    ·refine AWP.skip (AWP.rg0 [] [(0,(.vw 0 0 a)),(1,(.sc (.func (.func 144) #[] #[]))),(7,(i64 (a:Int))),(8,(i64 (ZI (b + (1:Int)))))] (LeQ.start (LeQ.pk [0,1,7,8] 1 ?_)))
     exact⟨g,Nat.lt_succ_self _,(ZI (b + (1:Int))),hF,by kernel_rfl,by kernel_rfl⟩
   ·refine AWP.exit (LeQ.start (LeQ.pk [] 1 ?_))
    exact(.inl ⟨rfl,(someb hF).symm,by kernel_rfl,by kernel_rfl⟩)
 ·rintro _ _ _ (⟨rfl,rfl,rfl,rfl⟩ | ⟨rfl,q,rfl,hq⟩)
  ·refine AWP.seq (AWP.rg0 [] [(4,(i64 (-1:Int)))] (AWP.ret ?_))
   have hr:=someb hF
   subst hr
   exact(FnQ.f0 1 (.inr rfl))
  ·have hr:=someb hF
   subst hr
   exact hq
def Zg1 (a:List Value) (r:(Nat × ZL)):PV→List Blk→Prop:=fun p K=>p=(.vw 0 0 r.1)∧K=[.cells (cel Za r.2 a)]
theorem Zg2 (a:Nat) (k:ZL) (b:List Value) (r:(Nat × ZL)) (hF:Zau a k=some r):ACall Tryz.prog glob 142 [(.vw 0 0 a),(.sc (.func (.func 144) #[] #[]))] [.cells (cel Za k b)] (Zg1 b r):=by
 refine ACall.body Tryz.func142 rfl (by kernel_rfl) ?_
 unfold Zau at hF
 refine AWP.seq (AWP.rg0 [] [(0,(.vw 0 0 a)),(1,(.sc (.func (.func 144) #[] #[])))] (AWP.seq ?_))
 obtain⟨i,x,hF⟩:=bindb hF
 refine AWP.rg0 [(2,.callC Tryz.func150 [] (closedH.c (Zx (row:=Za) (fun _=>rfl) k b) closedH.n) (closedH.c (Zx (row:=Za) (fun _=>rfl) k b) closedH.n) (Zha a k b i x))] [(0,(.vw 0 0 a)),(1,(.sc (.func (.func 144) #[] #[]))),(5,(i64 i))] (AWP.seq (AWP.seq (AWP.rg0 [] [(0,(.vw 0 0 a)),(1,(.sc (.func (.func 144) #[] #[]))),(5,(i64 i)),(12,(vb (i == (-1:Int))))] ?_)))
 refine AWP.cif hF (fun y hF=>?_) (fun y hF=>?_)
 ·refine AWP.seq (AWP.rg0 [] [(4,(.vw 0 0 a))] (AWP.ret ?_))
  have hr:=someb hF
  subst hr
  exact(FnQ.f0 1 (.inr rfl))
 ·refine AWP.skip (AWP.seq (AWP.seq (AWP.rg0 [] [(0,(.vw 0 0 a)),(1,(.sc (.func (.func 144) #[] #[]))),(5,(i64 i)),(6,(i64 (ZI (i + (1:Int)))))] ?_)))
  obtain⟨t,z,hF⟩:=bindb hF
  refine AWP.mid (fun e st H=>(e=.normal∧∃ l,∃ g,t=(l,g)∧st=[(0,(.vw 0 0 a)),(5,(i64 g))]∧H=[.cells (cel Za l b)])) ?_ ?_
  ·clear hF
   refine AWP.kp [0,1,5,6] 1 ?_
   refine AWP.bround (fun n st H=>∃ j,∃ d,∃ f,Z6 a n j d f=some t∧st=[(0,(.vw 0 0 a)),(1,(.sc (.func (.func 144) #[] #[]))),(5,(i64 d)),(6,(i64 f))]∧H=[.cells (cel Za j b)]) fuel ⟨k,i,(ZI (i + (1:Int))),z,by kernel_rfl,by kernel_rfl⟩ ?_
   rintro q st H ⟨j,d,f,hF,rfl,rfl⟩
   cases q with
   | zero=>exact noneb hF
   | succ q=>
    rw [Z6] at hF
    refine AWP.seq (AWP.seq (AWP.rg0 [(2,.lenV a)] [(0,(.vw 0 0 a)),(1,(.sc (.func (.func 144) #[] #[]))),(5,(i64 d)),(6,(i64 f)),(19,(vb (decide (f<(a:Int)))))] ?_))
    refine AWP.cif hF (fun a0 hF=>?_) (fun a0 hF=>?_)
    ·refine AWP.skip ?_
     obtain⟨a1,a2,hF⟩:=bindb hF
     refine AWP.seq ?_
     refine AWP.mid (fun e st H=>(e=.normal∧∃ p,∃ o,a1=(p,o)∧st=[(0,(.vw 0 0 a)),(1,(.sc (.func (.func 144) #[] #[]))),(5,(i64 o)),(6,(i64 f))]∧H=[.cells (cel Za p b)])) ?_ ?_
     ·clear hF
      have hF:=a2
      refine AWP.block (AWP.seq ?_)
      obtain⟨m,u,hF⟩:=bindb hF
      refine AWP.rg [(2,.idxV (Zs u)),(3,.ldV Za (s:=10) (fun _=>rfl) b (Zq u) (0 + Int.toNat f * 10) (Nat.zero_add _) [])] [(0,(.vw 0 0 a)),(1,(.sc (.func (.func 144) #[] #[]))),(5,(i64 d)),(6,(i64 f)),(7,(.ptr 1 0))] [.cells (cel Za j b),.cells (Za m)] (AWP.seq ?_)
      obtain⟨v,a3,hF⟩:=bindb hF
      refine AWP.rg0 [(2,.call Tryz.func144 [] (Zgv m v a3))] [(0,(.vw 0 0 a)),(1,(.sc (.func (.func 144) #[] #[]))),(5,(i64 d)),(6,(i64 f)),(7,(.ptr 1 0)),(29,(vb (!v)))] ?_
      refine AWP.cif hF (fun a4 hF=>?_) (fun a4 hF=>?_)
      ·refine AWP.seq ?_
       obtain⟨a8,w,hF⟩:=bindb hF
       refine AWP.rg [(3,.idxV (Zs w)),(4,.stV Za (s:=10) (fun _=>rfl) b (Zq w) m (0 + Int.toNat d * 10) (Nat.zero_add _) [])] [(0,(.vw 0 0 a)),(1,(.sc (.func (.func 144) #[] #[]))),(5,(i64 d)),(6,(i64 f))] [.cells (cel Za (List.set j (Int.toNat d) m) b),.cells (Za m)] (AWP.rg0 [] [(0,(.vw 0 0 a)),(1,(.sc (.func (.func 144) #[] #[]))),(5,(i64 (ZI (d + (1:Int))))),(6,(i64 f))] (LeQ.start (LeQ.pk [0,1,5,6] 1 ?_)))
       exact⟨rfl,(List.set j (Int.toNat d) m),(ZI (d + (1:Int))),(someb hF).symm,by kernel_rfl,by kernel_rfl⟩
      ·refine AWP.skip (LeQ.start (LeQ.pk [0,1,5,6] 1 ?_))
       exact⟨rfl,j,d,(someb hF).symm,by kernel_rfl,by kernel_rfl⟩
     ·rintro _ _ _ ⟨rfl,p,o,rfl,rfl,rfl⟩
      refine AWP.rg0 [] [(0,(.vw 0 0 a)),(1,(.sc (.func (.func 144) #[] #[]))),(5,(i64 o)),(6,(i64 (ZI (f + (1:Int)))))] (LeQ.start (LeQ.pk [0,1,5,6] 1 ?_))
      exact⟨q,Nat.lt_succ_self _,p,o,(ZI (f + (1:Int))),hF,by kernel_rfl,by kernel_rfl⟩
    ·refine AWP.exit (LeQ.start (LeQ.pk [0,5] 1 ?_))
     exact⟨rfl,j,d,(someb hF).symm,by kernel_rfl,by kernel_rfl⟩
  ·rintro _ _ _ ⟨rfl,l,g,rfl,rfl,rfl⟩
   refine AWP.seq ?_
   obtain⟨a5,hF⟩:=chkb hF
   obtain⟨a6,hF⟩:=chkb hF
   refine AWP.rg [(2,.sliceV a5),(3,.clrV Za (s:=10) (fun _=>rfl) (fun _=>rfl) b l Zo (lo:=Int.toNat g) (n:=(Int.toNat (a:Int) - Int.toNat g)) a6 (0 + Int.toNat g * 10) (Nat.zero_add _))] [(0,(.vw 0 0 a)),(5,(i64 g))] [.cells (cel Za (List.take (Int.toNat g) l++List.replicate (Int.toNat (a:Int) - Int.toNat g) Zo++List.drop (Int.toNat g + (Int.toNat (a:Int) - Int.toNat g)) l) b)] (AWP.seq ?_)
   obtain⟨a7,hF⟩:=chkb hF
   refine AWP.rg0 [(2,.sliceV a7)] [(4,(.vw 0 0 (Int.toNat g)))] (AWP.ret ?_)
   have hr:=someb hF
   subst hr
   exact(FnQ.f0 1 (.inr rfl))
def Zd8 (r:Int):PV→List Blk→Prop:=fun p K=>p=(i64 r)∧K=[]
abbrev Zgw (r:Int):Exit→St→List Blk→Prop:=FnQ Tryz.prog Tryz.f150.results 0 (Zd8 r)
theorem Zgx (a:ZL) (r:Int) (hF:Zci a=some r):ACall Tryz.prog glob 150 [(slc 10 Za a),(.sc (.func (.func 144) #[] #[]))] [] (Zd8 r):=by
 refine ACall.body Tryz.func150 rfl (by kernel_rfl) ?_
 unfold Zci at hF
 refine AWP.seq (AWP.rg0 [] [(0,(slc 10 Za a)),(1,(.sc (.func (.func 144) #[] #[])))] (AWP.seq (AWP.seq (AWP.rg0 [(1,.len Za a)] [(0,(slc 10 Za a)),(1,(.sc (.func (.func 144) #[] #[]))),(7,(i64 (List.length a:Int))),(8,(i64 (0:Int)))] ?_))))
 obtain⟨c,g,hF⟩:=bindb hF
 refine AWP.mid (fun e st H=>(e=.normal∧c=(.inl ())∧st=[]∧H=[])∨(e=.ret∧∃ r,c=(.inr r)∧Zgw r e st H)) ?_ ?_
 ·clear hF
  refine AWP.kp [0,1,7,8] 0 ?_
  refine AWP.bround (fun n st H=>∃ b,Za7 a n b=some c∧st=[(0,(slc 10 Za a)),(1,(.sc (.func (.func 144) #[] #[]))),(7,(i64 (List.length a:Int))),(8,(i64 b))]∧H=[]) fuel ⟨(0:Int),g,by kernel_rfl,by kernel_rfl⟩ ?_
  rintro d st H ⟨b,hF,rfl,rfl⟩
  cases d with
  | zero=>exact noneb hF
  | succ d=>
   rw [Za7] at hF
   refine AWP.seq (AWP.rg0 [] [(0,(slc 10 Za a)),(1,(.sc (.func (.func 144) #[] #[]))),(7,(i64 (List.length a:Int))),(8,(i64 b)),(9,(vb (decide (b<(List.length a:Int)))))] (AWP.seq ?_))
   refine AWP.cif hF (fun i hF=>?_) (fun i hF=>?_)
   ·refine AWP.skip (AWP.seq (AWP.block (AWP.seq (AWP.rg0 [] [(0,(slc 10 Za a)),(1,(.sc (.func (.func 144) #[] #[]))),(5,(i64 b)),(7,(i64 (List.length a:Int))),(8,(i64 b))] (AWP.seq ?_)))))
    obtain⟨j,k,hF⟩:=bindb hF
    obtain⟨f,l,hF⟩:=bindb hF
    refine AWP.rg0 [(3,.idx Za k),(5,.call Tryz.func144 [] (Zgv j f l))] [(0,(slc 10 Za a)),(1,(.sc (.func (.func 144) #[] #[]))),(5,(i64 b)),(7,(i64 (List.length a:Int))),(8,(i64 b)),(16,(vb f))] ?_
    refine AWP.cif hF (fun m hF=>?_) (fun m hF=>?_)
    ·refine AWP.seq (AWP.rg0 [] [(4,(i64 b))] (AWP.ret ?_))
     exact LeQ.of (.inr ⟨rfl,b,(someb hF).symm,(FnQ.f0 0 (.inr rfl))⟩)
    ·refine AWP.skip (AWP.rg0 [] [(0,(slc 10 Za a)),(1,(.sc (.func (.func 144) #[] #[]))),(7,(i64 (List.length a:Int))),(8,(i64 (ZI (b + (1:Int)))))] (LeQ.start (LeQ.pk [0,1,7,8] 0 ?_)))
     exact⟨d,Nat.lt_succ_self _,(ZI (b + (1:Int))),hF,by kernel_rfl,by kernel_rfl⟩
   ·refine AWP.exit (LeQ.start (LeQ.pk [] 0 ?_))
    exact(.inl ⟨rfl,(someb hF).symm,by kernel_rfl,by kernel_rfl⟩)
 ·rintro _ _ _ (⟨rfl,rfl,rfl,rfl⟩ | ⟨rfl,o,rfl,hq⟩)
  ·refine AWP.seq (AWP.rg0 [] [(4,(i64 (-1:Int)))] (AWP.ret ?_))
   have hr:=someb hF
   subst hr
   exact(FnQ.f0 0 (.inr rfl))
  ·have hr:=someb hF
   subst hr
   exact hq
def Zgb (r:ZL):PV→List Blk→Prop:=fun p K=>p=(slc 10 Za r)∧K=[]
theorem Zgc (r:ZL) (hF:Zby=some r):ACall Tryz.prog glob 142 [(slc 10 Za ([]:ZL)),(.sc (.func (.func 144) #[] #[]))] [] (Zgb r):=by
 refine ACall.body Tryz.func142 rfl (by kernel_rfl) ?_
 unfold Zby at hF
 refine AWP.seq (AWP.rg0 [] [(0,(slc 10 Za ([]:ZL))),(1,(.sc (.func (.func 144) #[] #[])))] (AWP.seq ?_))
 obtain⟨c,j,hF⟩:=bindb hF
 refine AWP.rg0 [(2,.call Tryz.func150 [] (Zgx ([]:ZL) c j))] [(0,(slc 10 Za ([]:ZL))),(1,(.sc (.func (.func 144) #[] #[]))),(5,(i64 c))] (AWP.seq (AWP.seq (AWP.rg0 [] [(0,(slc 10 Za ([]:ZL))),(1,(.sc (.func (.func 144) #[] #[]))),(5,(i64 c)),(12,(vb (c == (-1:Int))))] ?_)))
 refine AWP.cif hF (fun k hF=>?_) (fun k hF=>?_)
 ·refine AWP.seq (AWP.rg0 [] [(4,(slc 10 Za ([]:ZL)))] (AWP.ret ?_))
  have hr:=someb hF
  subst hr
  exact(FnQ.f0 0 (.inr rfl))
 ·refine AWP.skip (AWP.seq (AWP.seq (AWP.rg0 [] [(0,(slc 10 Za ([]:ZL))),(1,(.sc (.func (.func 144) #[] #[]))),(5,(i64 c)),(6,(i64 (ZI (c + (1:Int)))))] ?_)))
  obtain⟨f,l,hF⟩:=bindb hF
  refine AWP.mid (fun e st H=>e=.normal∧st=[(0,(slc 10 Za ([]:ZL))),(5,(i64 f))]∧H=[]) ?_ ?_
  ·clear hF
   refine AWP.kp [0,1,5,6] 0 ?_
   refine AWP.bround (fun n st H=>∃ b,∃ a,Zav n b a=some f∧st=[(0,(slc 10 Za ([]:ZL))),(1,(.sc (.func (.func 144) #[] #[]))),(5,(i64 b)),(6,(i64 a))]∧H=[]) fuel ⟨c,(ZI (c + (1:Int))),l,by kernel_rfl,by kernel_rfl⟩ ?_
   rintro d st H ⟨b,a,hF,rfl,rfl⟩
   cases d with
   | zero=>exact noneb hF
   | succ d=>
    rw [Zav] at hF
    refine AWP.seq (AWP.seq (AWP.rg0 [(2,.len Za ([]:ZL))] [(0,(slc 10 Za ([]:ZL))),(1,(.sc (.func (.func 144) #[] #[]))),(5,(i64 b)),(6,(i64 a)),(19,(vb (decide (a<(List.length ([]:ZL):Int)))))] ?_))
    refine AWP.cif hF (fun m hF=>?_) (fun m hF=>?_)
    ·refine AWP.skip ?_
     obtain⟨o,p,hF⟩:=bindb hF
     refine AWP.seq ?_
     refine AWP.mid (fun e st H=>(e=.normal∧o=()∧st=[(0,(slc 10 Za ([]:ZL))),(1,(.sc (.func (.func 144) #[] #[]))),(5,(i64 b)),(6,(i64 a))]∧H=[])) ?_ ?_
     ·clear hF
      have hF:=p
      refine AWP.block (AWP.seq ?_)
      obtain⟨g,q,hF⟩:=bindb hF
      refine AWP.rg [(2,.idx Za q)] [(0,(slc 10 Za ([]:ZL))),(1,(.sc (.func (.func 144) #[] #[]))),(5,(i64 b)),(6,(i64 a)),(7,(.ptr 0 0))] [.cells (Za g)] (AWP.seq ?_)
      obtain⟨i,s,hF⟩:=bindb hF
      refine AWP.rg0 [(2,.call Tryz.func144 [] (Zgv g i s))] [(0,(slc 10 Za ([]:ZL))),(1,(.sc (.func (.func 144) #[] #[]))),(5,(i64 b)),(6,(i64 a)),(7,(.ptr 0 0)),(29,(vb (!i)))] ?_
      refine AWP.cif hF (fun t hF=>?_) (fun t hF=>?_)
      ·refine AWP.seq ?_
       exact noneb hF
      ·refine AWP.skip (LeQ.start (LeQ.pk [0,1,5,6] 0 ?_))
       exact⟨rfl,(someb hF).symm,by kernel_rfl,by kernel_rfl⟩
     ·rintro _ _ _ ⟨rfl,rfl,rfl,rfl⟩
      refine AWP.rg0 [] [(0,(slc 10 Za ([]:ZL))),(1,(.sc (.func (.func 144) #[] #[]))),(5,(i64 b)),(6,(i64 (ZI (a + (1:Int)))))] (LeQ.start (LeQ.pk [0,1,5,6] 0 ?_))
      exact⟨d,Nat.lt_succ_self _,b,(ZI (a + (1:Int))),hF,by kernel_rfl,by kernel_rfl⟩
    ·refine AWP.exit (LeQ.start (LeQ.pk [0,5] 0 ?_))
     have hr:=someb hF
     subst hr
     exact⟨rfl,by kernel_rfl,by kernel_rfl⟩
  ·rintro _ _ _ ⟨rfl,rfl,rfl⟩
   refine AWP.seq ?_
   exact noneb hF
def Zqh (r:ZL):PV→List Blk→Prop:=fun p K=>p=(slc 10 Za r)∧K=[]
theorem Ziv (a:ZL) (r:ZL) (hF:Zfb a=some r):ACall Tryz.prog glob 129 [(slc 10 Za a)] [] (Zqh r):=by
 refine ACall.body Tryz.func129 rfl (by kernel_rfl) ?_
 unfold Zfb at hF
 refine AWP.seq (AWP.rg0 [] [(0,(slc 10 Za a))] (AWP.seq ?_))
 obtain⟨c,hF⟩:=chkb hF
 obtain⟨b,d,hF⟩:=bindb hF
 refine AWP.rg [(1,.clone Tryz.func143 Za (fun _=>by kernel_rfl) c),(2,.callBE (s:=10) Za Tryz.func142 (fun _=>rfl) d (fun h sp_=>Zg2 (List.length a) a sp_ _ h) (fun h=>Zgc _ h))] [(2,(slc 10 Za (List.take b.1 b.2)))] [bf 10 57 Za b.2 true] (AWP.ret ?_)
 have hr:=someb hF
 subst hr
 exact(FnQ.f0 0 (.inr rfl))
def Zqi (r:ZL):PV→List Blk→Prop:=fun p K=>p=(slc 10 Za r)∧K=[]
theorem Zqj (c:Int) (b:ZL) (r:ZL) (hF:Zgh c b=some r):ACall Tryz.prog glob 145 [(i64 c),(slc 10 Za b)] [] (Zqi r):=by
 refine ACall.body Tryz.func145 rfl (by kernel_rfl) ?_
 unfold Zgh at hF
 refine AWP.seq (AWP.rg0 [] [(0,(i64 c)),(1,(slc 10 Za b))] (AWP.seq ?_))
 obtain⟨v,hF⟩:=chkb hF
 refine AWP.rg [(1,.clone Tryz.func143 Za (fun _=>by kernel_rfl) v)] [(0,(i64 c)),(5,(.own 0 (List.length b)))] [bf 10 57 Za b false] (AWP.seq (AWP.seq (AWP.rg0 [(1,.len Za b)] [(0,(i64 c)),(5,(.own 0 (List.length b))),(11,(i64 (List.length b:Int))),(12,(i64 (0:Int)))] ?_)))
 obtain⟨j,w,hF⟩:=bindb hF
 refine AWP.mid (fun e st H=>e=.normal∧st=[(5,(.own 0 (List.length j)))]∧H=[bf 10 57 Za j false]) ?_ ?_
 ·clear hF
  refine AWP.kp [0,5,11,12] 1 ?_
  refine AWP.bround (fun n st H=>∃ g,∃ a,Zdg c b n g a=some j∧st=[(0,(i64 c)),(5,(.own 0 (List.length g))),(11,(i64 (List.length b:Int))),(12,(i64 a))]∧H=[bf 10 57 Za g false]) fuel ⟨b,(0:Int),w,by kernel_rfl,by kernel_rfl⟩ ?_
  rintro o st H ⟨g,a,hF,rfl,rfl⟩
  cases o with
  | zero=>exact noneb hF
  | succ o=>
   rw [Zdg] at hF
   refine AWP.seq (AWP.rg0 [] [(0,(i64 c)),(5,(.own 0 (List.length g))),(11,(i64 (List.length b:Int))),(12,(i64 a)),(13,(vb (decide (a<(List.length b:Int)))))] (AWP.seq ?_))
   refine AWP.cif hF (fun x hF=>?_) (fun x hF=>?_)
   ·refine AWP.skip (AWP.seq (AWP.block (AWP.seq (AWP.rg0 [] [(0,(i64 c)),(5,(.own 0 (List.length g))),(6,(i64 a)),(11,(i64 (List.length b:Int))),(12,(i64 a))] (AWP.seq (AWP.rg0 [] [(0,(i64 c)),(5,(.own 0 (List.length g))),(6,(i64 a)),(7,(i64 (0:Int))),(11,(i64 (List.length b:Int))),(12,(i64 a))] ?_))))))
    obtain⟨k,y,hF⟩:=bindb hF
    refine AWP.mid (fun e st H=>e=.normal∧st=[(0,(i64 c)),(5,(.own 0 (List.length k))),(11,(i64 (List.length b:Int))),(12,(i64 a))]∧H=[bf 10 57 Za k false]) ?_ ?_
    ·clear hF
     refine AWP.kp [0,5,6,7,11,12] 1 ?_
     refine AWP.bround (fun n st H=>∃ f,∃ d,Zbr c a n f d=some k∧st=[(0,(i64 c)),(5,(.own 0 (List.length f))),(6,(i64 a)),(7,(i64 d)),(11,(i64 (List.length b:Int))),(12,(i64 a))]∧H=[bf 10 57 Za f false]) fuel ⟨g,(0:Int),y,by kernel_rfl,by kernel_rfl⟩ ?_
     rintro p st H ⟨f,d,hF,rfl,rfl⟩
     cases p with
     | zero=>exact noneb hF
     | succ p=>
      rw [Zbr] at hF
      refine AWP.seq (AWP.seq (AWP.rg0 [] [(0,(i64 c)),(5,(.own 0 (List.length f))),(6,(i64 a)),(7,(i64 d)),(11,(i64 (List.length b:Int))),(12,(i64 a)),(17,(vb (decide (d≤c))))] ?_))
      refine AWP.cif hF (fun z hF=>?_) (fun z hF=>?_)
      ·refine AWP.skip (AWP.seq (AWP.block ?_))
       obtain⟨m,q,hF⟩:=bindb hF
       obtain⟨u,hF⟩:=chkb hF
       refine AWP.rg [(4,.idx Za q),(5,.ixE Za f a u),(6,.stEd Za q (fun a0=>(Arr5.set m a0 (Zb.mk (0:Int) (0:Int)))) 0 2 0 u)] [(0,(i64 c)),(5,(.own 0 (List.length f))),(6,(i64 a)),(7,(i64 d)),(11,(i64 (List.length b:Int))),(12,(i64 a))] [bf 10 57 Za (List.set f (Int.toNat a) (Arr5.set m d (Zb.mk (0:Int) (0:Int)))) false] ?_
       rw [show ([(0,(i64 c)),(5,(.own 0 (List.length f))),(6,(i64 a)),(7,(i64 d)),(11,(i64 (List.length b:Int))),(12,(i64 a))]:St)=[(0,(i64 c)),(5,(.own 0 (List.length (List.set f (Int.toNat a) (Arr5.set m d (Zb.mk (0:Int) (0:Int))))))),(6,(i64 a)),(7,(i64 d)),(11,(i64 (List.length b:Int))),(12,(i64 a))] by simp only [List.length_set]]
       refine AWP.rg0 [] [(0,(i64 c)),(5,(.own 0 (List.length (List.set f (Int.toNat a) (Arr5.set m d (Zb.mk (0:Int) (0:Int))))))),(6,(i64 a)),(7,(i64 (ZI (d + (1:Int))))),(11,(i64 (List.length b:Int))),(12,(i64 a))] (LeQ.start (LeQ.pk [0,5,6,7,11,12] 1 ?_))
       exact⟨p,Nat.lt_succ_self _,(List.set f (Int.toNat a) (Arr5.set m d (Zb.mk (0:Int) (0:Int)))),(ZI (d + (1:Int))),hF,by kernel_rfl,by kernel_rfl⟩
      ·refine AWP.exit (LeQ.start (LeQ.pk [0,5,11,12] 1 ?_))
       have hr:=someb hF
       subst hr
       exact⟨rfl,by kernel_rfl,by kernel_rfl⟩
    ·rintro _ _ _ ⟨rfl,rfl,rfl⟩
     refine AWP.rg0 [] [(0,(i64 c)),(5,(.own 0 (List.length k))),(11,(i64 (List.length b:Int))),(12,(i64 (ZI (a + (1:Int)))))] (LeQ.start (LeQ.pk [0,5,11,12] 1 ?_))
     exact⟨o,Nat.lt_succ_self _,k,(ZI (a + (1:Int))),hF,by kernel_rfl,by kernel_rfl⟩
   ·refine AWP.exit (LeQ.start (LeQ.pk [5] 1 ?_))
    have hr:=someb hF
    subst hr
    exact⟨rfl,by kernel_rfl,by kernel_rfl⟩
 ·rintro _ _ _ ⟨rfl,rfl,rfl⟩
  refine AWP.seq (AWP.rg0 [] [(4,(.own 0 (List.length j)))] (AWP.ret ?_))
  have hr:=someb hF
  subst hr
  exact(FnQ.f1 0 (.inr rfl) (.inl (Wk.ownT (i:=0) (s:=10) (t:=57) (l:=j) (sh:=false) (row:=Za) (by kernel_rfl) (.inl rfl))))
def Zhb (r:Bool):PV→List Blk→Prop:=fun p K=>p=(vb r)∧K=[]
abbrev Zjx (r:Bool):Exit→St→List Blk→Prop:=FnQ Tryz.prog Tryz.f146.results 0 (Zhb r)
theorem Zdv (a:ZL) (b:ZL) (r:Bool) (hF:Zan a b=some r):ACall Tryz.prog glob 146 [(slc 10 Za a),(slc 10 Za b)] [] (Zhb r):=by
 refine ACall.body Tryz.func146 rfl (by kernel_rfl) ?_
 unfold Zan at hF
 refine AWP.seq (AWP.rg0 [] [(0,(slc 10 Za a)),(1,(slc 10 Za b))] (AWP.seq (AWP.seq (AWP.rg0 [(1,.len Za a),(3,.len Za b)] [(0,(slc 10 Za a)),(1,(slc 10 Za b)),(10,(vb ((List.length a:Int) != (List.length b:Int))))] ?_))))
 refine AWP.cif hF (fun g hF=>?_) (fun g hF=>?_)
 ·refine AWP.seq (AWP.rg0 [] [(4,(vb false))] (AWP.ret ?_))
  have hr:=someb hF
  subst hr
  exact(FnQ.f0 0 (.inr rfl))
 ·refine AWP.skip (AWP.seq (AWP.seq (AWP.rg0 [(1,.len Za a)] [(0,(slc 10 Za a)),(1,(slc 10 Za b)),(12,(i64 (List.length a:Int))),(13,(i64 (0:Int)))] ?_)))
  obtain⟨d,i,hF⟩:=bindb hF
  refine AWP.mid (fun e st H=>(e=.normal∧d=(.inl ())∧st=[]∧H=[])∨(e=.ret∧∃ r,d=(.inr r)∧Zjx r e st H)) ?_ ?_
  ·clear hF
   refine AWP.kp [0,1,12,13] 0 ?_
   refine AWP.bround (fun n st H=>∃ c,Zaz a b n c=some d∧st=[(0,(slc 10 Za a)),(1,(slc 10 Za b)),(12,(i64 (List.length a:Int))),(13,(i64 c))]∧H=[]) fuel ⟨(0:Int),i,by kernel_rfl,by kernel_rfl⟩ ?_
   rintro f st H ⟨c,hF,rfl,rfl⟩
   cases f with
   | zero=>exact noneb hF
   | succ f=>
    rw [Zaz] at hF
    refine AWP.seq (AWP.rg0 [] [(0,(slc 10 Za a)),(1,(slc 10 Za b)),(12,(i64 (List.length a:Int))),(13,(i64 c)),(14,(vb (decide (c<(List.length a:Int)))))] (AWP.seq ?_))
    refine AWP.cif hF (fun j hF=>?_) (fun j hF=>?_)
    ·refine AWP.skip (AWP.seq (AWP.block (AWP.seq (AWP.rg0 [] [(0,(slc 10 Za a)),(1,(slc 10 Za b)),(5,(i64 c)),(12,(i64 (List.length a:Int))),(13,(i64 c))] (AWP.seq ?_)))))
     obtain⟨k,l,hF⟩:=bindb hF
     obtain⟨m,o,hF⟩:=bindb hF
     refine AWP.dr [(2,.idx Za l),(6,.idx Za o)] 9 [] [] [] [(0,(slc 10 Za a)),(1,(slc 10 Za b)),(12,(i64 (List.length a:Int))),(13,(i64 c)),(24,(vb (!(Zfy k m))))] [] ?_
     refine AWP.cif hF (fun p hF=>?_) (fun p hF=>?_)
     ·refine AWP.seq (AWP.rg0 [] [(4,(vb false))] (AWP.ret ?_))
      exact LeQ.of (.inr ⟨rfl,false,(someb hF).symm,(FnQ.f0 0 (.inr rfl))⟩)
     ·refine AWP.skip (AWP.rg0 [] [(0,(slc 10 Za a)),(1,(slc 10 Za b)),(12,(i64 (List.length a:Int))),(13,(i64 (ZI (c + (1:Int)))))] (LeQ.start (LeQ.pk [0,1,12,13] 0 ?_)))
      exact⟨f,Nat.lt_succ_self _,(ZI (c + (1:Int))),hF,by kernel_rfl,by kernel_rfl⟩
    ·refine AWP.exit (LeQ.start (LeQ.pk [] 0 ?_))
     exact(.inl ⟨rfl,(someb hF).symm,by kernel_rfl,by kernel_rfl⟩)
  ·rintro _ _ _ (⟨rfl,rfl,rfl,rfl⟩ | ⟨rfl,q,rfl,hq⟩)
   ·refine AWP.seq (AWP.rg0 [] [(4,(vb true))] (AWP.ret ?_))
    have hr:=someb hF
    subst hr
    exact(FnQ.f0 0 (.inr rfl))
   ·have hr:=someb hF
    subst hr
    exact hq
def Zh0 (r:Bool):PV→List Blk→Prop:=fun p K=>p=(vb r)∧K=[]
abbrev Zke (r:Bool):Exit→St→List Blk→Prop:=FnQ Tryz.prog Tryz.f130.results 0 (Zh0 r)
theorem Znj:∀(nr:Nat) (a:Int) (g:ZL) (r:Bool) (hF:Zbk nr a g=some r),ACall Tryz.prog glob 130 [(i64 a),(slc 10 Za g)] [] (Zh0 r):=by
 intro nr
 induction nr with
 | zero=>intro a g r hF; exact noneb (by rw [Zbk] at hF; exact hF)
 | succ nr ih=>
  intro a g r hF
  refine ACall.body Tryz.func130 rfl (by kernel_rfl) ?_
  rw [Zbk] at hF
  refine AWP.seq (AWP.rg0 [] [(0,(i64 a)),(1,(slc 10 Za g))] (AWP.seq (AWP.seq (AWP.rg0 [] [(0,(i64 a)),(1,(slc 10 Za g)),(9,(vb (a == (5:Int))))] ?_))))
  refine AWP.cif hF (fun a4 hF=>?_) (fun a4 hF=>?_)
  ·refine AWP.seq (AWP.rg0 [(1,.len Za g)] [(4,(vb (decide ((List.length g:Int)≤(1:Int)))))] (AWP.ret ?_))
   have hr:=someb hF
   subst hr
   exact(FnQ.f0 0 (.inr rfl))
  ·refine AWP.skip (AWP.seq (AWP.rg [] [(0,(i64 a)),(1,(slc 10 Za g)),(5,(.ptr 0 0))] [.cells (Ze Zge)] (AWP.seq ?_)))
   obtain⟨s,a5,hF⟩:=bindb hF
   refine AWP.mid (fun e st H=>(e=.normal∧∃ t,s=(.inl t)∧st=[]∧H=[.cells (Ze t)])∨(e=.ret∧∃ r,s=(.inr r)∧Zke r e st H)) ?_ ?_
   ·clear hF
    refine AWP.kp [0,1,5] 1 ?_
    refine AWP.bround (fun n st H=>∃ c,∃ b,Zb5 a (Zbk nr) n c b=some s∧st=[(0,(i64 a)),(1,(slc 10 Za b)),(5,(.ptr 0 0))]∧H=[.cells (Ze c)]) fuel ⟨Zge,g,a5,by kernel_rfl,by kernel_rfl⟩ ?_
    rintro u st H ⟨c,b,hF,rfl,rfl⟩
    cases u with
    | zero=>exact noneb hF
    | succ u=>
     rw [Zb5] at hF
     refine AWP.seq (AWP.seq (AWP.rg0 [(1,.len Za b)] [(0,(i64 a)),(1,(slc 10 Za b)),(5,(.ptr 0 0)),(15,(vb (decide ((List.length b:Int) > (0:Int)))))] ?_))
     refine AWP.cif hF (fun a6 hF=>?_) (fun a6 hF=>?_)
     ·refine AWP.skip (AWP.block (AWP.seq (AWP.rg0 [] [(0,(i64 a)),(1,(slc 10 Za b)),(5,(.ptr 0 0)),(6,(i64 (1:Int)))] (AWP.seq ?_))))
      obtain⟨d,a7,hF⟩:=bindb hF
      refine AWP.mid (fun e st H=>e=.normal∧st=[(0,(i64 a)),(1,(slc 10 Za b)),(5,(.ptr 0 0)),(6,(i64 d))]∧H=[.cells (Ze c)]) ?_ ?_
      ·clear hF
       refine AWP.kp [0,1,5,6] 1 ?_
       refine AWP.bround (fun n st H=>∃ l,Zcy a b n l=some d∧st=[(0,(i64 a)),(1,(slc 10 Za b)),(5,(.ptr 0 0)),(6,(i64 l))]∧H=[.cells (Ze c)]) fuel ⟨(1:Int),a7,by kernel_rfl,by kernel_rfl⟩ ?_
       rintro v st H ⟨l,hF,rfl,rfl⟩
       cases v with
       | zero=>exact noneb hF
       | succ v=>
        rw [Zcy] at hF
        refine AWP.seq (AWP.seq ?_)
        obtain⟨a8,p,hF⟩:=bindb hF
        replace p:=someb p
        obtain⟨a9,w,hF⟩:=bindb hF
        refine AWP.to [(0,(i64 a)),(1,(slc 10 Za b)),(5,(.ptr 0 0)),(6,(i64 l)),(33,(vb a9))] [.cells (Ze c)] ?_ ?_
        ·cases a8 with
         | false=>
          have b0:=someb (ifF w rfl)
          subst b0
          exact AWP.drT [(2,.len Za b),(4,.bool p)] 18 [] [] []
         | true=>
          have f:=ifT w rfl
          obtain⟨b1,b2,f⟩:=bindb f
          obtain⟨x,f⟩:=chkb f
          obtain⟨b3,b4,f⟩:=bindb f
          obtain⟨y,f⟩:=chkb f
          replace f:=someb f
          subst f
          exact AWP.drT [(2,.len Za b),(4,.bool p),(8,.idx Za b2),(9,.ixd x),(10,.ldA Zi (Arr5.get b1) 0 2 0 x),(13,.idx Za b4),(14,.ixd y),(15,.ldA Zi (Arr5.get b3) 0 2 0 y)] 18 [] [] []
        refine AWP.cif hF (fun b5 hF=>?_) (fun b5 hF=>?_)
        ·refine AWP.skip (AWP.block (AWP.rg0 [] [(0,(i64 a)),(1,(slc 10 Za b)),(5,(.ptr 0 0)),(6,(i64 (ZI (l + (1:Int)))))] (LeQ.start (LeQ.pk [0,1,5,6] 1 ?_))))
         exact⟨v,Nat.lt_succ_self _,(ZI (l + (1:Int))),hF,by kernel_rfl,by kernel_rfl⟩
        ·refine AWP.exit (LeQ.start (LeQ.pk [0,1,5,6] 1 ?_))
         have hr:=someb hF
         subst hr
         exact⟨rfl,by kernel_rfl,by kernel_rfl⟩
      ·rintro _ _ _ ⟨rfl,rfl,rfl⟩
       refine AWP.seq ?_
       obtain⟨j,b6,hF⟩:=bindb hF
       obtain⟨z,hF⟩:=chkb hF
       obtain⟨b7,hF⟩:=chkb hF
       obtain⟨i,b8,hF⟩:=bindb hF
       refine AWP.dr [(2,.idx Za b6),(3,.ixd z),(4,.ldA Zi (Arr5.get j) 0 2 0 z),(8,.slice Za b b7),(9,.call Tryz.func145 [] (Zqj a (List.drop (Int.toNat (0:Int)) (List.take (Int.toNat d) b)) i b8))] 12 [] [11] [] [(0,(i64 a)),(1,(slc 10 Za b)),(5,(.ptr 0 0)),(6,(i64 d)),(7,(.ptr 1 0))] [.cells (Ze c),.cells (Ze (Zg.mk (Arr5.get j a) i))] (AWP.seq (AWP.seq ?_))
       obtain⟨b9,hF⟩:=chkb hF
       obtain⟨a0,c0,hF⟩:=bindb hF
       refine AWP.rg0 [(4,.slice Za b b9),(5,.call Tryz.func130 [] (ih (ZI (a + (1:Int))) (List.drop (Int.toNat (0:Int)) (List.take (Int.toNat d) b)) a0 c0))] [(0,(i64 a)),(1,(slc 10 Za b)),(5,(.ptr 0 0)),(6,(i64 d)),(7,(.ptr 1 0)),(53,(vb (!a0)))] ?_
       refine AWP.cif hF (fun c1 hF=>?_) (fun c1 hF=>?_)
       ·refine AWP.seq (AWP.rg0 [] [(4,(vb false))] (AWP.ret ?_))
        exact LeQ.of (.inr ⟨rfl,false,(someb hF).symm,(FnQ.f0 0 (.inr rfl))⟩)
       ·refine AWP.skip ?_
        obtain⟨a1,c2,hF⟩:=bindb hF
        refine AWP.seq ?_
        refine AWP.mid (fun e st H=>(e=.normal∧a1=(.inl ())∧st=[(0,(i64 a)),(1,(slc 10 Za b)),(5,(.ptr 0 0)),(6,(i64 d)),(7,(.ptr 1 0))]∧H=[.cells (Ze c),.cells (Ze (Zg.mk (Arr5.get j a) i))])∨(e=.ret∧∃ r,a1=(.inr r)∧Zke r e st H)) ?_ ?_
        ·clear hF
         have hF:=c2
         refine AWP.seq (AWP.rg0 [(2,.len Za c.f_rest)] [(0,(i64 a)),(1,(slc 10 Za b)),(5,(.ptr 0 0)),(6,(i64 d)),(7,(.ptr 1 0)),(57,(vb (decide ((List.length c.f_rest:Int) > (0:Int)))))] ?_)
         refine AWP.cif hF (fun c3 hF=>?_) (fun c3 hF=>?_)
         ·refine AWP.seq ?_
          obtain⟨c4,m,hF⟩:=bindb hF
          replace m:=someb m
          obtain⟨c5,a2,hF⟩:=bindb hF
          refine AWP.to [(0,(i64 a)),(1,(slc 10 Za b)),(5,(.ptr 0 0)),(6,(i64 d)),(7,(.ptr 1 0)),(81,(vb c5))] [.cells (Ze c),.cells (Ze (Zg.mk (Arr5.get j a) i))] ?_ ?_
          ·cases c4 with
           | false=>
            have k:=ifF a2 rfl
            obtain⟨c6,q,k⟩:=bindb k
            replace q:=someb q
            obtain⟨d4,a3,k⟩:=bindb k
            replace k:=someb k
            subst k
            cases c6 with
            | false=>
             have c7:=someb (ifF a3 rfl)
             subst c7
             exact AWP.rgT [(7,.bool m),(16,.bool q)]
            | true=>
             have o:=ifT a3 rfl
             obtain⟨c8,c9,o⟩:=bindb o
             replace o:=someb o
             subst o
             exact AWP.rgT [(7,.bool m),(16,.bool q),(21,.call Tryz.func146 [] (Zdv i c.f_rest c8 c9))]
           | true=>
            have d0:=someb (ifT a2 rfl)
            subst d0
            exact AWP.rgT [(7,.bool m)]
          refine AWP.cif hF (fun d1 hF=>?_) (fun d1 hF=>?_)
          ·refine AWP.seq (AWP.rg0 [] [(4,(vb false))] (AWP.ret ?_))
           exact LeQ.of (.inr ⟨rfl,false,(someb hF).symm,(FnQ.f0 0 (.inr rfl))⟩)
          ·refine AWP.skip (LeQ.start (LeQ.pk [0,1,5,6,7] 2 ?_))
           exact(.inl ⟨rfl,(someb hF).symm,by kernel_rfl,by kernel_rfl⟩)
         ·refine AWP.skip (LeQ.start (LeQ.pk [0,1,5,6,7] 2 ?_))
          exact(.inl ⟨rfl,(someb hF).symm,by kernel_rfl,by kernel_rfl⟩)
        ·rintro _ _ _ (⟨rfl,rfl,rfl,rfl⟩ | ⟨rfl,d2,rfl,hq⟩)
         ·obtain⟨d3,hF⟩:=chkb hF
          refine AWP.dr [(3,.slice Za b d3)] 5 [] [4] [] [(0,(i64 a)),(1,(slc 10 Za (List.drop (Int.toNat d) (List.take (Int.toNat (List.length b:Int)) b)))),(5,(.ptr 0 0))] [.cells (Ze (Zg.mk (Arr5.get j a) i)),.cells (Ze (Zg.mk (Arr5.get j a) i))] (LeQ.start (LeQ.pk [0,1,5] 1 ?_))
          exact⟨u,Nat.lt_succ_self _,(Zg.mk (Arr5.get j a) i),(List.drop (Int.toNat d) (List.take (Int.toNat (List.length b:Int)) b)),hF,by kernel_rfl,by kernel_rfl⟩
         ·exact LeQ.of (.inr ⟨rfl,d2,(someb hF).symm,hq⟩)
     ·refine AWP.exit (LeQ.start (LeQ.pk [] 1 ?_))
      exact(.inl ⟨rfl,c,(someb hF).symm,by kernel_rfl,by kernel_rfl⟩)
   ·rintro _ _ _ (⟨rfl,t,rfl,rfl,rfl⟩ | ⟨rfl,d5,rfl,hq⟩)
    ·refine AWP.seq (AWP.rg0 [] [(4,(vb true))] (AWP.ret ?_))
     have hr:=someb hF
     subst hr
     exact(FnQ.f0 0 (.inr rfl))
    ·have hr:=someb hF
     subst hr
     exact hq
theorem Zor (a:Int) (b:ZL) (r:Bool) (hF:Zbk fuel a b=some r):ACall Tryz.prog glob 130 [(i64 a),(slc 10 Za b)] [] (Zh0 r):=Znj fuel a b r hF
def Zqk (r:Bool):PV→List Blk→Prop:=fun p K=>p=(vb r)∧K=[]
theorem Zk8 (a:ZL) (r:Bool) (hF:Zee a=some r):ACall Tryz.prog glob 99 [(slc 10 Za a)] [] (Zqk r):=by
 refine ACall.body Tryz.func99 rfl (by kernel_rfl) ?_
 unfold Zee at hF
 refine AWP.seq (AWP.rg0 [] [(0,(slc 10 Za a))] (AWP.seq ?_))
 obtain⟨l,b,hF⟩:=bindb hF
 replace b:=someb b
 obtain⟨u,j,hF⟩:=bindb hF
 obtain⟨m,c,hF⟩:=bindb hF
 replace c:=someb c
 obtain⟨n,i,hF⟩:=bindb hF
 refine AWP.to [(2,(vb n))] [] ?_ ?_
 ·cases l with
  | false=>
   have o:=someb (ifF j rfl)
   subst o
   subst c
   have p:=someb (ifF i rfl)
   subst p
   exact AWP.rgT [(1,.len Za a),(3,.bool b)]
  | true=>
   have d:=ifT j rfl
   obtain⟨g,k,d⟩:=bindb d
   replace d:=someb d
   subst d
   cases m with
   | false=>
    have q:=someb (ifF i rfl)
    subst q
    exact AWP.rgT [(1,.len Za a),(3,.bool b),(5,.call Tryz.func129 [] (Ziv a g k)),(6,.len Za g),(8,.len Za a),(11,.bool c)]
   | true=>
    have f:=ifT i rfl
    obtain⟨s,t,f⟩:=bindb f
    replace f:=someb f
    subst f
    exact AWP.rgT [(1,.len Za a),(3,.bool b),(5,.call Tryz.func129 [] (Ziv a g k)),(6,.len Za g),(8,.len Za a),(11,.bool c),(13,.call Tryz.func130 [] (Zor (0:Int) a s t))]
 refine AWP.ret ?_
 have hr:=someb hF
 subst hr
 exact(FnQ.f0 0 (.inr rfl))
def Zph (r:Bool):PV→List Blk→Prop:=fun p K=>p=(vb r)∧K=[]
theorem Zkx (c:Bool) (a:Bool) (r:Bool) (hF:Zev c a=some r):ACall Tryz.prog glob 132 [(vb c),(vb a)] [] (Zph r):=by
 refine ACall.body Tryz.func132 rfl (by kernel_rfl) ?_
 unfold Zev at hF
 refine AWP.seq (AWP.rg0 [] [(0,(vb c)),(1,(vb a))] (AWP.seq ?_))
 obtain⟨d,b,hF⟩:=bindb hF
 replace b:=someb b
 refine AWP.to [(4,(vb (d || a)))] [] ?_ ?_
 ·cases d with
  | false=>
   exact AWP.rgT [(1,.bool b)]
  | true=>
   exact AWP.rgT [(1,.bool b)]
 refine AWP.ret ?_
 have hr:=someb hF
 subst hr
 exact(FnQ.f0 0 (.inr rfl))
def Zzd (r:Int):PV→List Blk→Prop:=fun p K=>p=(u32 r)∧K=[]
theorem Zze (a:Int) (r:Int) (hF:Zmb a=some r):ACall Tryz.prog glob 119 [(i64 a)] [] (Zzd r):=by
 refine ACall.body Tryz.func119 rfl (by kernel_rfl) ?_
 unfold Zmb at hF
 refine AWP.seq (AWP.rg0 [] [(0,(i64 a))] (AWP.seq (AWP.seq ?_)))
 obtain⟨c,b,hF⟩:=bindb hF
 replace b:=someb b
 refine AWP.to [(0,(i64 a)),(8,(vb (c || (decide (a ≥ (5:Int))))))] [] ?_ ?_
 ·cases c with
  | false=>
   exact AWP.rgT [(2,.bool b)]
  | true=>
   exact AWP.rgT [(2,.bool b)]
 refine AWP.cif hF (fun f hF=>?_) (fun f hF=>?_)
 ·refine AWP.seq (AWP.rg0 [] [(2,(u32 (0:Int)))] (AWP.ret ?_))
  have hr:=someb hF
  subst hr
  exact(FnQ.f0 0 (.inr rfl))
 ·refine AWP.skip (AWP.seq ?_)
  obtain⟨d,hF⟩:=chkb hF
  refine AWP.rg0 [(1,.ixd d),(2,.ldA Zhx (Arr5.get Za2) 0 1 0 d)] [(2,(u32 (Arr5.get Za2 a)))] (AWP.ret ?_)
  have hr:=someb hF
  subst hr
  exact(FnQ.f0 0 (.inr rfl))
def Zql (r:Int):PV→List Blk→Prop:=fun p K=>p=(i64 r)∧K=[]
theorem Zqm (a:Int) (r:Int) (hF:Zhj a=some r):ACall Tryz.prog glob 170 [(u64 a)] [] (Zql r):=by
 refine ACall.body Tryz.func170 rfl (by kernel_rfl) ?_
 unfold Zhj at hF
 refine AWP.seq (AWP.rg0 [] [(0,(u64 a)),(2,(i64 (0:Int)))] ?_)
 obtain⟨j,k,hF⟩:=bindb hF
 refine AWP.seq ?_
 refine AWP.mid (fun e st H=>(e=.normal∧∃ b,∃ d,j=(b,d)∧st=[(0,(u64 b)),(2,(i64 d))]∧H=[])) ?_ ?_
 ·clear hF
  have hF:=k
  refine AWP.seq (AWP.rg0 [] [(0,(u64 a)),(2,(i64 (0:Int))),(4,(vb (decide (a ≥ (4294967296:Int)))))] ?_)
  refine AWP.cif hF (fun l hF=>?_) (fun l hF=>?_)
  ·refine AWP.seq (AWP.rg0 [] [(0,(u64 (bShr .u64 a (32:Int))))] (AWP.rg0 [] [(0,(u64 (bShr .u64 a (32:Int)))),(2,(i64 (32:Int)))] (LeQ.start (LeQ.pk [0,2] 0 ?_))))
   exact⟨rfl,(bShr .u64 a (32:Int)),(32:Int),(someb hF).symm,by kernel_rfl,by kernel_rfl⟩
  ·refine AWP.skip (LeQ.start (LeQ.pk [0,2] 0 ?_))
   exact⟨rfl,a,(0:Int),(someb hF).symm,by kernel_rfl,by kernel_rfl⟩
 ·rintro _ _ _ ⟨rfl,b,d,rfl,rfl,rfl⟩
  obtain⟨m,n,hF⟩:=bindb hF
  refine AWP.seq ?_
  refine AWP.mid (fun e st H=>(e=.normal∧∃ c,∃ f,m=(c,f)∧st=[(0,(u64 c)),(2,(i64 f))]∧H=[])) ?_ ?_
  ·clear hF
   have hF:=n
   refine AWP.seq (AWP.rg0 [] [(0,(u64 b)),(2,(i64 d)),(8,(vb (decide (b ≥ (65536:Int)))))] ?_)
   refine AWP.cif hF (fun o hF=>?_) (fun o hF=>?_)
   ·refine AWP.seq (AWP.rg0 [] [(0,(u64 (bShr .u64 b (16:Int)))),(2,(i64 d))] (AWP.rg0 [] [(0,(u64 (bShr .u64 b (16:Int)))),(2,(i64 (ZI (d + (16:Int)))))] (LeQ.start (LeQ.pk [0,2] 0 ?_))))
    exact⟨rfl,(bShr .u64 b (16:Int)),(ZI (d + (16:Int))),(someb hF).symm,by kernel_rfl,by kernel_rfl⟩
   ·refine AWP.skip (LeQ.start (LeQ.pk [0,2] 0 ?_))
    exact⟨rfl,b,d,(someb hF).symm,by kernel_rfl,by kernel_rfl⟩
  ·rintro _ _ _ ⟨rfl,c,f,rfl,rfl,rfl⟩
   obtain⟨p,q,hF⟩:=bindb hF
   refine AWP.seq ?_
   refine AWP.mid (fun e st H=>(e=.normal∧∃ i,∃ g,p=(i,g)∧st=[(0,(u64 i)),(2,(i64 g))]∧H=[])) ?_ ?_
   ·clear hF
    have hF:=q
    refine AWP.seq (AWP.rg0 [] [(0,(u64 c)),(2,(i64 f)),(14,(vb (decide (c ≥ (256:Int)))))] ?_)
    refine AWP.cif hF (fun s hF=>?_) (fun s hF=>?_)
    ·refine AWP.seq (AWP.rg0 [] [(0,(u64 (bShr .u64 c (8:Int)))),(2,(i64 f))] (AWP.rg0 [] [(0,(u64 (bShr .u64 c (8:Int)))),(2,(i64 (ZI (f + (8:Int)))))] (LeQ.start (LeQ.pk [0,2] 0 ?_))))
     exact⟨rfl,(bShr .u64 c (8:Int)),(ZI (f + (8:Int))),(someb hF).symm,by kernel_rfl,by kernel_rfl⟩
    ·refine AWP.skip (LeQ.start (LeQ.pk [0,2] 0 ?_))
     exact⟨rfl,c,f,(someb hF).symm,by kernel_rfl,by kernel_rfl⟩
   ·rintro _ _ _ ⟨rfl,i,g,rfl,rfl,rfl⟩
    refine AWP.seq ?_
    obtain⟨t,u,hF⟩:=bindb hF
    refine AWP.rg0 [(3,.str u)] [(2,(i64 (ZI (g + (ZI t)))))] (AWP.ret ?_)
    have hr:=someb hF
    subst hr
    exact(FnQ.f0 0 (.inr rfl))
def Zsr (r:Int):PV→List Blk→Prop:=fun p K=>p=(i64 r)∧K=[]
theorem Zmf (a:Int) (r:Int) (hF:Zfz a=some r):ACall Tryz.prog glob 158 [(u64 a)] [] (Zsr r):=by
 refine ACall.body Tryz.func158 rfl (by kernel_rfl) ?_
 unfold Zfz at hF
 refine AWP.seq (AWP.rg0 [] [(0,(u64 a))] (AWP.seq ?_))
 refine AWP.cF ?_
 refine AWP.skip (AWP.seq ?_)
 obtain⟨b,c,hF⟩:=bindb hF
 refine AWP.rg0 [(1,.call Tryz.func170 [] (Zqm a b c))] [(2,(i64 b))] (AWP.ret ?_)
 have hr:=someb hF
 subst hr
 exact(FnQ.f0 0 (.inr rfl))
def Zpi (r:Bool):PV→List Blk→Prop:=fun p K=>p=(vb r)∧K=[]
theorem Zfw (a:Int) (r:Bool) (hF:Zft a=some r):ACall Tryz.prog glob 176 [(u64 a)] [] (Zpi r):=by
 refine ACall.body Tryz.func176 rfl (by kernel_rfl) ?_
 unfold Zft at hF
 refine AWP.seq (AWP.rg0 [] [(0,(u64 a))] (AWP.seq (AWP.rg0 [] [(2,(vb (a != a)))] (AWP.ret ?_))))
 have hr:=someb hF
 subst hr
 exact(FnQ.f0 0 (.inr rfl))
def Zqn (r:Bool):PV→List Blk→Prop:=fun p K=>p=(vb r)∧K=[]
theorem Za4 (a:Int) (b:Int) (r:Bool) (hF:Zac a b=some r):ACall Tryz.prog glob 166 [(u64 a),(u64 b)] [] (Zqn r):=by
 refine ACall.body Tryz.func166 rfl (by kernel_rfl) ?_
 unfold Zac at hF
 refine AWP.seq (AWP.rg0 [] [(0,(u64 a)),(1,(u64 b))] (AWP.seq ?_))
 obtain⟨g,i,hF⟩:=bindb hF
 obtain⟨n,c,hF⟩:=bindb hF
 replace c:=someb c
 obtain⟨p,j,hF⟩:=bindb hF
 obtain⟨k,d,hF⟩:=bindb hF
 replace d:=someb d
 refine AWP.to [(4,(vb (k || (decide (a<b)))))] [] ?_ ?_
 ·cases n with
  | false=>
   have o:=someb (ifF j rfl)
   subst o
   subst d
   exact AWP.rgT [(1,.call Tryz.func176 [] (Zfw a g i)),(2,.bool c)]
  | true=>
   have f:=ifT j rfl
   obtain⟨l,m,f⟩:=bindb f
   replace f:=someb f
   subst f
   cases k with
   | false=>
    exact AWP.rgT [(1,.call Tryz.func176 [] (Zfw a g i)),(2,.bool c),(4,.call Tryz.func176 [] (Zfw b l m)),(7,.bool d)]
   | true=>
    exact AWP.rgT [(1,.call Tryz.func176 [] (Zfw a g i)),(2,.bool c),(4,.call Tryz.func176 [] (Zfw b l m)),(7,.bool d)]
 refine AWP.ret ?_
 have hr:=someb hF
 subst hr
 exact(FnQ.f0 0 (.inr rfl))
def Zia (a:List Value) (r:(List Int)):PV→List Blk→Prop:=fun p K=>p=(.tup [])∧K=[.cells (cel Zc r a)]
theorem Zib (d:Nat) (m:(List Int)) (f:List Value) (b:Int) (g:Int) (r:(List Int)) (hF:Zbu d m b g=some r):ACall Tryz.prog glob 160 [(.vw 0 0 d),(i64 b),(i64 g)] [.cells (cel Zc m f)] (Zia f r):=by
 refine ACall.body Tryz.func160 rfl (by kernel_rfl) ?_
 unfold Zbu at hF
 refine AWP.seq (AWP.rg0 [] [(0,(.vw 0 0 d)),(1,(i64 b)),(2,(i64 g)),(6,(i64 (ZI (b + (1:Int)))))] ?_)
 obtain⟨v,a3,hF⟩:=bindb hF
 refine AWP.mid (fun e st H=>e=.normal∧st=[]∧H=[.cells (cel Zc v f)]) ?_ ?_
 ·clear hF
  refine AWP.kp [0,1,2,6] 1 ?_
  refine AWP.bround (fun n st H=>∃ k,∃ c,Zak d b g n k c=some v∧st=[(0,(.vw 0 0 d)),(1,(i64 b)),(2,(i64 g)),(6,(i64 c))]∧H=[.cells (cel Zc k f)]) fuel ⟨m,(ZI (b + (1:Int))),a3,by kernel_rfl,by kernel_rfl⟩ ?_
  rintro o st H ⟨k,c,hF,rfl,rfl⟩
  cases o with
  | zero=>exact noneb hF
  | succ o=>
   rw [Zak] at hF
   refine AWP.seq (AWP.seq (AWP.rg0 [] [(0,(.vw 0 0 d)),(1,(i64 b)),(2,(i64 g)),(6,(i64 c)),(12,(vb (decide (c<g))))] ?_))
   refine AWP.cif hF (fun a4 hF=>?_) (fun a4 hF=>?_)
   ·refine AWP.skip (AWP.seq (AWP.block (AWP.seq (AWP.rg0 [] [(0,(.vw 0 0 d)),(1,(i64 b)),(2,(i64 g)),(6,(i64 c)),(7,(i64 c))] ?_))))
    obtain⟨p,a5,hF⟩:=bindb hF
    refine AWP.mid (fun e st H=>e=.normal∧st=[(0,(.vw 0 0 d)),(1,(i64 b)),(2,(i64 g)),(6,(i64 c))]∧H=[.cells (cel Zc p f)]) ?_ ?_
    ·clear hF
     refine AWP.kp [0,1,2,6,7] 1 ?_
     refine AWP.bround (fun n st H=>∃ j,∃ a,Zaj d b n j a=some p∧st=[(0,(.vw 0 0 d)),(1,(i64 b)),(2,(i64 g)),(6,(i64 c)),(7,(i64 a))]∧H=[.cells (cel Zc j f)]) fuel ⟨k,c,a5,by kernel_rfl,by kernel_rfl⟩ ?_
     rintro q st H ⟨j,a,hF,rfl,rfl⟩
     cases q with
     | zero=>exact noneb hF
     | succ q=>
      rw [Zaj] at hF
      refine AWP.seq (AWP.seq ?_)
      obtain⟨a6,l,hF⟩:=bindb hF
      replace l:=someb l
      obtain⟨a7,w,hF⟩:=bindb hF
      refine AWP.to [(0,(.vw 0 0 d)),(1,(i64 b)),(2,(i64 g)),(6,(i64 c)),(7,(i64 a)),(30,(vb a7))] [.cells (cel Zc j f)] ?_ ?_
      ·cases a6 with
       | false=>
        have a8:=someb (ifF w rfl)
        subst a8
        exact AWP.drT [(3,.bool l)] 15 [] [] []
       | true=>
        have i:=ifT w rfl
        obtain⟨a9,x,i⟩:=bindb i
        obtain⟨b0,y,i⟩:=bindb i
        obtain⟨b1,b2,i⟩:=bindb i
        replace i:=someb i
        subst i
        exact AWP.drT [(3,.bool l),(6,.idxV (Zs x)),(7,.ldV Zc (s:=1) (fun _=>rfl) f (Zq x) (0 + Int.toNat a * 1) (Nat.zero_add _) []),(11,.idxV (Zs y)),(12,.ldV Zc (s:=1) (fun _=>rfl) f (Zq y) (0 + Int.toNat (ZI (a - (1:Int))) * 1) (Nat.zero_add _) []),(13,.call Tryz.func166 [] (Za4 a9 b0 b1 b2))] 15 [] [] []
      refine AWP.cif hF (fun b3 hF=>?_) (fun b3 hF=>?_)
      ·refine AWP.skip (AWP.seq (AWP.block ?_))
       obtain⟨t,z,hF⟩:=bindb hF
       obtain⟨u,a0,hF⟩:=bindb hF
       obtain⟨b4,a1,hF⟩:=bindb hF
       obtain⟨b5,a2,hF⟩:=bindb hF
       refine AWP.dr [(8,.idxV (Zs z)),(9,.ldV Zc (s:=1) (fun _=>rfl) f (Zq z) (0 + Int.toNat (ZI (a - (1:Int))) * 1) (Nat.zero_add _) []),(12,.idxV (Zs a0)),(13,.ldV Zc (s:=1) (fun _=>rfl) f (Zq a0) (0 + Int.toNat a * 1) (Nat.zero_add _) []),(14,.idxV (Zs a1)),(15,.stV Zc (s:=1) (fun _=>rfl) f (Zq a1) t (0 + Int.toNat a * 1) (Nat.zero_add _) []),(16,.idxV (Zs a2)),(17,.stV Zc (s:=1) (fun _=>rfl) f (Zq a2) u (0 + Int.toNat (ZI (a - (1:Int))) * 1) (Nat.zero_add _) [])] 16 [] [15] [] [(0,(.vw 0 0 d)),(1,(i64 b)),(2,(i64 g)),(6,(i64 c)),(7,(i64 a))] [.cells (cel Zc (List.set (List.set j (Int.toNat a) t) (Int.toNat (ZI (a - (1:Int)))) u) f)] (AWP.rg0 [] [(0,(.vw 0 0 d)),(1,(i64 b)),(2,(i64 g)),(6,(i64 c)),(7,(i64 (ZI (a - (1:Int)))))] (LeQ.start (LeQ.pk [0,1,2,6,7] 1 ?_)))
       exact⟨q,Nat.lt_succ_self _,(List.set (List.set j (Int.toNat a) t) (Int.toNat (ZI (a - (1:Int)))) u),(ZI (a - (1:Int))),hF,by kernel_rfl,by kernel_rfl⟩
      ·refine AWP.exit (LeQ.start (LeQ.pk [0,1,2,6] 1 ?_))
       have hr:=someb hF
       subst hr
       exact⟨rfl,by kernel_rfl,by kernel_rfl⟩
    ·rintro _ _ _ ⟨rfl,rfl,rfl⟩
     refine AWP.rg0 [] [(0,(.vw 0 0 d)),(1,(i64 b)),(2,(i64 g)),(6,(i64 (ZI (c + (1:Int)))))] (LeQ.start (LeQ.pk [0,1,2,6] 1 ?_))
     exact⟨o,Nat.lt_succ_self _,p,(ZI (c + (1:Int))),hF,by kernel_rfl,by kernel_rfl⟩
   ·refine AWP.exit (LeQ.start (LeQ.pk [] 1 ?_))
    have hr:=someb hF
    subst hr
    exact⟨rfl,by kernel_rfl,by kernel_rfl⟩
 ·rintro _ _ _ ⟨rfl,rfl,rfl⟩
  have hr:=someb hF
  subst hr
  exact(FnQ.f0 1 (.inl rfl))
def Zgy (a:List Value) (r:(List Int)):PV→List Blk→Prop:=fun p K=>p=(.tup [])∧K=[.cells (cel Zc r a)]
abbrev Zjl (a:List Value) (r:(List Int)):Exit→St→List Blk→Prop:=FnQ Tryz.prog Tryz.f171.results 1 (Zgy a r)
theorem Zgz (f:Nat) (m:(List Int)) (c:List Value) (k:Int) (d:Int) (a:Int) (r:(List Int)) (hF:Zbt f m k d a=some r):ACall Tryz.prog glob 171 [(.vw 0 0 f),(i64 k),(i64 d),(i64 a)] [.cells (cel Zc m c)] (Zgy c r):=by
 refine ACall.body Tryz.func171 rfl (by kernel_rfl) ?_
 unfold Zbt at hF
 refine AWP.seq (AWP.rg0 [] [(0,(.vw 0 0 f)),(2,(i64 d)),(3,(i64 a)),(8,(i64 k))] ?_)
 obtain⟨o,a5,hF⟩:=bindb hF
 refine AWP.mid (fun e st H=>(e=.normal∧∃ p,o=(.inl p)∧st=[]∧H=[.cells (cel Zc p c)])∨(e=.ret∧∃ r,o=(.inr r)∧Zjl c r e st H)) ?_ ?_
 ·clear hF
  refine AWP.kp [0,2,3,8] 1 ?_
  refine AWP.bround (fun n st H=>∃ g,∃ b,Zaf f d a n g b=some o∧st=[(0,(.vw 0 0 f)),(2,(i64 d)),(3,(i64 a)),(8,(i64 b))]∧H=[.cells (cel Zc g c)]) fuel ⟨m,k,a5,by kernel_rfl,by kernel_rfl⟩ ?_
  rintro q st H ⟨g,b,hF,rfl,rfl⟩
  cases q with
  | zero=>exact noneb hF
  | succ q=>
   rw [Zaf] at hF
   refine AWP.block (AWP.seq (AWP.rg0 [] [(0,(.vw 0 0 f)),(2,(i64 d)),(3,(i64 a)),(8,(i64 b)),(9,(i64 (ZI ((ZI ((2:Int) * b)) + (1:Int)))))] (AWP.seq (AWP.seq (AWP.rg0 [] [(0,(.vw 0 0 f)),(2,(i64 d)),(3,(i64 a)),(8,(i64 b)),(9,(i64 (ZI ((ZI ((2:Int) * b)) + (1:Int))))),(16,(vb (decide ((ZI ((ZI ((2:Int) * b)) + (1:Int))) ≥ d))))] ?_)))))
   refine AWP.cif hF (fun a6 hF=>?_) (fun a6 hF=>?_)
   ·refine AWP.exit (LeQ.start (LeQ.pk [] 1 ?_))
    exact(.inl ⟨rfl,g,(someb hF).symm,by kernel_rfl,by kernel_rfl⟩)
   ·refine AWP.skip ?_
    obtain⟨i,a7,hF⟩:=bindb hF
    refine AWP.seq ?_
    refine AWP.mid (fun e st H=>e=.normal∧st=[(0,(.vw 0 0 f)),(2,(i64 d)),(3,(i64 a)),(8,(i64 b)),(9,(i64 i))]∧H=[.cells (cel Zc g c)]) ?_ ?_
    ·clear hF
     have hF:=a7
     refine AWP.seq ?_
     obtain⟨a8,l,hF⟩:=bindb hF
     replace l:=someb l
     obtain⟨a9,v,hF⟩:=bindb hF
     refine AWP.to [(0,(.vw 0 0 f)),(2,(i64 d)),(3,(i64 a)),(8,(i64 b)),(9,(i64 (ZI ((ZI ((2:Int) * b)) + (1:Int))))),(36,(vb a9))] [.cells (cel Zc g c)] ?_ ?_
     ·cases a8 with
      | false=>
       have b0:=someb (ifF v rfl)
       subst b0
       exact AWP.drT [(4,.bool l)] 20 [] [] []
      | true=>
       have j:=ifT v rfl
       obtain⟨b1,w,j⟩:=bindb j
       obtain⟨b2,x,j⟩:=bindb j
       obtain⟨b3,b4,j⟩:=bindb j
       replace j:=someb j
       subst j
       exact AWP.drT [(4,.bool l),(9,.idxV (Zs w)),(10,.ldV Zc (s:=1) (fun _=>rfl) c (Zq w) (0 + Int.toNat (ZI (a + (ZI ((ZI ((2:Int) * b)) + (1:Int))))) * 1) (Nat.zero_add _) []),(16,.idxV (Zs x)),(17,.ldV Zc (s:=1) (fun _=>rfl) c (Zq x) (0 + Int.toNat (ZI ((ZI (a + (ZI ((ZI ((2:Int) * b)) + (1:Int))))) + (1:Int))) * 1) (Nat.zero_add _) []),(18,.call Tryz.func166 [] (Za4 b1 b2 b3 b4))] 20 [] [] []
     refine AWP.cif hF (fun b5 hF=>?_) (fun b5 hF=>?_)
     ·refine AWP.rg0 [] [(0,(.vw 0 0 f)),(2,(i64 d)),(3,(i64 a)),(8,(i64 b)),(9,(i64 (ZI ((ZI ((ZI ((2:Int) * b)) + (1:Int))) + (1:Int)))))] (LeQ.start (LeQ.pk [0,2,3,8,9] 1 ?_))
      have hr:=someb hF
      subst hr
      exact⟨rfl,by kernel_rfl,by kernel_rfl⟩
     ·refine AWP.skip (LeQ.start (LeQ.pk [0,2,3,8,9] 1 ?_))
      have hr:=someb hF
      subst hr
      exact⟨rfl,by kernel_rfl,by kernel_rfl⟩
    ·rintro _ _ _ ⟨rfl,rfl,rfl⟩
     refine AWP.seq (AWP.seq ?_)
     obtain⟨b6,y,hF⟩:=bindb hF
     obtain⟨b7,z,hF⟩:=bindb hF
     obtain⟨a0,b8,hF⟩:=bindb hF
     refine AWP.dr [(4,.idxV (Zs y)),(5,.ldV Zc (s:=1) (fun _=>rfl) c (Zq y) (0 + Int.toNat (ZI (a + b)) * 1) (Nat.zero_add _) []),(10,.idxV (Zs z)),(11,.ldV Zc (s:=1) (fun _=>rfl) c (Zq z) (0 + Int.toNat (ZI (a + i)) * 1) (Nat.zero_add _) []),(12,.call Tryz.func166 [] (Za4 b6 b7 a0 b8))] 14 [] [] [] [(0,(.vw 0 0 f)),(2,(i64 d)),(3,(i64 a)),(8,(i64 b)),(9,(i64 i)),(52,(vb (!a0)))] [.cells (cel Zc g c)] ?_
     refine AWP.cif hF (fun b9 hF=>?_) (fun b9 hF=>?_)
     ·refine AWP.ret ?_
      exact LeQ.of (.inr ⟨rfl,g,(someb hF).symm,(FnQ.f0 1 (.inr rfl))⟩)
     ·refine AWP.skip (AWP.seq ?_)
      obtain⟨t,a1,hF⟩:=bindb hF
      obtain⟨u,a2,hF⟩:=bindb hF
      obtain⟨c0,a3,hF⟩:=bindb hF
      obtain⟨c1,a4,hF⟩:=bindb hF
      refine AWP.dr [(12,.idxV (Zs a1)),(13,.ldV Zc (s:=1) (fun _=>rfl) c (Zq a1) (0 + Int.toNat (ZI (a + i)) * 1) (Nat.zero_add _) []),(18,.idxV (Zs a2)),(19,.ldV Zc (s:=1) (fun _=>rfl) c (Zq a2) (0 + Int.toNat (ZI (a + b)) * 1) (Nat.zero_add _) []),(20,.idxV (Zs a3)),(21,.stV Zc (s:=1) (fun _=>rfl) c (Zq a3) t (0 + Int.toNat (ZI (a + b)) * 1) (Nat.zero_add _) []),(22,.idxV (Zs a4)),(23,.stV Zc (s:=1) (fun _=>rfl) c (Zq a4) u (0 + Int.toNat (ZI (a + i)) * 1) (Nat.zero_add _) [])] 22 [] [21] [] [(0,(.vw 0 0 f)),(2,(i64 d)),(3,(i64 a)),(9,(i64 i))] [.cells (cel Zc (List.set (List.set g (Int.toNat (ZI (a + b))) t) (Int.toNat (ZI (a + i))) u) c)] (AWP.rg0 [] [(0,(.vw 0 0 f)),(2,(i64 d)),(3,(i64 a)),(8,(i64 i))] (LeQ.start (LeQ.pk [0,2,3,8] 1 ?_)))
      exact⟨q,Nat.lt_succ_self _,(List.set (List.set g (Int.toNat (ZI (a + b))) t) (Int.toNat (ZI (a + i))) u),i,hF,by kernel_rfl,by kernel_rfl⟩
 ·rintro _ _ _ (⟨rfl,p,rfl,rfl,rfl⟩ | ⟨rfl,c2,rfl,hq⟩)
  ·have hr:=someb hF
   subst hr
   exact(FnQ.f0 1 (.inl rfl))
  ·have hr:=someb hF
   subst hr
   exact hq
def Zjm (a:List Value) (r:(List Int)):PV→List Blk→Prop:=fun p K=>p=(.tup [])∧K=[.cells (cel Zc r a)]
theorem Zjn (b:Nat) (q:(List Int)) (d:List Value) (a:Int) (f:Int) (r:(List Int)) (hF:Zcj b q a f=some r):ACall Tryz.prog glob 161 [(.vw 0 0 b),(i64 a),(i64 f)] [.cells (cel Zc q d)] (Zjm d r):=by
 refine ACall.body Tryz.func161 rfl (by kernel_rfl) ?_
 unfold Zcj at hF
 refine AWP.seq (AWP.rg0 [] [(0,(.vw 0 0 b)),(1,(i64 a)),(2,(i64 f)),(6,(i64 a))] (AWP.seq (AWP.rg0 [] [(0,(.vw 0 0 b)),(1,(i64 a)),(2,(i64 f)),(6,(i64 a)),(7,(i64 (0:Int)))] (AWP.seq (AWP.rg0 [] [(0,(.vw 0 0 b)),(6,(i64 a)),(7,(i64 (0:Int))),(8,(i64 (ZI (f - a))))] (AWP.seq ?_))))))
 refine AWP.seq (AWP.rg0 [] [(0,(.vw 0 0 b)),(6,(i64 a)),(7,(i64 (0:Int))),(8,(i64 (ZI (f - a)))),(9,(i64 (ZI (Int.tdiv (ZI ((ZI (f - a)) - (1:Int))) (2:Int)))))] ?_)
 obtain⟨t,a1,hF⟩:=bindb hF
 refine AWP.mid (fun e st H=>e=.normal∧st=[(0,(.vw 0 0 b)),(6,(i64 a)),(7,(i64 (0:Int))),(8,(i64 (ZI (f - a))))]∧H=[.cells (cel Zc t d)]) ?_ ?_
 ·clear hF
  refine AWP.kp [0,6,7,8,9] 1 ?_
  refine AWP.bround (fun n st H=>∃ k,∃ i,Zaw b a f n k i=some t∧st=[(0,(.vw 0 0 b)),(6,(i64 a)),(7,(i64 (0:Int))),(8,(i64 (ZI (f - a)))),(9,(i64 i))]∧H=[.cells (cel Zc k d)]) fuel ⟨q,(ZI (Int.tdiv (ZI ((ZI (f - a)) - (1:Int))) (2:Int))),a1,by kernel_rfl,by kernel_rfl⟩ ?_
  rintro u st H ⟨k,i,hF,rfl,rfl⟩
  cases u with
  | zero=>exact noneb hF
  | succ u=>
   rw [Zaw] at hF
   refine AWP.seq (AWP.seq (AWP.rg0 [] [(0,(.vw 0 0 b)),(6,(i64 a)),(7,(i64 (0:Int))),(8,(i64 (ZI (f - a)))),(9,(i64 i)),(19,(vb (decide (i ≥ (0:Int)))))] ?_))
   refine AWP.cif hF (fun a2 hF=>?_) (fun a2 hF=>?_)
   ·refine AWP.skip (AWP.seq (AWP.block ?_))
    obtain⟨l,a3,hF⟩:=bindb hF
    refine AWP.rg [(4,.callC Tryz.func171 [] (closedH.c (Zx (row:=Zc) (fun _=>rfl) k d) closedH.n) (closedH.c (Zx (row:=Zc) (fun _=>rfl) l d) closedH.n) (Zgz b k d i (ZI (f - a)) a l a3))] [(0,(.vw 0 0 b)),(6,(i64 a)),(7,(i64 (0:Int))),(8,(i64 (ZI (f - a)))),(9,(i64 i))] [.cells (cel Zc l d)] (AWP.rg0 [] [(0,(.vw 0 0 b)),(6,(i64 a)),(7,(i64 (0:Int))),(8,(i64 (ZI (f - a)))),(9,(i64 (ZI (i - (1:Int)))))] (LeQ.start (LeQ.pk [0,6,7,8,9] 1 ?_)))
    exact⟨u,Nat.lt_succ_self _,l,(ZI (i - (1:Int))),hF,by kernel_rfl,by kernel_rfl⟩
   ·refine AWP.exit (LeQ.start (LeQ.pk [0,6,7,8] 1 ?_))
    have hr:=someb hF
    subst hr
    exact⟨rfl,by kernel_rfl,by kernel_rfl⟩
 ·rintro _ _ _ ⟨rfl,rfl,rfl⟩
  refine AWP.seq (AWP.rg0 [] [(0,(.vw 0 0 b)),(6,(i64 a)),(7,(i64 (0:Int))),(10,(i64 (ZI ((ZI (f - a)) - (1:Int)))))] ?_)
  obtain⟨w,a4,hF⟩:=bindb hF
  refine AWP.mid (fun e st H=>e=.normal∧st=[]∧H=[.cells (cel Zc w d)]) ?_ ?_
  ·clear hF
   refine AWP.kp [0,6,7,10] 1 ?_
   refine AWP.bround (fun n st H=>∃ j,∃ g,Zax b a n j g=some w∧st=[(0,(.vw 0 0 b)),(6,(i64 a)),(7,(i64 (0:Int))),(10,(i64 g))]∧H=[.cells (cel Zc j d)]) fuel ⟨t,(ZI ((ZI (f - a)) - (1:Int))),a4,by kernel_rfl,by kernel_rfl⟩ ?_
   rintro v st H ⟨j,g,hF,rfl,rfl⟩
   cases v with
   | zero=>exact noneb hF
   | succ v=>
    rw [Zax] at hF
    refine AWP.seq (AWP.seq (AWP.rg0 [] [(0,(.vw 0 0 b)),(6,(i64 a)),(7,(i64 (0:Int))),(10,(i64 g)),(30,(vb (decide (g ≥ (0:Int)))))] ?_))
    refine AWP.cif hF (fun a5 hF=>?_) (fun a5 hF=>?_)
    ·refine AWP.skip (AWP.seq (AWP.block (AWP.seq ?_)))
     obtain⟨m,x,hF⟩:=bindb hF
     obtain⟨o,y,hF⟩:=bindb hF
     obtain⟨a7,z,hF⟩:=bindb hF
     obtain⟨a8,a0,hF⟩:=bindb hF
     refine AWP.dr [(10,.idxV (Zs x)),(11,.ldV Zc (s:=1) (fun _=>rfl) d (Zq x) (0 + Int.toNat (ZI (a + g)) * 1) (Nat.zero_add _) []),(14,.idxV (Zs y)),(15,.ldV Zc (s:=1) (fun _=>rfl) d (Zq y) (0 + Int.toNat a * 1) (Nat.zero_add _) []),(16,.idxV (Zs z)),(17,.stV Zc (s:=1) (fun _=>rfl) d (Zq z) m (0 + Int.toNat a * 1) (Nat.zero_add _) []),(18,.idxV (Zs a0)),(19,.stV Zc (s:=1) (fun _=>rfl) d (Zq a0) o (0 + Int.toNat (ZI (a + g)) * 1) (Nat.zero_add _) [])] 18 [] [17] [] [(0,(.vw 0 0 b)),(6,(i64 a)),(7,(i64 (0:Int))),(10,(i64 g))] [.cells (cel Zc (List.set (List.set j (Int.toNat a) m) (Int.toNat (ZI (a + g))) o) d)] ?_
     obtain⟨p,a6,hF⟩:=bindb hF
     refine AWP.rg [(4,.callC Tryz.func171 [] (closedH.c (Zx (row:=Zc) (fun _=>rfl) (List.set (List.set j (Int.toNat a) m) (Int.toNat (ZI (a + g))) o) d) closedH.n) (closedH.c (Zx (row:=Zc) (fun _=>rfl) p d) closedH.n) (Zgz b (List.set (List.set j (Int.toNat a) m) (Int.toNat (ZI (a + g))) o) d (0:Int) g a p a6))] [(0,(.vw 0 0 b)),(6,(i64 a)),(7,(i64 (0:Int))),(10,(i64 g))] [.cells (cel Zc p d)] (AWP.rg0 [] [(0,(.vw 0 0 b)),(6,(i64 a)),(7,(i64 (0:Int))),(10,(i64 (ZI (g - (1:Int)))))] (LeQ.start (LeQ.pk [0,6,7,10] 1 ?_)))
     exact⟨v,Nat.lt_succ_self _,p,(ZI (g - (1:Int))),hF,by kernel_rfl,by kernel_rfl⟩
    ·refine AWP.exit (LeQ.start (LeQ.pk [] 1 ?_))
     have hr:=someb hF
     subst hr
     exact⟨rfl,by kernel_rfl,by kernel_rfl⟩
  ·rintro _ _ _ ⟨rfl,rfl,rfl⟩
   have hr:=someb hF
   subst hr
   exact(FnQ.f0 1 (.inl rfl))
def Zl2 (r:Int):PV→List Blk→Prop:=fun p K=>p=(u64 r)∧K=[]
theorem Zl3 (a:Int) (r:Int) (hF:Zfg a=some r):ACall Tryz.prog glob 172 [(i64 a)] [] (Zl2 r):=by
 refine ACall.body Tryz.func172 rfl (by kernel_rfl) ?_
 unfold Zfg at hF
 refine AWP.seq (AWP.rg0 [] [(0,(i64 a))] (AWP.seq ?_))
 obtain⟨b,c,hF⟩:=bindb hF
 obtain⟨d,hF⟩:=chkb hF
 refine AWP.rg0 [(2,.call Tryz.func158 [] (Zmf (IntKind.wrap .u64 a) b c)),(3,.sh d)] [(2,(u64 (bShl .u64 (1:Int) b)))] (AWP.ret ?_)
 have hr:=someb hF
 subst hr
 exact(FnQ.f0 0 (.inr rfl))
def Zmy (r:(Int × Int)):PV→List Blk→Prop:=fun p K=>p=(u64 r.1)∧K=[.cells (Zc r.2)]
theorem Zmz (a:Int) (r:(Int × Int)) (hF:Zep a=some r):ACall Tryz.prog glob 173 [(.ptr 0 0)] [.cells (Zc a)] (Zmy r):=by
 refine ACall.body Tryz.func173 rfl (by kernel_rfl) ?_
 unfold Zep at hF
 refine AWP.seq (AWP.rg0 [] [(0,(.ptr 0 0))] (AWP.seq (AWP.dr [] 8 [] [] [] [(0,(.ptr 0 0))] [.cells (Zc (bXor .u64 a (bShl .u64 a (13:Int))))] (AWP.seq (AWP.dr [] 8 [] [] [] [(0,(.ptr 0 0))] [.cells (Zc (bXor .u64 (bXor .u64 a (bShl .u64 a (13:Int))) (bShr .u64 (bXor .u64 a (bShl .u64 a (13:Int))) (7:Int))))] (AWP.seq ?_))))))
 refine AWP.dr [] 8 [] [] [] [(0,(.ptr 0 0))] [.cells (Zc (bXor .u64 (bXor .u64 (bXor .u64 a (bShl .u64 a (13:Int))) (bShr .u64 (bXor .u64 a (bShl .u64 a (13:Int))) (7:Int))) (bShl .u64 (bXor .u64 (bXor .u64 a (bShl .u64 a (13:Int))) (bShr .u64 (bXor .u64 a (bShl .u64 a (13:Int))) (7:Int))) (17:Int))))] (AWP.seq (AWP.rg0 [] [(2,(u64 (bXor .u64 (bXor .u64 (bXor .u64 a (bShl .u64 a (13:Int))) (bShr .u64 (bXor .u64 a (bShl .u64 a (13:Int))) (7:Int))) (bShl .u64 (bXor .u64 (bXor .u64 a (bShl .u64 a (13:Int))) (bShr .u64 (bXor .u64 a (bShl .u64 a (13:Int))) (7:Int))) (17:Int)))))] (AWP.ret ?_)))
 have hr:=someb hF
 subst hr
 exact(FnQ.f0 1 (.inr rfl))
def Zic (a:List Value) (r:(List Int)):PV→List Blk→Prop:=fun p K=>p=(.tup [])∧K=[.cells (cel Zc r a)]
theorem Zid (c:Nat) (m:(List Int)) (g:List Value) (a:Int) (b:Int) (r:(List Int)) (hF:Za5 c m a b=some r):ACall Tryz.prog glob 162 [(.vw 0 0 c),(i64 a),(i64 b)] [.cells (cel Zc m g)] (Zic g r):=by
 refine ACall.body Tryz.func162 rfl (by kernel_rfl) ?_
 unfold Za5 at hF
 refine AWP.seq (AWP.rg0 [] [(0,(.vw 0 0 c)),(1,(i64 a)),(6,(i64 (ZI (b - a))))] (AWP.seq (AWP.rg0 [] [(0,(.vw 0 0 c)),(1,(i64 a)),(6,(i64 (ZI (b - a)))),(15,(vb (decide ((ZI (b - a)) ≥ (8:Int)))))] ?_)))
 refine AWP.cif hF (fun a2 hF=>?_) (fun a2 hF=>?_)
 ·refine AWP.seq (AWP.rg [] [(0,(.vw 0 0 c)),(1,(i64 a)),(6,(i64 (ZI (b - a)))),(7,(.ptr 1 0))] [.cells (cel Zc m g),.cells (Zc (IntKind.wrap .u64 (ZI (b - a))))] (AWP.seq ?_))
  obtain⟨d,a3,hF⟩:=bindb hF
  refine AWP.rg0 [(1,.call Tryz.func172 [] (Zl3 (ZI (b - a)) d a3))] [(0,(.vw 0 0 c)),(1,(i64 a)),(6,(i64 (ZI (b - a)))),(7,(.ptr 1 0)),(8,(u64 d))] (AWP.seq (AWP.rg0 [] [(0,(.vw 0 0 c)),(1,(i64 a)),(6,(i64 (ZI (b - a)))),(7,(.ptr 1 0)),(8,(u64 d)),(9,(i64 (ZI ((ZI (a + (ZI ((ZI (Int.tdiv (ZI (b - a)) (4:Int))) * (2:Int))))) - (1:Int)))))] ?_))
  obtain⟨x,a4,hF⟩:=bindb hF
  refine AWP.mid (fun e st H=>(e=.normal∧∃ q,∃ t,x=(q,t)∧st=[]∧H=[.cells (cel Zc q g),.cells (Zc t)])) ?_ ?_
  ·clear hF
   refine AWP.kp [0,1,6,7,8,9] 2 ?_
   refine AWP.bround (fun n st H=>∃ j,∃ k,∃ f,Zw c a b d n j k f=some x∧st=[(0,(.vw 0 0 c)),(1,(i64 a)),(6,(i64 (ZI (b - a)))),(7,(.ptr 1 0)),(8,(u64 d)),(9,(i64 f))]∧H=[.cells (cel Zc j g),.cells (Zc k)]) fuel ⟨m,(IntKind.wrap .u64 (ZI (b - a))),(ZI ((ZI (a + (ZI ((ZI (Int.tdiv (ZI (b - a)) (4:Int))) * (2:Int))))) - (1:Int))),a4,by kernel_rfl,by kernel_rfl⟩ ?_
   rintro u st H ⟨j,k,f,hF,rfl,rfl⟩
   cases u with
   | zero=>exact noneb hF
   | succ u=>
    rw [Zw] at hF
    refine AWP.seq (AWP.seq (AWP.rg0 [] [(0,(.vw 0 0 c)),(1,(i64 a)),(6,(i64 (ZI (b - a)))),(7,(.ptr 1 0)),(8,(u64 d)),(9,(i64 f)),(33,(vb (decide (f≤(ZI ((ZI (a + (ZI ((ZI (Int.tdiv (ZI (b - a)) (4:Int))) * (2:Int))))) + (1:Int)))))))] ?_))
    refine AWP.cif hF (fun a5 hF=>?_) (fun a5 hF=>?_)
    ·refine AWP.skip ?_
     obtain⟨a6,a7,hF⟩:=bindb hF
     refine AWP.seq ?_
     refine AWP.mid (fun e st H=>(e=.normal∧∃ o,∃ p,a6=(o,p)∧st=[(0,(.vw 0 0 c)),(1,(i64 a)),(6,(i64 (ZI (b - a)))),(7,(.ptr 1 0)),(8,(u64 d)),(9,(i64 f))]∧H=[.cells (cel Zc o g),.cells (Zc p)])) ?_ ?_
     ·clear hF
      have hF:=a7
      refine AWP.block (AWP.seq ?_)
      obtain⟨i,a8,hF⟩:=bindb hF
      refine AWP.rg [(0,.call Tryz.func173 [] (Zmz k i a8))] [(0,(.vw 0 0 c)),(1,(i64 a)),(6,(i64 (ZI (b - a)))),(7,(.ptr 1 0)),(8,(u64 d)),(9,(i64 f)),(10,(i64 (ZI (bAnd .u64 i.1 (IntKind.wrap .u64 (d - (1:Int)))))))] [.cells (cel Zc j g),.cells (Zc i.2)] ?_
      obtain⟨l,a9,hF⟩:=bindb hF
      refine AWP.seq ?_
      refine AWP.mid (fun e st H=>e=.normal∧st=[(0,(.vw 0 0 c)),(1,(i64 a)),(6,(i64 (ZI (b - a)))),(7,(.ptr 1 0)),(8,(u64 d)),(9,(i64 f)),(10,(i64 l))]∧H=[.cells (cel Zc j g),.cells (Zc i.2)]) ?_ ?_
      ·clear hF
       have hF:=a9
       refine AWP.seq (AWP.rg0 [] [(0,(.vw 0 0 c)),(1,(i64 a)),(6,(i64 (ZI (b - a)))),(7,(.ptr 1 0)),(8,(u64 d)),(9,(i64 f)),(10,(i64 (ZI (bAnd .u64 i.1 (IntKind.wrap .u64 (d - (1:Int))))))),(43,(vb (decide ((ZI (bAnd .u64 i.1 (IntKind.wrap .u64 (d - (1:Int))))) ≥ (ZI (b - a))))))] ?_)
       refine AWP.cif hF (fun b0 hF=>?_) (fun b0 hF=>?_)
       ·refine AWP.rg0 [] [(0,(.vw 0 0 c)),(1,(i64 a)),(6,(i64 (ZI (b - a)))),(7,(.ptr 1 0)),(8,(u64 d)),(9,(i64 f)),(10,(i64 (ZI ((ZI (bAnd .u64 i.1 (IntKind.wrap .u64 (d - (1:Int))))) - (ZI (b - a))))))] (LeQ.start (LeQ.pk [0,1,6,7,8,9,10] 2 ?_))
        have hr:=someb hF
        subst hr
        exact⟨rfl,by kernel_rfl,by kernel_rfl⟩
       ·refine AWP.skip (LeQ.start (LeQ.pk [0,1,6,7,8,9,10] 2 ?_))
        have hr:=someb hF
        subst hr
        exact⟨rfl,by kernel_rfl,by kernel_rfl⟩
      ·rintro _ _ _ ⟨rfl,rfl,rfl⟩
       obtain⟨v,y,hF⟩:=bindb hF
       obtain⟨w,z,hF⟩:=bindb hF
       obtain⟨b1,a0,hF⟩:=bindb hF
       obtain⟨b2,a1,hF⟩:=bindb hF
       refine AWP.dr [(10,.idxV (Zs y)),(11,.ldV Zc (s:=1) (fun _=>rfl) g (Zq y) (0 + Int.toNat (ZI (a + l)) * 1) (Nat.zero_add _) []),(14,.idxV (Zs z)),(15,.ldV Zc (s:=1) (fun _=>rfl) g (Zq z) (0 + Int.toNat f * 1) (Nat.zero_add _) []),(16,.idxV (Zs a0)),(17,.stV Zc (s:=1) (fun _=>rfl) g (Zq a0) v (0 + Int.toNat f * 1) (Nat.zero_add _) []),(18,.idxV (Zs a1)),(19,.stV Zc (s:=1) (fun _=>rfl) g (Zq a1) w (0 + Int.toNat (ZI (a + l)) * 1) (Nat.zero_add _) [])] 18 [] [17] [] [(0,(.vw 0 0 c)),(1,(i64 a)),(6,(i64 (ZI (b - a)))),(7,(.ptr 1 0)),(8,(u64 d)),(9,(i64 f))] [.cells (cel Zc (List.set (List.set j (Int.toNat f) v) (Int.toNat (ZI (a + l))) w) g),.cells (Zc i.2)] (LeQ.start (LeQ.pk [0,1,6,7,8,9] 2 ?_))
       exact⟨rfl,(List.set (List.set j (Int.toNat f) v) (Int.toNat (ZI (a + l))) w),i.2,(someb hF).symm,by kernel_rfl,by kernel_rfl⟩
     ·rintro _ _ _ ⟨rfl,o,p,rfl,rfl,rfl⟩
      refine AWP.rg0 [] [(0,(.vw 0 0 c)),(1,(i64 a)),(6,(i64 (ZI (b - a)))),(7,(.ptr 1 0)),(8,(u64 d)),(9,(i64 (ZI (f + (1:Int)))))] (LeQ.start (LeQ.pk [0,1,6,7,8,9] 2 ?_))
      exact⟨u,Nat.lt_succ_self _,o,p,(ZI (f + (1:Int))),hF,by kernel_rfl,by kernel_rfl⟩
    ·refine AWP.exit (LeQ.start (LeQ.pk [] 2 ?_))
     exact⟨rfl,j,k,(someb hF).symm,by kernel_rfl,by kernel_rfl⟩
  ·rintro _ _ _ ⟨rfl,q,t,rfl,rfl,rfl⟩
   have hr:=someb hF
   subst hr
   exact(FnQ.f0 1 (.inl rfl))
 ·refine AWP.skip ?_
  have hr:=someb hF
  subst hr
  exact(FnQ.f0 1 (.inl rfl))
def Zj8 (a:(List Int)) (b:List Value) (r:(Int × Int × Int)):PV→List Blk→Prop:=fun p K=>p=(.tup [(i64 r.1),(i64 r.2.1)])∧K=[.cells (cel Zc a b),.cells (Zag r.2.2)]
theorem Zfe (g:Nat) (d:(List Int)) (c:List Value) (a:Int) (b:Int) (f:Int) (r:(Int × Int × Int)) (hF:Zbi g d a b f=some r):ACall Tryz.prog glob 177 [(.vw 0 0 g),(i64 a),(i64 b),(.ptr 1 0)] [.cells (cel Zc d c),.cells (Zag f)] (Zj8 d c r):=by
 refine ACall.body Tryz.func177 rfl (by kernel_rfl) ?_
 unfold Zbi at hF
 refine AWP.seq (AWP.rg0 [] [(0,(.vw 0 0 g)),(1,(i64 a)),(2,(i64 b)),(3,(.ptr 1 0))] (AWP.seq (AWP.seq ?_)))
 obtain⟨l,i,hF⟩:=bindb hF
 obtain⟨m,j,hF⟩:=bindb hF
 obtain⟨k,n,hF⟩:=bindb hF
 refine AWP.dr [(2,.idxV (Zs i)),(3,.ldV Zc (s:=1) (fun _=>rfl) c (Zq i) (0 + Int.toNat b * 1) (Nat.zero_add _) []),(6,.idxV (Zs j)),(7,.ldV Zc (s:=1) (fun _=>rfl) c (Zq j) (0 + Int.toNat a * 1) (Nat.zero_add _) []),(8,.call Tryz.func166 [] (Za4 l m k n))] 9 [] [] [] [(1,(i64 a)),(2,(i64 b)),(3,(.ptr 1 0)),(18,(vb k))] [.cells (cel Zc d c),.cells (Zag f)] ?_
 refine AWP.cif hF (fun o hF=>?_) (fun o hF=>?_)
 ·refine AWP.seq (AWP.rg [] [(1,(i64 a)),(2,(i64 b))] [.cells (cel Zc d c),.cells (Zag (ZI (f + (1:Int))))] (AWP.seq (AWP.rg0 [] [(8,(i64 b)),(9,(i64 a))] (AWP.ret ?_))))
  have hr:=someb hF
  subst hr
  exact(FnQ.f0 2 (.inr rfl))
 ·refine AWP.skip (AWP.seq (AWP.rg0 [] [(8,(i64 a)),(9,(i64 b))] (AWP.ret ?_)))
  have hr:=someb hF
  subst hr
  exact(FnQ.f0 2 (.inr rfl))
def Zj9 (a:(List Int)) (b:List Value) (r:(Int × Int)):PV→List Blk→Prop:=fun p K=>p=(i64 r.1)∧K=[.cells (cel Zc a b),.cells (Zag r.2)]
theorem Zhe (f:Nat) (a:(List Int)) (b:List Value) (k:Int) (l:Int) (i:Int) (m:Int) (r:(Int × Int)) (hF:Zb0 f a k l i m=some r):ACall Tryz.prog glob 175 [(.vw 0 0 f),(i64 k),(i64 l),(i64 i),(.ptr 1 0)] [.cells (cel Zc a b),.cells (Zag m)] (Zj9 a b r):=by
 refine ACall.body Tryz.func175 rfl (by kernel_rfl) ?_
 unfold Zb0 at hF
 refine AWP.seq (AWP.rg0 [] [(0,(.vw 0 0 f)),(1,(i64 k)),(2,(i64 l)),(3,(i64 i)),(4,(.ptr 1 0))] (AWP.seq ?_))
 obtain⟨d,o,hF⟩:=bindb hF
 refine AWP.rg [(4,.callC Tryz.func177 [] (closedH.c (Zx (row:=Zc) (fun _=>rfl) a b) (closedH.c (cs:=Zag m) rfl closedH.n)) (closedH.c (Zx (row:=Zc) (fun _=>rfl) a b) (closedH.c (cs:=Zag d.2.2) rfl closedH.n)) (Zfe f a b k l m d o))] [(0,(.vw 0 0 f)),(1,(i64 d.1)),(2,(i64 d.2.1)),(3,(i64 i)),(4,(.ptr 1 0))] [.cells (cel Zc a b),.cells (Zag d.2.2)] (AWP.seq ?_)
 obtain⟨g,p,hF⟩:=bindb hF
 refine AWP.rg [(4,.callC Tryz.func177 [] (closedH.c (Zx (row:=Zc) (fun _=>rfl) a b) (closedH.c (cs:=Zag d.2.2) rfl closedH.n)) (closedH.c (Zx (row:=Zc) (fun _=>rfl) a b) (closedH.c (cs:=Zag g.2.2) rfl closedH.n)) (Zfe f a b d.2.1 i d.2.2 g p))] [(0,(.vw 0 0 f)),(1,(i64 d.1)),(2,(i64 g.1)),(4,(.ptr 1 0))] [.cells (cel Zc a b),.cells (Zag g.2.2)] (AWP.seq ?_)
 obtain⟨j,q,hF⟩:=bindb hF
 refine AWP.rg [(4,.callC Tryz.func177 [] (closedH.c (Zx (row:=Zc) (fun _=>rfl) a b) (closedH.c (cs:=Zag g.2.2) rfl closedH.n)) (closedH.c (Zx (row:=Zc) (fun _=>rfl) a b) (closedH.c (cs:=Zag j.2.2) rfl closedH.n)) (Zfe f a b d.1 g.1 g.2.2 j q))] [(2,(i64 j.2.1))] [.cells (cel Zc a b),.cells (Zag j.2.2)] (AWP.seq (AWP.rg0 [] [(10,(i64 j.2.1))] (AWP.ret ?_)))
 have hr:=someb hF
 subst hr
 exact(FnQ.f0 2 (.inr rfl))
def Zh4 (a:(List Int)) (b:List Value) (r:(Int × Int)):PV→List Blk→Prop:=fun p K=>p=(i64 r.1)∧K=[.cells (cel Zc a b),.cells (Zag r.2)]
theorem Zdw (f:Nat) (a:(List Int)) (b:List Value) (d:Int) (g:Int) (r:(Int × Int)) (hF:Zap f a d g=some r):ACall Tryz.prog glob 174 [(.vw 0 0 f),(i64 d),(.ptr 1 0)] [.cells (cel Zc a b),.cells (Zag g)] (Zh4 a b r):=by
 refine ACall.body Tryz.func174 rfl (by kernel_rfl) ?_
 unfold Zap at hF
 refine AWP.seq (AWP.rg0 [] [(0,(.vw 0 0 f)),(1,(i64 d)),(2,(.ptr 1 0))] (AWP.seq ?_))
 obtain⟨i,j,hF⟩:=bindb hF
 refine AWP.rg [(7,.callC Tryz.func175 [] (closedH.c (Zx (row:=Zc) (fun _=>rfl) a b) (closedH.c (cs:=Zag g) rfl closedH.n)) (closedH.c (Zx (row:=Zc) (fun _=>rfl) a b) (closedH.c (cs:=Zag i.2) rfl closedH.n)) (Zhe f a b (ZI (d - (1:Int))) d (ZI (d + (1:Int))) g i j))] [(6,(i64 i.1))] [.cells (cel Zc a b),.cells (Zag i.2)] (AWP.ret ?_)
 have hr:=someb hF
 subst hr
 exact(FnQ.f0 2 (.inr rfl))
end Go.AM

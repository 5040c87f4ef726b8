/- Parts of a proof, printed short. No condition. -/
import Derived.Test.YtdbopohjgcdpmaaGreatDoorLQ6
set_option maxRecDepth 100000
set_option linter.all false
namespace Go.AM
noncomputable section
open Go
open Go.Proofs.Tryz
open Go.IntKind(wrap)
section
open Go.Proofs
def Z8r (r:Bool):Exit→St→List Blk→Prop:=FnQ prog f199.results 0 λp K=>p=(vb r)∧K=[]
def Zrx {b:Yq}:KF prog glob 199 f199 [slc 11 Zan b] [] (Zk2 b) (λr=>vb r) (λ_=>[]):=Ww func199<|.a<|.r [(1,.len Zan b)]<|.p1 [0,5,6,7] 0 (λc=>[.s 7 (i64 c)]) (Sum.elim (λ_=>.n [0] 0 []) (λr=>.q (Z8r r)))
 (λd c=>.a<|.i (.bi 0 Zan<|.a<|.bc 2 Zfj<|.a<|.i (.a<|.s 0 [] rfl)
 (.a<|.x1))
 (.u)) (fun
 |.inl ()=>(.n<|.r [(1,.len Zan b)]<|.e 0 [])
 |.inr f=>.r λ_ _ h=>h)
def Z41 {b:Zn}:KF prog glob 93 f93 [Za6 b] [] (Zu3 b) (λr=>.tup [Zk5 r.1,vb r.2]) (λ_=>[]):=Ww func93<|.a<|.bc 1 Zdz<|.a<|.i (.a<|.e 0 [])
 (.bc 6 Zvk<|.d [] 10<|.e 0 [])
def Zzl {c:Z2} {b:ZB}:KF prog glob 305 f305 [Znu c,.ptr 0 0] [.cells (Zd b)] (Zoz c b) (λr=>vb r) (λ_=>[.cells (Zd b)]):=Ww func305<|.a<|.bc 2 Z41<|.a<|.v<|.rc [] [] []<|.e 1 []
def Zj4 (a:ZB) (r:Int):Exit→St→List Blk→Prop:=FnQ prog f258.results 1 λp K=>p=(i64 r)∧K=[.cells (Zd a)]
def Zj5 {d:Yk} {c:ZB}:KF prog glob 258 f258 [slc 6 Zk d,.fn 305 [.ptr 0 0]] [.cells (Zd c)] (Zd2 d c) (λr=>i64 r) (λ_=>[.cells (Zd c)]):=Ww func258<|.a<|.r [(1,.len Zk d)]<|.p1 [0,1,7,8] 1 (λf=>[.s 8 (i64 f)]) (Sum.elim (λ_=>.n [] 1 []) (λr=>.q (Zj4 c r)))
 (λj f=>.a<|.i (.a<|.bi 3 Zk<|.b λk g=>.r [(5,.callF func305 [] ((Zzl).run _ g))]<|.i (.a<|.s 1 [] rfl)
 (.a<|.x1))
 (.u)) (fun
 |.inl ()=>(.n<|.a<|.e 1 [])
 |.inr l=>.r λ_ _ h=>h)
def Ziv {c:Yk} {b:ZB}:KF prog glob 244 f244 [slc 6 Zk c,.fn 305 [.ptr 0 0]] [.cells (Zd b)] (Zb7 c b) (λr=>vb r) (λ_=>[.cells (Zd b)]):=Ww func244<|.a<|.bc 2 Zj5<|.a<|.e 1 []
def Z11 {c:Zb} {b:Z9}:KF prog glob 291 f291 [Zu c,Zse b] [] (Zmd c b) (λr=>vb r) (λ_=>[]):=Ww func291<|.a<|.to [2] [.k 2 (.cells (Zd b.From)),.k 3 (.cells (Zd b.To)),.s 5 (.ptr 2 0),.s 6 (.ptr 3 0)] (by
 exact .g [] 7 (.e 5 4 (.d [] [4,5,6] []) (.d [0,1,2,3,5,4,6] [5,4,6] [(2,3)])))<|.a<|.v<|.gm λj f=>.gw<|.rc [(9,.bool f)] [] []<|.i (.a<|.e 0 [])
 (.v<|.v<|.rc [] [] []<|.i (.a<|.e 0 [])
 (.bc 3 Ziv<|.r [(2,.q)]<|.e 0 []))
def Zx4 {b:ZB} {f:ZB}:KF prog glob 254 f254 [Zbo b,Zbo f] [] (Znj b f) (λr=>.tup [Zbo r.1,vb r.2]) (λ_=>[]):=Ww func254<|.a<|.bc 1 Zfj<|.v<|.ge λx t=>.gw<|.rc [] [(5,.ca Zfj t)] []<|.i (.a<|.e 0 [])
 (.a<|.a<|.p2 [2,3,4,6,17] 4 (λj g=>[.c 3 (Zd j),.s 17 (i64 g)]) (λk=>.n [4,6] 4 [.c 3 (Zd k)])
 (λy j g=>.a<|.i (.a<|.c λl=>.c λm=>.c λo=>.c λp=>.c λq=>.d [(2,.ixd l),(4,.ldA Zm (Arr5.get b) 0 2 0 l),(6,.ixd m),(8,.ldA Zm (Arr5.get f) 0 2 0 m),(11,.ixd o),(13,.ldA Zm (Arr5.get b) 0 2 1 o),(15,.ixd p),(17,.ldA Zm (Arr5.get f) 0 2 1 p),(20,.ixd q),(21,.stA (λw=>Zd (Arr5.set j w (Za.mk (iMax ((Arr5.get b g).Lo) ((Arr5.get f g).Lo)) (iMin ((Arr5.get b g).Hi) ((Arr5.get f g).Hi))))) 0 2 0 q)] 20<|.a<|.x2)
 (.u)) (λk=>.n<|.bc 1 Zfj<|.a<|.i (.a<|.e 0 [])
 (.a<|.e 0 [])))
def Z12 (r:Bool):Exit→St→List Blk→Prop:=FnQ prog f253.results 0 λp K=>p=(vb r)∧K=[]
def Z13 {b:Z9}:KF prog glob 253 f253 [Zse b] [] (Zme b) (λr=>vb r) (λ_=>[]):=Ww func253<|.a<|.bc 2 Zfj<|.v<|.ge λm k=>.gw<|.rc [] [(7,.ca Zfj k)] []<|.i (.a<|.e 0 [])
 (.a<|.p1 [1,16,17] 1 (λf=>[.s 17 (i64 f)]) (Sum.elim (λ_=>.n [] 1 []) (λr=>.q (Z12 r)))
 (λo f=>.a<|.i (.c λl=>.r [(1,.ixA Zm (Arr5.get b.From) l)]<|.c λg=>.c λj=>.d [(7,.ixd g),(9,.ldA Zm (Arr5.get b.To) 10 2 1 g),(12,.ixd j),(14,.ldA Zm (Arr5.get b.To) 10 2 0 j)] 17<|.i (.a<|.s 0 [] rfl)
 (.a<|.x1))
 (.u)) (fun
 |.inl ()=>(.n<|.a<|.e 0 [])
 |.inr p=>.r λ_ _ h=>h))
def Zx5 (r:Bool):Exit→St→List Blk→Prop:=FnQ prog f200.results 0 λp K=>p=(vb r)∧K=[]
def Zx6 {b:Yj}:KF prog glob 200 f200 [slc 20 Zas b] [] (Znk b) (λr=>vb r) (λ_=>[]):=Ww func200<|.a<|.r [(1,.len Zas b)]<|.i (.a<|.e 0 [])
 (.r [(1,.len Zas b)]<|.p1 [0,12,13,14] 0 (λd=>[.s 14 (i64 d)]) (Sum.elim (λ_=>.n [] 0 []) (λr=>.q (Zx5 r)))
 (λj d=>.a<|.i (.bi 1 Zas<|.a<|.bc 1 Z13<|.a<|.i (.a<|.s 0 [] rfl)
 (.c λg=>.r [(2,.slice Zas b g),(3,.len Zas (List.drop (Int.toNat (0:Int)) (List.take (Int.toNat d) b)))]<|.p1 [0,4,12,13,14,24,25,26] 1 (λf=>[.s 26 (i64 f)]) (Sum.elim (λ_=>.n [0,12,13,14] 1 []) (λr=>.q (Zx5 r)))
 (λk f=>.a<|.i (.bi 0 Zas<|.a<|.bc 4 Zx4<|.a<|.a<|.i (.a<|.s 0 [] rfl)
 (.a<|.x1))
 (.u)) (fun
 |.inl ()=>(.n<|.a<|.x1)
 |.inr l=>.r λ_ _ h=>Wbq ⟨rfl,h⟩)))
 (.u)) (fun
 |.inl ()=>(.n<|.a<|.e 0 [])
 |.inr m=>.r λ_ _ h=>h))
def Zt7 (r:Bool):Exit→St→List Blk→Prop:=FnQ prog f246.results 0 λp K=>p=(vb r)∧K=[]
def Z0n {f:Zb} {b:Yj}:KF prog glob 246 f246 [Zu f,slc 20 Zas b] [] (Zpp f b) (λr=>vb r) (λ_=>[]):=Ww func246<|.a<|.r [(1,.len Zas b)]<|.p1 [1,2,11,12,13] 1 (λd=>[.s 13 (i64 d)]) (Sum.elim (λ_=>.n [1] 1 []) (λr=>.q (Zt7 r)))
 (λk d=>.a<|.i (.bi 1 Zas<|.a<|.bc 2 Z11<|.a<|.i (.a<|.s 0 [] rfl)
 (.c λj=>.r [(2,.slice Zas b j),(3,.len Zas (List.drop (Int.toNat (0:Int)) (List.take (Int.toNat d) b)))]<|.p1 [1,2,6,11,12,13,24,25,26] 2 (λg=>[.s 26 (i64 g)]) (Sum.elim (λ_=>.n [1,2,11,12,13] 2 []) (λr=>.q (Zt7 r)))
 (λl g=>.a<|.i (.bi 0 Zas<|.a<|.bc 4 Zx4<|.a<|.a<|.i (.a<|.s 0 [] rfl)
 (.a<|.x1))
 (.u)) (fun
 |.inl ()=>(.n<|.a<|.x1)
 |.inr m=>.r λ_ _ h=>Wbq ⟨rfl,h⟩)))
 (.u)) (fun
 |.inl ()=>(.n<|.bc 1 Zx6<|.a<|.e 0 [])
 |.inr o=>.r λ_ _ h=>h)
def Zagl {b:Int}:KF prog glob 297 f297 [i64 b] [] (Z2u b) (λr=>u32 r) (λ_=>[]):=Ww func297<|.a<|.v<|.rc [] [] []<|.i (.a<|.e 0 [])
 (.c λd=>.r [(1,.ixd d),(2,.ldA Zi0 (Arr5.get Zmr) 0 1 0 d)]<|.e 0 [])
def Z14 {j:Zad}:KF prog glob 255 f255 [Z4z j] [] (Zqc j) (λr=>vb r) (λ_=>[]):=Ww func255<|.a<|.b λp c=>.l λk f=>.l λm g=>.b λn i=>.to [] [.s 2 (vb n)] (by
 cases k
 ·subst g
  cases i;exact .d [(2,.ca Zfj c),(3,.bool f)] 19
 cases m
 ·cases i
  exact .d [(2,.ca Zfj c),(3,.bool f),(12,.bool g)] 19
 obtain⟨q,o,⟨⟩⟩:=bindb (ifT i rfl)
 exact .d [(2,.ca Zfj c),(3,.bool f),(12,.bool g),(16,.ca Zagl o)] 19)<|.e 0 []
def Z0o (r:Bool):Exit→St→List Blk→Prop:=FnQ prog f201.results 0 λp K=>p=(vb r)∧K=[]
def Zt8 {b:Yn}:KF prog glob 201 f201 [slc 13 Zat b] [] (Zkn b) (λr=>vb r) (λ_=>[]):=Ww func201<|.a<|.r [(1,.len Zat b)]<|.p1 [0,5,6,7] 0 (λc=>[.s 7 (i64 c)]) (Sum.elim (λ_=>.n [0] 0 []) (λr=>.q (Z0o r)))
 (λd c=>.a<|.i (.bi 0 Zat<|.a<|.bc 1 Z14<|.a<|.i (.a<|.s 0 [] rfl)
 (.a<|.x1))
 (.u)) (fun
 |.inl ()=>(.n<|.r [(1,.len Zat b)]<|.e 0 [])
 |.inr f=>.r λ_ _ h=>h)
def Z7d {c:Z2} {b:Int}:KF prog glob 292 f292 [Znu c,.ptr 0 0] [.cells (Zi0 b)] (Ztw c b) (λr=>vb r) (λ_=>[.cells (Zi0 b)]):=Ww func292<|.a<|.v<|.gt λf d=>.gw<|.rc [] [(7,.ca Zon d)] []<|.e 1 []
def Zny (a:Int) (r:Int):Exit→St→List Blk→Prop:=FnQ prog f258.results 1 λp K=>p=(i64 r)∧K=[.cells (Zi0 a)]
def Znz {d:Yk} {c:Int}:KF prog glob 258 f258 [slc 6 Zk d,.fn 292 [.ptr 0 0]] [.cells (Zi0 c)] (Zfh d c) (λr=>i64 r) (λ_=>[.cells (Zi0 c)]):=Ww func258<|.a<|.r [(1,.len Zk d)]<|.p1 [0,1,7,8] 1 (λf=>[.s 8 (i64 f)]) (Sum.elim (λ_=>.n [] 1 []) (λr=>.q (Zny c r)))
 (λj f=>.a<|.i (.a<|.bi 3 Zk<|.b λk g=>.r [(5,.callF func292 [] ((Z7d).run _ g))]<|.i (.a<|.s 1 [] rfl)
 (.a<|.x1))
 (.u)) (fun
 |.inl ()=>(.n<|.a<|.e 1 [])
 |.inr l=>.r λ_ _ h=>h)
def Zaao {b:Zb} {c:Int}:KF prog glob 247 f247 [Zu b,u32 c] [] (Zvj b c) (λr=>i64 r) (λ_=>[]):=Ww func247<|.a<|.bc 3 Znz<|.r [(2,.q)]<|.e 0 []
def Zzm {b:Zak}:KF prog glob 249 f249 [Zabr b] [] (Zo0 b) (λr=>vb r) (λ_=>[]):=Ww func249<|.a<|.bc 2 Zfj<|.v<|.ge λd c=>.gw<|.rc [] [(7,.ca Zcf c)] []<|.e 0 []
def Ziy (r:Int):Exit→St→List Blk→Prop:=FnQ prog f293.results 0 λp K=>p=(i64 r)∧K=[]
def Ziz {b:Yi}:KF prog glob 293 f293 [slc 11 Zau b,.sc (.func (.func 249) #[] #[])] [] (Zdu b) (λr=>i64 r) (λ_=>[]):=Ww func293<|.a<|.r [(1,.len Zau b)]<|.p1 [0,1,7,8] 0 (λc=>[.s 8 (i64 c)]) (Sum.elim (λ_=>.n [] 0 []) (λr=>.q (Ziy r)))
 (λd c=>.a<|.i (.a<|.bi 3 Zau<|.bc 5 Zzm<|.a<|.i (.a<|.s 0 [] rfl)
 (.a<|.x1))
 (.u)) (fun
 |.inl ()=>(.n<|.a<|.e 0 [])
 |.inr f=>.r λ_ _ h=>h)
def Zib {b:Yi}:KF prog glob 248 f248 [slc 11 Zau b,.sc (.func (.func 249) #[] #[])] [] (Zb4 b) (λr=>vb r) (λ_=>[]):=Ww func248<|.a<|.bc 2 Ziz<|.a<|.e 0 []
def Z15 (r:Bool):Exit→St→List Blk→Prop:=FnQ prog f195.results 0 λp K=>p=(vb r)∧K=[]
def Z16 {c:Zb} {b:Zw}:KF prog glob 195 f195 [Zu c,Zsf b] [] (Zqd c b) (λr=>vb r) (λ_=>[]):=Ww func195<|.a<|.bc 2 Zrx<|.v<|.ge λk f=>.gw<|.v<|.ge λl g=>.gw<|.v<|.ge λm j=>.gw<|.v<|.rc [(26,.len Zau b.Steers)] [(7,.ca Zrx f),(14,.ca Z0n g),(20,.ca Zt8 j)] []<|.i (.a<|.e 0 [])
 (.r [(2,.len Zat b.Hides)]<|.p1 [2,3,37,38,39] 2 (λd=>[.s 39 (i64 d)]) (Sum.elim (λ_=>.n [3] 2 []) (λr=>.q (Z15 r)))
 (λo d=>.a<|.i (.bi 0 Zat<|.a<|.bc 3 Zaao<|.a<|.i (.a<|.s 0 [] rfl)
 (.a<|.x1))
 (.u)) (fun
 |.inl ()=>(.n<|.bc 2 Zib<|.a<|.e 0 [])
 |.inr p=>.r λ_ _ h=>h))
def Z3c {c:Z2} {b:Int}:KF prog glob 251 f251 [Znu c,.ptr 0 0] [.cells (Ze b)] (Zre c b) (λr=>vb r) (λ_=>[.cells (Ze b)]):=Ww func251<|.a<|.a<|.e 1 []
def Zue {d:Zb} {f:Int}:KF prog glob 250 f250 [Zu d,.fn 251 [.ptr 0 0]] [.cells (Ze f)] (Zhb d f) (λr=>slc 1 Ze r) (λ_=>[.cells (Ze f)]):=Ww func250<|.a<|.a<|.z (.own 5 1 3)<|.r [(2,.len Zk d.Edges)]<|.p2 [1,5,9,10,11] 3 (λj o=>[.l 2 Ze j,.s 11 (i64 o)]) (λg=>.n [5] 3 [.l 2 Ze g])
 (λv j o=>.a<|.i (.m 2 (λp=>.n [1,5,9,10,11] 3 [.l 2 Ze p]) (.bi 1 Zk<|.a<|.b λw q=>.r [(2,.callF func251 [] ((Z3c).run _ q))]<|.i (.c λt=>.r [(3,.app Ze (λ_=>kR) t)]<|.k)
 (.k)) (λp=>.n<|.a<|.x2))
 (.u)) (λg=>.n<|.a<|.e 1 [.of Ze g])
def Z50 {b:Zb} {c:Int}:KF prog glob 196 f196 [Zu b,i64 c] [] (Zpq b c) (λr=>slc 1 Ze r) (λ_=>[]):=Ww func196<|.a<|.bc 2 Zue<|.r [(1,.q)]<|.e 0 []
def Zyo (r:Bool):Exit→St→List Blk→Prop:=FnQ prog f95.results 0 λp K=>p=(vb r)∧K=[]
def Zyp {b:Ya} {c:Ya}:KF prog glob 95 f95 [slc 1 Ze b,slc 1 Ze c] [] (Zig b c) (λr=>vb r) (λ_=>[]):=Ww func95<|.a<|.r [(1,.len Ze b),(3,.len Ze c)]<|.i (.a<|.e 0 [])
 (.r [(1,.len Ze b)]<|.p1 [0,1,12,13] 0 (λf=>[.s 13 (i64 f)]) (Sum.elim (λ_=>.n [] 0 []) (λr=>.q (Zyo r)))
 (λg f=>.a<|.i (.a<|.bi 2 Ze<|.bi 6 Ze<|.d [] 9<|.i (.a<|.s 0 [] rfl)
 (.a<|.x1))
 (.u)) (fun
 |.inl ()=>(.n<|.a<|.e 0 [])
 |.inr j=>.r λ_ _ h=>h))
def Zx7 (r:Bool):Exit→St→List Blk→Prop:=FnQ prog f142.results 0 λp K=>p=(vb r)∧K=[]
def Z7e {f:Zb} {d:Yh}:KF prog glob 142 f142 [Zu f,slc 1 Zab d] [] (Zqr f d) (λr=>vb r) (λ_=>[]):=Ww func142<|.a<|.bc 1 Z10<|.v<|.rc [(5,.len Zab d),(8,.len Zj f.Devices)] [] []<|.i (.a<|.e 0 [])
 (.r [(1,.len Zab d)]<|.p1 [2,21,22,23] 1 (λj=>[.s 23 (i64 j)]) (Sum.elim (λ_=>.n [] 1 []) (λr=>.q (Zx7 r)))
 (λy j=>.a<|.i (.b λo p=>.r [(1,.idx Zab p)]<|.a<|.w (.own 7 1 3)<|.r [(2,.len Zz o.Ports)]<|.p2 [2,5,7,21,22,23,29,30,31] 3 (λk m=>[.l 2 Ze k,.s 31 (i64 m)]) (Sum.elim (λg=>.n [2,5,7,21,22,23] 3 [.l 2 Ze g]) (λr=>.q (Zx7 r)))
 (λz k m=>.a<|.i (.bi 0 Zz<|.a<|.c λt=>.r [(4,.app Ze (λ_=>kR) t)]<|.bc 2 Z16<|.a<|.i (.a<|.s 0 [] rfl)
 (.a<|.x2))
 (.u)) (fun
 |.inl g=>(.n<|.w (.share 2)<|.bc 3 Z50<|.b λa0 x=>.r [(4,.cw [.of Ze g] Zyp x)]<|.i (.a<|.s 0 [] rfl)
 (.a<|.x1))
 |.inr a1=>.r λ_ _ h=>Wbq ⟨rfl,h⟩))
 (.u)) (fun
 |.inl ()=>(.n<|.a<|.e 0 [])
 |.inr a2=>.r λ_ _ h=>h))
def Z51 (r:Bool):Exit→St→List Blk→Prop:=FnQ prog f146.results 0 λp K=>p=(vb r)∧K=[]
def Zw0 {g:Ya} {k:Int}:KF prog glob 146 f146 [slc 1 Ze g,i64 k] [] (Zpr g k) (λr=>vb r) (λ_=>[]):=Ww func146<|.a<|.r [(1,.len Ze g)]<|.p1 [0,1,7,8,9] 0 (λm=>[.s 9 (i64 m)]) (Sum.elim (λ_=>.n [] 0 []) (λr=>.q (Z51 r)))
 (λz m=>.a<|.i (.bi 1 Ze<|.a<|.l λp c=>.l λt d=>.b λv j=>.to [0,1,7,8,9] [.s 33 (vb v)] (by
 cases p
 ·cases t
  ·obtain⟨w,f,x⟩:=bindb (ifF j rfl)
   replace f:=someb f
   obtain⟨a0,o,⟨⟩⟩:=bindb x;cases w
   ·cases o
    exact .r [(2,.bool c),(7,.bool d),(10,.bool f)]
   obtain⟨a1,y,⟨⟩⟩:=bindb (ifT o rfl);exact .r [(2,.bool c),(7,.bool d),(10,.bool f),(15,.idx Ze y)]
  cases j;exact .r [(2,.bool c),(7,.bool d)]
 subst d;cases j
 exact .r [(2,.bool c)])<|.i (.a<|.s 0 [] rfl)
 (.a<|.x1))
 (.u)) (fun
 |.inl ()=>(.n<|.a<|.e 0 [])
 |.inr a2=>.r λ_ _ h=>h)
def Zt9 {b:Zb} {c:Zp}:KF prog glob 80 f80 [Zu b,Zax c] [] (Znm b c) (λr=>vb r) (λ_=>[]):=Ww func80<|.a<|.bc 1 Zwz<|.v<|.gt λg d=>.gw<|.v<|.gt λi f=>.gw<|.rc [(7,.len Zx b.Links),(15,.len Zj b.Devices)] [(8,.ca Zw0 d),(16,.ca Zw0 f)] []<|.e 0 []
def Zyq (r:Int):Exit→St→List Blk→Prop:=FnQ prog f211.results 0 λp K=>p=(i64 r)∧K=[]
def Zyr {b:Ya} {c:Int}:KF prog glob 211 f211 [slc 1 Ze b,i64 c] [] (Zsg b c) (λr=>i64 r) (λ_=>[]):=Ww func211<|.a<|.r [(1,.len Ze b)]<|.p1 [0,1,7,8] 0 (λd=>[.s 8 (i64 d)]) (Sum.elim (λ_=>.n [] 0 []) (λr=>.q (Zyq r)))
 (λf d=>.a<|.i (.a<|.bi 3 Ze<|.a<|.i (.a<|.s 0 [] rfl)
 (.a<|.x1))
 (.u)) (fun
 |.inl ()=>(.n<|.a<|.e 0 [])
 |.inr g=>.r λ_ _ h=>h)
def Zkv {b:Ya} {c:Int}:KF prog glob 147 f147 [slc 1 Ze b,i64 c] [] (Zed b c) (λr=>vb r) (λ_=>[]):=Ww func147<|.a<|.bc 2 Zyr<|.a<|.e 0 []
def Zvd {b:Int}:KF prog glob 302 f302 [u32 b] [] (Znn b) (λr=>vb r) (λ_=>[]):=Ww func302<|.a<|.a<|.e 0 []
def Z0p {b:Int} {c:Int}:KF prog glob 295 f295 [u32 b,u32 c] [] (Zko b c) (λr=>i64 r) (λ_=>[]):=Ww func295<|.a<|.bc 1 Zvd<|.a<|.bc 1 Zvd<|.a<|.a<|.i (.a<|.i (.a<|.e 0 [])
 (.a<|.e 0 []))
 (.a<|.i (.a<|.e 0 [])
 (.a<|.i (.a<|.e 0 [])
 (.a<|.i (.a<|.e 0 [])
 (.a<|.e 0 []))))
def Zx8 {b:Int}:KF prog glob 306 f306 [i64 b] [] (Zqs b) (λr=>vb r) (λ_=>[]):=Ww func306<|.a<|.a<|.e 0 []
def Z4l {b:Int} {c:Int}:KF prog glob 296 f296 [i64 b,i64 c] [] (Zof b c) (λr=>i64 r) (λ_=>[]):=Ww func296<|.a<|.bc 1 Zx8<|.a<|.bc 1 Zx8<|.a<|.a<|.i (.a<|.i (.a<|.e 0 [])
 (.a<|.e 0 []))
 (.a<|.i (.a<|.e 0 [])
 (.a<|.i (.a<|.e 0 [])
 (.a<|.i (.a<|.e 0 [])
 (.a<|.e 0 []))))
def Zabv (r:Int):Exit→St→List Blk→Prop:=FnQ prog f294.results 0 λp K=>p=(i64 r)∧K=[]
def Zabw {b:Ya}:KF prog glob 294 f294 [slc 1 Ze b] [] (Ztx b) (λr=>i64 r) (λ_=>[]):=Ww func294<|.a<|.a<|.r [(1,.len Ze b)]<|.p1 [3,6,7,8] 0 (λc=>[.s 8 (i64 c)]) (Sum.elim (λ_=>.n [3] 0 []) (λr=>.q (Zabv r)))
 (λd c=>.a<|.i (.bi 0 Ze<|.a<|.a<|.i (.a<|.s 0 [] rfl)
 (.a<|.x1))
 (.u)) (fun
 |.inl ()=>(.n<|.a<|.e 0 [])
 |.inr f=>.r λ_ _ h=>h)
def Z4m {b:Zn} {c:Zn}:KF prog glob 252 f252 [Za6 b,Za6 c] [] (Zog b c) (λr=>i64 r) (λ_=>[]):=Ww func252<|.a<|.bc 4 Z0p<|.bc 9 Z4l<|.bc 11 Zabw<|.d [] 12<|.e 0 []
def Z7f (r:Bool):Exit→St→List Blk→Prop:=FnQ prog f197.results 0 λp K=>p=(vb r)∧K=[]
def Z7g {f:Yd}:KF prog glob 197 f197 [slc 4 Zv f] [] (Zty f) (λr=>vb r) (λ_=>[]):=Ww func197<|.a<|.r [(1,.len Zv f)]<|.p1 [0,5,6,7] 0 (λk=>[.s 7 (i64 k)]) (Sum.elim (λ_=>.n [] 0 []) (λr=>.q (Z7f r)))
 (λa0 k=>.a<|.i (.bi 1 Zv<|.a<|.b λa1 g=>.l λp j=>.b λt m=>.to [0,5,6,7] [.s 31 (vb t)] (by
 cases p
 ·obtain⟨v,c,w⟩:=bindb (ifF m rfl)
  replace c:=someb c
  obtain⟨a2,o,⟨⟩⟩:=bindb w;cases v
  ·cases o
   exact .d [(2,.ca Zdz g),(4,.bool j),(7,.bool c)] 20
  obtain⟨a3,x,y⟩:=bindb (ifT o rfl);obtain⟨a4,z,⟨⟩⟩:=bindb y;exact .d [(2,.ca Zdz g),(4,.bool j),(7,.bool c),(11,.idx Zv x),(16,.ca Z4m z)] 20
 cases m
 exact .d [(2,.ca Zdz g),(4,.bool j)] 20)<|.i (.a<|.s 0 [] rfl)
 (.a<|.x1))
 (.u)) (fun
 |.inl ()=>(.n<|.a<|.e 0 [])
 |.inr a5=>.r λ_ _ h=>h)
def Zup {c:Zb} {k:Int} {m:Int}:KF prog glob 198 f198 [Zu c,i64 k,i64 m] [] (Zo1 c k m) (λr=>vb r) (λ_=>[]):=Ww func198<|.a<|.l λp d=>.l λq f=>.b λt i=>.to [] [.s 6 (vb t)] (by
 cases p
 ·subst f
  cases i;exact .r [(2,.bool d)]
 cases q
 ·cases i
  exact .r [(2,.bool d),(6,.len Zx c.Links),(9,.bool f)]
 obtain⟨w,n,j⟩:=bindb (ifT i rfl);obtain⟨u,g,j⟩:=bindb j
 replace g:=someb g
 obtain⟨x,o,⟨⟩⟩:=bindb j;cases u
 ·obtain⟨y,v,⟨⟩⟩:=bindb (ifF o rfl)
  exact .r [(2,.bool d),(6,.len Zx c.Links),(9,.bool f),(13,.idx Zx n),(18,.bool g),(22,.idx Zx v)]
 cases o
 exact .r [(2,.bool d),(6,.len Zx c.Links),(9,.bool f),(13,.idx Zx n),(18,.bool g)])<|.e 0 []
def Ztm (r:Bool):Exit→St→List Blk→Prop:=FnQ prog f143.results 0 λp K=>p=(vb r)∧K=[]
def Zzn {k:Z1} {a0:Int}:KF prog glob 143 f143 [Zbw k,i64 a0] [] (Zjk k a0) (λr=>vb r) (λ_=>[]):=Ww func143<|.a<|.b λp a5=>.b λa1 a6=>.d0 [(5,.idx Z8 a5),(10,.idx Zar a6)] 15 [] [12,13] []<|.bc 4 Zkv<|.a<|.bc 1 Z7g<|.v<|.v<|.v<|.gm λc1 a7=>.gw<|.rc [(5,.len Zv p),(10,.len Ze a1),(13,.len Zj k.Topology.Devices),(18,.bool a7),(20,.len Zv p)] [] []<|.i (.a<|.e 0 [])
 (.r [(1,.len Zv p)]<|.p1 [1,5,7,8,55,56,57] 2 (λa2=>[.s 57 (i64 a2)]) (Sum.elim (λ_=>.n [1,5,7,8] 2 []) (λr=>.q (Ztm r)))
 (λc2 a2=>.a<|.i (.bi 0 Zv<|.a<|.v<|.v<|.gt λc3 a8=>.gw<|.rc [(8,.len Zk k.Topology.Edges)] [(16,.idx Zk a8)] []<|.l λa9 d=>.l λb0 m=>.b λb1 t=>.to [1,5,7,8,55,56,57] [.s 101 (vb b1)] (by
 cases a9
 ·subst m
  obtain⟨w,c,b2⟩:=bindb (ifF t rfl)
  replace c:=someb c
  obtain⟨b3,f,⟨⟩⟩:=bindb b2;cases w
  ·cases f
   exact .r [(2,.bool d),(10,.bool c)]
  obtain⟨b4,x,⟨⟩⟩:=bindb (ifT f rfl);exact .r [(2,.bool d),(10,.bool c),(15,.ca Zup x)]
 cases b0
 ·obtain⟨w,c,b5⟩:=bindb (ifF t rfl)
  replace c:=someb c
  obtain⟨b3,f,⟨⟩⟩:=bindb b5;cases w
  ·cases f
   exact .r [(2,.bool d),(6,.bool m),(10,.bool c)]
  obtain⟨b4,x,⟨⟩⟩:=bindb (ifT f rfl);exact .r [(2,.bool d),(6,.bool m),(10,.bool c),(15,.ca Zup x)]
 cases t
 exact .r [(2,.bool d),(6,.bool m)])<|.i (.a<|.s 0 [] rfl)
 (.a<|.x1))
 (.u)) (fun
 |.inl ()=>(.n<|.r [(1,.len Ze a1)]<|.p1 [1,5,8,103,104,105] 2 (λa3=>[.s 105 (i64 a3)]) (Sum.elim (λ_=>.n [] 2 []) (λr=>.q (Ztm r)))
 (λc4 a3=>.a<|.i (.bi 1 Ze<|.a<|.l λb6 o=>.b λb7 a4=>.to [1,5,8,103,104,105] [.s 126 (vb b7)] (by
 cases b6
 ·cases a4
  exact .r [(2,.bool o)]
 obtain⟨b8,g,y⟩:=bindb (ifT a4 rfl)
 replace g:=someb g
 obtain⟨b9,j,y⟩:=bindb y
 replace j:=someb j
 obtain⟨c5,z,⟨⟩⟩:=bindb y;cases b8
 ·cases b9
  ·obtain⟨c6,c0,⟨⟩⟩:=bindb (ifF z rfl)
   exact .r [(2,.bool o),(4,.bool g),(9,.bool j),(13,.ca Zup c0)]
  cases z;exact .r [(2,.bool o),(4,.bool g),(9,.bool j)]
 subst j;cases z
 exact .r [(2,.bool o),(4,.bool g)])<|.i (.a<|.s 0 [] rfl)
 (.a<|.x1))
 (.u)) (fun
 |.inl ()=>(.n<|.a<|.e 0 [])
 |.inr c7=>.r λ_ _ h=>h))
 |.inr c8=>.r λ_ _ h=>h))
def Zys (r:Bool):Exit→St→List Blk→Prop:=FnQ prog f78.results 0 λp K=>p=(vb r)∧K=[]
def Zyt {b:Z1}:KF prog glob 78 f78 [Zbw b] [] (Znw b) (λr=>vb r) (λ_=>[]):=Ww func78<|.a<|.a<|.bc 3 Z7e<|.v<|.ge λf d=>.gw<|.v<|.v<|.rc [(15,.len Z8 b.Routes),(18,.len Zj b.Topology.Devices),(24,.len Zar b.Labels),(27,.len Zj b.Topology.Devices)] [(9,.ca Zt9 d)] []<|.i (.a<|.e 0 [])
 (.r [(2,.len Zj b.Topology.Devices)]<|.p1 [1,39,40] 2 (λc=>[.s 40 (i64 c)]) (Sum.elim (λ_=>.n [] 2 []) (λr=>.q (Zys r)))
 (λg c=>.a<|.i (.a<|.bc 2 Zzn<|.a<|.i (.a<|.s 0 [] rfl)
 (.a<|.x1))
 (.u)) (fun
 |.inl ()=>(.n<|.a<|.e 0 [])
 |.inr j=>.r λ_ _ h=>h))
def Z3d (r:Bool):Exit→St→List Blk→Prop:=FnQ prog f144.results 0 λp K=>p=(vb r)∧K=[]
def Z3e {b:Zw}:KF prog glob 144 f144 [Zsf b] [] (Znp b) (λr=>vb r) (λ_=>[]):=Ww func144<|.a<|.bc 2 Zrx<|.v<|.ge λk d=>.gw<|.v<|.ge λl f=>.gw<|.v<|.ge λm g=>.gw<|.v<|.rc [(25,.len Zau b.Steers)] [(7,.ca Zrx d),(13,.ca Zx6 f),(19,.ca Zt8 g)] []<|.i (.a<|.e 0 [])
 (.r [(2,.len Zau b.Steers)]<|.p1 [34,35,36] 1 (λc=>[.s 36 (i64 c)]) (Sum.elim (λ_=>.n [] 1 []) (λr=>.q (Z3d r)))
 (λo c=>.a<|.i (.bi 0 Zau<|.a<|.bc 2 Zfj<|.v<|.ge λp j=>.gw<|.rc [] [(7,.ca Zcf j)] []<|.i (.a<|.s 0 [] rfl)
 (.a<|.x1))
 (.u)) (fun
 |.inl ()=>(.n<|.a<|.e 0 [])
 |.inr t=>.r λ_ _ h=>h))
def Z8s (r:Bool):Exit→St→List Blk→Prop:=FnQ prog f79.results 0 λp K=>p=(vb r)∧K=[]
def Z8t {b:Zo}:KF prog glob 79 f79 [Z08 b] [] (Zrs b) (λr=>vb r) (λ_=>[]):=Ww func79<|.a<|.a<|.r [(2,.len Zz b.Ports)]<|.p2 [3,7,8,9] 1 (λc d=>[.s 3 (i64 c),.s 9 (i64 d)]) (Sum.elim (λ_=>.n [] 1 []) (λr=>.q (Z8s r)))
 (λg c d=>.a<|.i (.bi 0 Zz<|.a<|.v<|.v<|.ge λj f=>.gw<|.rc [] [(11,.ca Z3e f)] []<|.i (.a<|.s 0 [] rfl)
 (.a<|.a<|.x2))
 (.u)) (fun
 |.inl ()=>(.n<|.a<|.e 0 [])
 |.inr k=>.r λ_ _ h=>h)
def Zuq (r:Bool):Exit→St→List Blk→Prop:=FnQ prog f42.results 0 λp K=>p=(vb r)∧K=[]
def Zzo {c:Z1}:KF prog glob 42 f42 [Zbw c] [] (Zrt c) (λr=>vb r) (λ_=>[]):=Ww func42<|.a<|.bc 1 Zyt<|.a<|.i (.a<|.e 0 [])
 (.r [(2,.len Zab c.Configs)]<|.p1 [13,14,15] 1 (λd=>[.s 15 (i64 d)]) (Sum.elim (λ_=>.n [] 1 []) (λr=>.q (Zuq r)))
 (λo d=>.a<|.i (.b λj k=>.r [(0,.idx Zab k)]<|.bc 1 Z8t<|.a<|.i (.a<|.s 0 [] rfl)
 (.r [(2,.len Zz j.Ports)]<|.p1 [13,14,15,23,24,25] 2 (λf=>[.s 25 (i64 f)]) (Sum.elim (λ_=>.n [13,14,15] 2 []) (λr=>.q (Zuq r)))
 (λp f=>.a<|.i (.b λl m=>.r [(0,.idx Zz m)]<|.r [(2,.len Zat l.Hides)]<|.p1 [13,14,15,23,24,25,30,31,32] 3 (λg=>[.s 32 (i64 g)]) (Sum.elim (λ_=>.n [13,14,15,23,24,25] 3 []) (λr=>.q (Zuq r)))
 (λt g=>.a<|.i (.bi 0 Zat<|.a<|.a<|.i (.a<|.s 0 [] rfl)
 (.a<|.x1))
 (.u)) (fun
 |.inl ()=>(.n<|.a<|.x1)
 |.inr v=>.r λ_ _ h=>Wbq ⟨rfl,h⟩))
 (.u)) (fun
 |.inl ()=>(.n<|.a<|.x1)
 |.inr w=>.r λ_ _ h=>Wbq ⟨rfl,h⟩)))
 (.u)) (fun
 |.inl ()=>(.n<|.a<|.e 0 [])
 |.inr x=>.r λ_ _ h=>h))
def Zua {b:Zp} {c:Int}:KF prog glob 81 f81 [Zax b,i64 c] [] (Zjl b c) (λr=>vb r) (λ_=>[]):=Ww func81<|.a<|.bc 3 Zkv<|.a<|.e 0 []
def Zx9 {b:Zb} {c:Zp} {d:Int}:KF prog glob 43 f43 [Zu b,Zax c,i64 d] [] (Zqt b c d) (λr=>vb r) (λ_=>[]):=Ww func43<|.a<|.bc 2 Zt9<|.v<|.v<|.v<|.gt λg f=>.gw<|.rc [(11,.len Zj b.Devices)] [(17,.ca Zua f)] []<|.e 0 []
def Z52 {b:Yd} {d:Int}:KF prog glob 82 f82 [slc 4 Zv b,u32 d] [] (Zps b d) (λr=>.tup [Zwd r.1,vb r.2]) (λ_=>[]):=Ww func82<|.a<|.a<|.a<|.r [(1,.len Zv b)]<|.p3 [1,4,6,7,10,11,12] 2 (λf g j=>[.c 1 (Zv f),.s 7 (vb g),.s 12 (i64 j)]) (λ(l,o)=>.n [4,6,7] 2 [.c 1 (Zv l),.s 7 (vb o)])
 (λw f g j=>.a<|.i (.m 2 (λ(p,q)=>.n [1,4,6,7,10,11,12] 2 [.c 1 (Zv p),.s 7 (vb q)]) (.bi 0 Zv<|.a<|.bc 3 Zon<|.v<|.gl λx t=>.gw<|.rc [(7,.bool t)] [] []<|.i (.a<|.k)
 (.k)) (λ(p,q)=>.n<|.a<|.x3))
 (.u)) (λ(l,o)=>.n<|.a<|.e 0 [])
def Z53 {b:Zb} {c:Zp} {d:Int}:KF prog glob 212 f212 [Zu b,Zax c,i64 d] [] (Zs2 b c d) (λr=>vb r) (λ_=>[]):=Ww func212<|.a<|.bi 3 Zx<|.a<|.bc 3 Zkv<|.v<|.gt λi f=>.gw<|.v<|.gt λj g=>.gw<|.rc [] [(9,.ca Zua f),(15,.ca Zua g)] []<|.e 0 []
def Zw1 {b:Zb} {c:Zp} {d:Int}:KF prog glob 150 f150 [Zu b,Zax c,i64 d] [] (Zpt b c d) (λr=>vb r) (λ_=>[]):=Ww func150<|.a<|.bc 2 Zt9<|.v<|.v<|.v<|.gt λg f=>.gw<|.rc [(11,.len Zx b.Links)] [(18,.ca Z53 f)] []<|.e 0 []
def Zabx {b:Z1} {c:Int} {d:Int}:KF prog glob 84 f84 [Zbw b,i64 c,i64 d] [] (Ztz b c d) (λr=>.tup [i64 r.1,vb r.2]) (λ_=>[]):=Ww func84<|.a<|.v<|.ge λg f=>.gw<|.rc [] [(8,.ca Zw1 f)] []<|.i (.a<|.e 0 [])
 (.bi 4 Zx<|.a<|.a<|.e 0 [])
def Zur (r:(Ya×Int)):Exit→St→List Blk→Prop:=FnQ prog f44.results 0 λp K=>p=(.tup [slc 1 Ze r.1,i64 r.2])∧K=[]
def Zzp {j:Z1} {o:Int} {p:Int} {t:Int} {u:Bool}:KF prog glob 44 f44 [Zbw j,i64 o,i64 p,u32 t,vb u] [] (Zru j o p t u) (λr=>.tup [slc 1 Ze r.1,i64 r.2]) (λ_=>[]):=Ww func44<|.a<|.r [(1,.m)]<|.r [(0,.mkM)]<|.p4 [1,2,3,4,5,12,13] 3 (λb d f g=>[.l 1 Ze b,.k 2 (.fm (List.map (entF Z1b Value.bool) d)),.s 1 (i64 f),.s 2 (i64 g)]) (λr=>.q (Zur r))
 (λz b d f g=>.r [(4,.lookM Zy4 Value.bool false d (Zbp.mk f g))]<|.i (.a<|.s 0 [.of Ze b] rfl)
 (.r [(4,.putM Zy4 Value.bool d (Zbp.mk f g) true)]<|.m 1 (Sum.elim (λw=>.n [1,2,3,4,5,12,13] 3 [.s 2 (i64 w)]) (λr=>.q (Zur r))) (.a<|.i (.a<|.i (.a<|.q 0 [.of Ze b] rfl)
 (.a<|.k))
 (.k)) (fun
 |.inl w=>(.n<|.a<|.m 1 (Sum.elim (λx=>.n [1,2,3,4,5,12,13,14] 3 [.s 14 (i64 x)]) (λr=>.q (Zur r))) (.a<|.i (.bi 3 Zar<|.bi 6 Ze<|.a<|.k)
 (.bi 3 Z8<|.bc 6 Z52<|.a<|.v<|.rc [] [] []<|.i (.bi 5 Zk<|.bc 9 Zon<|.a<|.i (.a<|.q 0 [.of Ze b] rfl)
 (.a<|.q 0 [.of Ze b] rfl))
 (.a<|.i (.a<|.k)
 (.k)))) (fun
 |.inl x=>(.n<|.bc 3 Zabx<|.a<|.a<|.i (.a<|.s 0 [.of Ze b] rfl)
 (.a<|.c λy=>.r [(3,.app Ze (λ_=>kR) y)]<|.x4))
 |.inr a0=>.r λ_ _ h=>Wbq ⟨rfl,h⟩))
 |.inr a1=>.r λ_ _ h=>Wbq ⟨rfl,h⟩))) (λa2=>.r λ_ _ h=>h)
def Z8u {b:Z1} {c:Int} {d:Int} {f:Int}:KF prog glob 17 f17 [Zbw b,i64 c,i64 d,u32 f] [] (Zrv b c d f) (λr=>.tup [slc 1 Ze r.1,i64 r.2]) (λ_=>[]):=Ww func17<|.a<|.bc 1 Zzo<|.v<|.ge λj g=>.gw<|.v<|.v<|.rc [(21,.len Zj b.Topology.Devices)] [(9,.ca Zx9 g)] []<|.i (.a<|.e 0 [])
 (.bc 4 Zzp<|.a<|.e 0 [])
def Z54 (r:Bool):Exit→St→List Blk→Prop:=FnQ prog f151.results 0 λp K=>p=(vb r)∧K=[]
def Zlg {f:Yd}:KF prog glob 151 f151 [slc 4 Zv f] [] (Zs3 f) (λr=>vb r) (λ_=>[]):=Ww func151<|.a<|.a<|.p1 [0,3] 0 (λo=>[.s 3 (i64 o)]) (Sum.elim (λ_=>.n [] 0 []) (λr=>.q (Z54 r)))
 (λa2 o=>.r [(2,.len Zv f)]<|.i (.b λa3 g=>.b λa4 j=>.l λv k=>.b λw p=>.to [0,3] [.s 35 (vb w)] (by
 cases v
 ·obtain⟨x,c,y⟩:=bindb (ifF p rfl)
  replace c:=someb c
  obtain⟨a5,t,⟨⟩⟩:=bindb y;cases x
  ·cases t
   exact .d [(2,.idx Zv g),(5,.ca Ze9 j),(7,.bool k),(10,.bool c)] 26
  obtain⟨a6,z,m⟩:=bindb (ifT t rfl);obtain⟨a7,a0,m⟩:=bindb m;obtain⟨a8,a1,⟨⟩⟩:=bindb m;exact .d [(2,.idx Zv g),(5,.ca Ze9 j),(7,.bool k),(10,.bool c),(14,.idx Zv z),(19,.idx Zv a0),(22,.ca Zx2 a1)] 26
 cases p
 exact .d [(2,.idx Zv g),(5,.ca Ze9 j),(7,.bool k)] 26)<|.i (.a<|.s 0 [] rfl)
 (.a<|.x1))
 (.u)) (fun
 |.inl ()=>(.n<|.a<|.e 0 [])
 |.inr a9=>.r λ_ _ h=>h)
def Zus {b:Zb} {c:Int} {d:Int}:KF prog glob 152 f152 [Zu b,i64 c,i64 d] [] (Zo2 b c d) (λr=>vb r) (λ_=>[]):=Ww func152<|.a<|.v<|.v<|.gt λi f=>.gt λj g=>.gw<|.rc [(6,.len Zx b.Links)] [(13,.idx Zx f),(16,.ca Zwy g)] []<|.e 0 []
def Zmq (r:Bool):Exit→St→List Blk→Prop:=FnQ prog f85.results 0 λp K=>p=(vb r)∧K=[]
def Zxi {c:Z1}:KF prog glob 85 f85 [Zbw c] [] (Zmn c) (λr=>vb r) (λ_=>[]):=Ww func85<|.a<|.a<|.bc 3 Zs7<|.v<|.ge λe7 c3=>.gw<|.v<|.v<|.rc [(15,.len Z8 c.Routes),(18,.len Zj c.Topology.Devices),(24,.len Zar c.Labels),(27,.len Zj c.Topology.Devices)] [(9,.ca Zbz c3)] []<|.i (.a<|.e 0 [])
 (.a<|.p1 [1,3,4] 2 (λb5=>[.s 4 (i64 b5)]) (Sum.elim (λ_=>.n [] 2 []) (λr=>.q (Zmq r)))
 (λe8 b5=>.r [(3,.len Zj c.Topology.Devices)]<|.i (.bc 4 Zbu<|.a<|.b λe9 g=>.b λf0 j=>.l λc4 k=>.b λf1 b6=>.l λc5 m=>.b λf2 a6=>.l λc6 o=>.b λc7 p=>.to [1,3,4,5] [.s 94 (vb c7)] (by
 cases c4
 ·obtain⟨a0,a1,⟨⟩⟩:=bindb (ifF b6 rfl)
  cases c5
  ·obtain⟨c8,t,c9⟩:=bindb (ifF a6 rfl)
   replace t:=someb t
   obtain⟨f3,b7,⟨⟩⟩:=bindb c9;cases c8
   ·cases b7
    subst o;obtain⟨a7,a8,⟨⟩⟩:=bindb (ifF p rfl);exact .d [(3,.idx Z8 g),(5,.ca Zlg j),(7,.bool k),(11,.idx Z8 a1),(13,.len Zv a0),(16,.bool m),(18,.bool t),(32,.idx Zar a8),(34,.len Ze a7),(37,.len Zj c.Topology.Devices)] 40
   obtain⟨b8,b9,⟨⟩⟩:=bindb (ifT b7 rfl);cases c6
   ·obtain⟨a7,a8,⟨⟩⟩:=bindb (ifF p rfl)
    exact .d [(3,.idx Z8 g),(5,.ca Zlg j),(7,.bool k),(11,.idx Z8 a1),(13,.len Zv a0),(16,.bool m),(18,.bool t),(22,.idx Z8 b9),(24,.len Zv b8),(28,.bool o),(32,.idx Zar a8),(34,.len Ze a7),(37,.len Zj c.Topology.Devices)] 40
   cases p;exact .d [(3,.idx Z8 g),(5,.ca Zlg j),(7,.bool k),(11,.idx Z8 a1),(13,.len Zv a0),(16,.bool m),(18,.bool t),(22,.idx Z8 b9),(24,.len Zv b8),(28,.bool o)] 40
  cases a6;subst o;cases p;exact .d [(3,.idx Z8 g),(5,.ca Zlg j),(7,.bool k),(11,.idx Z8 a1),(13,.len Zv a0),(16,.bool m)] 40
 cases b6;subst m;cases a6;subst o;cases p
 exact .d [(3,.idx Z8 g),(5,.ca Zlg j),(7,.bool k)] 40)<|.i (.a<|.s 0 [] rfl)
 (.a<|.p1 [1,3,4,5,6] 2 (λc0=>[.s 6 (i64 c0)]) (Sum.elim (λ_=>.n [1,3,4,5] 2 []) (λr=>.q (Zmq r)))
 (λf4 c0=>.b λd0 d1=>.r [(4,.idx Z8 d1),(6,.len Zv d0)]<|.i (.bi 3 Z8<|.bi 6 Zv<|.a<|.v<|.v<|.gt λf5 d2=>.gw<|.rc [(8,.len Zk c.Topology.Edges)] [(16,.idx Zk d2)] []<|.l λd3 w=>.l λd4 a2=>.b λd5 a9=>.to [1,3,4,5,6] [.s 153 (vb d5)] (by
 cases d3
 ·subst a2
  obtain⟨b0,f,d6⟩:=bindb (ifF a9 rfl)
  replace f:=someb f
  obtain⟨d7,x,⟨⟩⟩:=bindb d6;cases b0
  ·cases x
   exact .r [(2,.bool w),(10,.bool f)]
  obtain⟨d8,b1,⟨⟩⟩:=bindb (ifT x rfl);exact .r [(2,.bool w),(10,.bool f),(15,.ca Zus b1)]
 cases d4
 ·obtain⟨b0,f,d9⟩:=bindb (ifF a9 rfl)
  replace f:=someb f
  obtain⟨d7,x,⟨⟩⟩:=bindb d9;cases b0
  ·cases x
   exact .r [(2,.bool w),(6,.bool a2),(10,.bool f)]
  obtain⟨d8,b1,⟨⟩⟩:=bindb (ifT x rfl);exact .r [(2,.bool w),(6,.bool a2),(10,.bool f),(15,.ca Zus b1)]
 cases a9
 exact .r [(2,.bool w),(6,.bool a2)])<|.i (.a<|.s 0 [] rfl)
 (.a<|.x1))
 (.u)) (fun
 |.inl ()=>(.n<|.a<|.p1 [1,3,4,5,9] 2 (λc1=>[.s 9 (i64 c1)]) (Sum.elim (λ_=>.n [1,3,4] 2 []) (λr=>.q (Zmq r)))
 (λf6 c1=>.r [(3,.len Zj c.Topology.Devices)]<|.i (.b λf7 a3=>.b λf8 a4=>.l λe0 a5=>.b λe1 c2=>.to [1,3,4,5,9] [.s 191 (vb e1)] (by
 cases e0
 ·cases c2
  exact .d [(3,.idx Zar a3),(6,.idx Ze a4),(9,.bool a5)] 31
 obtain⟨e2,y,b2⟩:=bindb (ifT c2 rfl)
 replace y:=someb y
 obtain⟨e3,z,b2⟩:=bindb b2
 replace z:=someb z
 obtain⟨f9,b3,⟨⟩⟩:=bindb b2;cases e2
 ·cases e3
  ·obtain⟨g0,e4,b4⟩:=bindb (ifF b3 rfl)
   obtain⟨g1,e5,b4⟩:=bindb b4;obtain⟨g2,e6,⟨⟩⟩:=bindb b4;exact .d [(3,.idx Zar a3),(6,.idx Ze a4),(9,.bool a5),(11,.bool y),(16,.bool z),(22,.idx Zar e4),(25,.idx Ze e5),(27,.ca Zus e6)] 31
  cases b3;exact .d [(3,.idx Zar a3),(6,.idx Ze a4),(9,.bool a5),(11,.bool y),(16,.bool z)] 31
 subst z;cases b3
 exact .d [(3,.idx Zar a3),(6,.idx Ze a4),(9,.bool a5),(11,.bool y)] 31)<|.i (.a<|.s 0 [] rfl)
 (.a<|.x1))
 (.u)) (fun
 |.inl ()=>(.n<|.a<|.x1)
 |.inr g3=>.r λ_ _ h=>Wbq ⟨rfl,h⟩))
 |.inr g4=>.r λ_ _ h=>Wbq ⟨rfl,h⟩)))
 (.u)) (fun
 |.inl ()=>(.n<|.a<|.e 0 [])
 |.inr g5=>.r λ_ _ h=>h))
def Zw2 (r:Bool):Exit→St→List Blk→Prop:=FnQ prog f86.results 0 λp K=>p=(vb r)∧K=[]
def Z55 {j:Zo}:KF prog glob 86 f86 [Z08 j] [] (Zs4 j) (λr=>vb r) (λ_=>[]):=Ww func86<|.a<|.a<|.p1 [1,3] 1 (λm=>[.s 3 (i64 m)]) (Sum.elim (λ_=>.n [] 1 []) (λr=>.q (Zw2 r)))
 (λa8 m=>.r [(3,.len Zz j.Ports)]<|.i (.b λo w=>.r [(3,.idx Zz w)]<|.l λx c=>.l λy f=>.b λz k=>.to [1,3,4] [.s 41 (vb z)] (by
 cases x
 ·cases y
  ·obtain⟨a0,g,a1⟩:=bindb (ifF k rfl)
   replace g:=someb g
   obtain⟨a9,p,⟨⟩⟩:=bindb a1;cases a0
   ·cases p
    exact .d [(3,.bool c),(8,.bool f),(11,.bool g)] 24
   obtain⟨b0,a2,⟨⟩⟩:=bindb (ifT p rfl);exact .d [(3,.bool c),(8,.bool f),(11,.bool g),(16,.idx Zz a2)] 24
  cases k;exact .d [(3,.bool c),(8,.bool f)] 24
 subst f;cases k
 exact .d [(3,.bool c)] 24)<|.i (.a<|.s 0 [] rfl)
 (.bc 2 Zq1<|.v<|.ge λb1 a3=>.gw<|.v<|.ge λb2 a4=>.gw<|.v<|.ge λb3 a5=>.gw<|.v<|.rc [(25,.len Zau o.Steers)] [(7,.ca Zq1 a3),(13,.ca Zx1 a4),(19,.ca Zt5 a5)] []<|.i (.a<|.s 0 [] rfl)
 (.a<|.p1 [1,3,4,5] 2 (λt=>[.s 5 (i64 t)]) (Sum.elim (λ_=>.n [1,3] 2 []) (λr=>.q (Zw2 r)))
 (λb4 t=>.r [(3,.len Zau o.Steers)]<|.i (.bi 3 Zau<|.bc 6 Zci<|.v<|.ge λb5 a6=>.ge λb6 a7=>.gw<|.rc [] [(12,.idx Zau a6),(15,.ca Zae a7)] []<|.i (.a<|.s 0 [] rfl)
 (.a<|.x1))
 (.u)) (fun
 |.inl ()=>(.n<|.a<|.x1)
 |.inr b7=>.r λ_ _ h=>Wbq ⟨rfl,h⟩))))
 (.u)) (fun
 |.inl ()=>(.n<|.a<|.e 0 [])
 |.inr b8=>.r λ_ _ h=>h)
def Zs8 (r:Bool):Exit→St→List Blk→Prop:=FnQ prog f45.results 0 λp K=>p=(vb r)∧K=[]
def Z56 {c:Z1}:KF prog glob 45 f45 [Zbw c] [] (Zpu c) (λr=>vb r) (λ_=>[]):=Ww func45<|.a<|.bc 1 Zxi<|.a<|.i (.a<|.e 0 [])
 (.a<|.p1 [1,3] 1 (λd=>[.s 3 (i64 d)]) (Sum.elim (λ_=>.n [] 1 []) (λr=>.q (Zs8 r)))
 (λp d=>.r [(3,.len Zab c.Configs)]<|.i (.bi 3 Zab<|.bc 5 Z55<|.a<|.i (.a<|.s 0 [] rfl)
 (.a<|.p1 [1,3,4] 1 (λf=>[.s 4 (i64 f)]) (Sum.elim (λ_=>.n [1,3] 1 []) (λr=>.q (Zs8 r)))
 (λt f=>.b λj k=>.r [(4,.idx Zab k),(7,.len Zz j.Ports)]<|.i (.bi 3 Zab<|.b λl m=>.r [(7,.idx Zz m)]<|.a<|.p1 [1,3,4,5,6] 1 (λg=>[.s 6 (i64 g)]) (Sum.elim (λ_=>.n [1,3,4] 1 []) (λr=>.q (Zs8 r)))
 (λw g=>.r [(2,.len Zat l.Hides)]<|.i (.bi 2 Zat<|.v<|.gt λx o=>.gw<|.rc [] [(10,.idx Zat o)] []<|.i (.a<|.s 0 [] rfl)
 (.a<|.x1))
 (.u)) (fun
 |.inl ()=>(.n<|.a<|.x1)
 |.inr y=>.r λ_ _ h=>Wbq ⟨rfl,h⟩))
 (.u)) (fun
 |.inl ()=>(.n<|.a<|.x1)
 |.inr z=>.r λ_ _ h=>Wbq ⟨rfl,h⟩)))
 (.u)) (fun
 |.inl ()=>(.n<|.a<|.e 0 [])
 |.inr a0=>.r λ_ _ h=>h))
def Z4n {f:Yd} {p:Int}:KF prog glob 87 f87 [slc 4 Zv f,u32 p] [] (Zoj f p) (λr=>.tup [Zwd r.1,vb r.2]) (λ_=>[]):=Ww func87<|.a<|.a<|.a<|.p2 [0,1,4,6,7] 1 (λq t=>[.s 6 (i64 q),.s 7 (i64 t)]) (λv=>.n [0,4,6] 1 [.s 6 (i64 v)])
 (λa6 q t=>.r [(2,.len Zv f)]<|.i (.m 2 (λw=>.n [0,1,4,6,7] 1 [.s 6 (i64 w)]) (.b λa7 g=>.b λa8 j=>.l λz o=>.b λa0 x=>.to [0,1,4,6,7] [.s 39 (vb a0)] (by
 cases z
 ·cases x
  exact .d [(2,.idx Zv g),(6,.ca Zdg j),(7,.bool o)] 26
 obtain⟨a1,c,a2⟩:=bindb (ifT x rfl)
 replace c:=someb c
 obtain⟨a9,y,⟨⟩⟩:=bindb a2;cases a1
 ·obtain⟨b0,a3,a4⟩:=bindb (ifF y rfl)
  obtain⟨b1,a5,⟨⟩⟩:=bindb a4;exact .d [(2,.idx Zv g),(6,.ca Zdg j),(7,.bool o),(10,.bool c),(13,.idx Zv a3),(19,.idx Zv a5)] 26
 cases y
 exact .d [(2,.idx Zv g),(6,.ca Zdg j),(7,.bool o),(10,.bool c)] 26)<|.i (.a<|.k)
 (.k)) (λw=>.n<|.a<|.x2))
 (.u)) (λv=>.n<|.a<|.i (.a<|.e 0 [])
 (.bi 2 Zv<|.a<|.e 0 []))
def Zoo (r:(Ya×Int)):Exit→St→List Blk→Prop:=FnQ prog f46.results 0 λp K=>p=(.tup [slc 1 Ze r.1,i64 r.2])∧K=[]
def Z4o {o:Z1} {p:Int} {t:Int} {w:Int} {x:Bool}:KF prog glob 46 f46 [Zbw o,i64 p,i64 t,u32 w,vb x] [] (Zok o p t w x) (λr=>.tup [slc 1 Ze r.1,i64 r.2]) (λ_=>[]):=Ww func46<|.a<|.a<|.r [(1,.m)]<|.r [(3,.m)]<|.p4 [1,2,3,4,5,12,13,14] 4 (λf g j y=>[.l 2 Ze f,.l 3 Zii g,.s 1 (i64 j),.s 2 (i64 y)]) (λr=>.q (Zoo r))
 (λb0 f g j y=>.m 2 (Sum.elim (λz=>.n [1,2,3,4,5,12,13,14] 4 [.s 2 (i64 z)]) (λr=>.q (Zoo r))) (.a<|.i (.a<|.i (.a<|.q 0 [.of Ze f] rfl)
 (.a<|.k))
 (.k)) (fun
 |.inl z=>(.n<|.a<|.m 1 (Sum.elim (λa0=>.n [1,2,3,4,5,12,13,14,15] 4 [.s 15 (i64 a0)]) (λr=>.q (Zoo r))) (.a<|.i (.bi 3 Zar<|.bi 6 Ze<|.a<|.k)
 (.bi 3 Z8<|.bc 6 Z4n<|.a<|.v<|.rc [] [] []<|.i (.bi 4 Zk<|.bc 8 Zdg<|.a<|.i (.a<|.q 0 [.of Ze f] rfl)
 (.a<|.q 0 [.of Ze f] rfl))
 (.a<|.i (.a<|.k)
 (.k)))) (fun
 |.inl a0=>(.n<|.v<|.ge λb1 a3=>.gw<|.rc [] [(7,.ca Ze3 a3)] []<|.i (.a<|.s 0 [.of Ze f] rfl)
 (.b λa4 a5=>.b λa6 a7=>.d [(3,.idx Zx a5),(9,.idx Zx a7)] 15<|.c λa8=>.r [(3,.app Ze (λ_=>kR) a8)]<|.a<|.p1 [1,2,3,4,5,12,13,14,18] 4 (λa1=>[.s 18 (i64 a1)]) (Sum.elim (λ_=>.n [1,2,3,4,5,12,13,14] 4 []) (λr=>.q (Zoo r)))
 (λb2 a1=>.r [(2,.len Zii g)]<|.i (.b λb3 a2=>.r [(2,.idx Zii a2),(3,.ldE Zii a2)]<|.i (.a<|.s 0 [.of Ze (f++[ZI ((ZI (a4.A+a6.B))-j)])] rfl)
 (.a<|.x1))
 (.u)) (fun
 |.inl ()=>(.n<|.c λa9=>.r [(5,.app Zii (λ_=>kR) a9)]<|.x4)
 |.inr b4=>.r λ_ _ h=>Wbq ⟨rfl,h⟩)))
 |.inr b5=>.r λ_ _ h=>Wbq ⟨rfl,h⟩))
 |.inr b6=>.r λ_ _ h=>Wbq ⟨rfl,h⟩)) (λb7=>.r λ_ _ h=>h)
def Z4p {b:Z1} {c:Int} {d:Int} {f:Int}:KF prog glob 18 f18 [Zbw b,i64 c,i64 d,u32 f] [] (Zol b c d f) (λr=>.tup [slc 1 Ze r.1,i64 r.2]) (λ_=>[]):=Ww func18<|.a<|.bc 1 Z56<|.v<|.ge λj g=>.gw<|.v<|.v<|.rc [(21,.len Zj b.Topology.Devices)] [(9,.ca Zbu g)] []<|.i (.a<|.e 0 [])
 (.bc 4 Z4o<|.a<|.e 0 [])
def Z3f (r:Int):Exit→St→List Blk→Prop:=FnQ prog f19.results 0 λp K=>p=(i64 r)∧K=[]
def Z3g {b:Ya} {c:Ya}:KF prog glob 19 f19 [slc 1 Ze b,slc 1 Ze c] [] (Znq b c) (λr=>i64 r) (λ_=>[]):=Ww func19<|.a<|.a<|.p1 [0,1,5] 0 (λf=>[.s 5 (i64 f)]) (Sum.elim (λ_=>.n [0,1] 0 []) (λr=>.q (Z3f r)))
 (λg f=>.v<|.rc [(2,.len Ze b),(7,.len Ze c)] [] []<|.i (.bi 2 Ze<|.bi 6 Ze<|.d [] 9<|.i (.bi 2 Ze<|.bi 6 Ze<|.d [] 9<|.i (.a<|.s 0 [] rfl)
 (.a<|.s 0 [] rfl))
 (.a<|.x1))
 (.u)) (fun
 |.inl ()=>(.n<|.r [(1,.len Ze b),(3,.len Ze c)]<|.i (.a<|.e 0 [])
 (.r [(1,.len Ze b),(3,.len Ze c)]<|.i (.a<|.e 0 [])
 (.a<|.e 0 [])))
 |.inr j=>.r λ_ _ h=>h)
def Zf8 {b:Z1} {c:Int} {d:Int} {f:Int}:KF prog glob 6 f6 [Zbw b,i64 c,i64 d,u32 f] [] (Zf4 b c d f) (λr=>vb r) (λ_=>[]):=Ww func6<|.a<|.bc 4 Z8u<|.a<|.bc 4 Z4p<|.a<|.bc 2 Z3g<|.v<|.rc [] [] []<|.e 0 []
def Zw3 {a:Zc} {b:Zb} {d:Zb} {f:Zb}:KI prog glob f49 [Zu f] [.cells (Zf a),.cells (Z3 b),.cells (Z3 d)] (Zld a b d f) (λr=>.agg [.own 3 (r.1.length),.own 4 (r.2.1.length),.own 5 (r.2.2.1.length),.own 6 (r.2.2.2.1.length),.sc (.int .i64 r.2.2.2.2)]) (λr=>[.cells (Zf a),.cells (Z3 b),.cells (Z3 d),bf 5 125 Zj r.1 false,bf 3 127 Zx r.2.1 false,bf 6 129 Zk r.2.2.1 false,bf 2 70 Zy r.2.2.2.1 false]):=KI.mk1<|.r [(1,.m)]<|.z (.toFar 3)<|.z (.gst (.ownF 4 0 5 125))<|.z (.gst (.ownF 4 1 3 127))<|.z (.gst (.ownF 4 2 6 129))<|.z (.gst (.ownF 4 3 2 70))<|.c λi=>.r [(0,.m),(2,.q),(3,.app Zj (λ_=>kR) i),(5,.m)]<|.c λj=>.r [(0,.m),(2,.q),(3,.app Zx (λ_=>kR) j),(5,.m)]<|.c λk=>.r [(0,.m),(2,.q),(3,.app Zk (λ_=>kR) k),(5,.m)]<|.c λl=>.r [(0,.m),(2,.q),(3,.app Zy (λ_=>kR) l),(5,.m)]<|.r [(0,.q),(1,.m)]<|.z (.kp [2] 13)<|.z (.swap 9 3)<|.z (.swap 10 4)<|.z (.swap 11 5)<|.z (.swap 12 6)<|.g 7
def Zv2 {b:Zc} {d:Zn}:KF prog glob 50 f50 [.ptr 0 0,Za6 d] [.cells (Zf b)] (Zkq b d) (λr=>Za6 r.1) (λr=>[.cells (Zf r.2)]):=Ww func50<|.a<|.m 1 (λ(f,g)=>.n [3,4] 3 [.c 0 (Zf f),.c 1 (Zy g)]) (.bc 1 Zi<|.a<|.a<|.i (.bc 2 Zi<|.bi 3 Ze<|.a<|.k)
 (.a<|.i (.a<|.k)
 (.a<|.i (.a<|.k)
 (.bc 3 Zi<|.c λj=>.d0 [(5,.sh j)] 7 [] [3] []<|.k)))) (λ(f,g)=>.n<|.a<|.e 1 [])
def Zve {a0:Zc} {a1:Zb}:KF prog glob 23 f23 [.ptr 0 0,Zu a1] [.cells (Zf a0)] (Ze8 a0 a1) (λr=>Zu r.1) (λr=>[.cells (Zf r.2)]):=Ww func23<|.a<|.b λf b9=>.r [(1,.inl func49 (KI.run Zw3 _ b9)),(2,.m),(3,.m)]<|.z (.toFar 7)<|.bc 1 Zi<|.a<|.a<|.i (.bc 4 Zi<|.b λa2 c0=>.b λa3 c1=>.c λc2=>.d0 [(1,.q),(5,.idx Zai c0),(8,.ca Zi c1),(12,.app Zj (λ_=>kR) c2),(14,.m)] 13 [] [4,8,12] []<|.z (.share 3)<|.z (.share 4)<|.z (.share 5)<|.z (.share 6)<|.r [(0,.wkP (Z3 (Zb.mk (f.1++[Z5.mk a2 (ZI (a3.1-(1:Int))) false false ByteArray.empty]) f.2.1 f.2.2.1 f.2.2.2.1 f.2.2.2.2)) [.of Zj (f.1++[Z5.mk a2 (ZI (a3.1-(1:Int))) false false ByteArray.empty]),.of Zx f.2.1,.of Zk f.2.2.1,.of Zy f.2.2.2.1] .q)]<|.e 1 [])
 (.a<|.i (.r [(1,.q),(2,.len Zj f.1)]<|.i (.bc 4 Zi<|.b λg c3=>.b λj a4=>.d0 [(1,.q),(5,.idx Zai c3),(7,.idx Zj a4),(8,.fdE Zj f.1 (0:Int)),(9,.stE Zj a4 ({j with Class:=g}:Z5))] 7 [] [4] []<|.z (.pick [4,5])<|.z (.ln 3 (lset f.1 (Int.toNat (0:Int)) ({j with Class:=g}:Z5)))<|.z (.share 3)<|.z (.share 4)<|.z (.share 5)<|.z (.share 6)<|.r [(0,.wkP (Z3 (Zb.mk (List.set f.1 (Int.toNat (0:Int)) ({j with Class:=g}:Z5)) f.2.1 f.2.2.1 f.2.2.2.1 f.2.2.2.2)) [.of Zj (List.set f.1 (Int.toNat (0:Int)) ({j with Class:=g}:Z5)),.of Zx f.2.1,.of Zk f.2.2.1,.of Zy f.2.2.2.1] .q)]<|.e 1 [])
 (.z (.share 3)<|.z (.share 4)<|.z (.share 5)<|.z (.share 6)<|.r [(0,.wkP (Z3 (Zb.mk f.1 f.2.1 f.2.2.1 f.2.2.2.1 f.2.2.2.2)) [.of Zj f.1,.of Zx f.2.1,.of Zk f.2.2.1,.of Zy f.2.2.2.1] .q)]<|.e 1 []))
 (.a<|.i (.b λa5 c4=>.b λa6 c5=>.b λa7 c6=>.c λc7=>.d0 [(1,.q),(3,.ca Zi c4),(6,.ca Zi c5),(8,.ca Zi c6),(11,.app Zx (λ_=>kR) c7),(13,.m)] 12 [] [3,6,8,11] []<|.z (.share 3)<|.z (.share 4)<|.z (.share 5)<|.z (.share 6)<|.r [(0,.wkP (Z3 (Zb.mk f.1 (f.2.1++[Zag.mk (ZI (a5.1-(1:Int))) a6.1 a7.1]) f.2.2.1 f.2.2.2.1 f.2.2.2.2)) [.of Zj f.1,.of Zx (f.2.1++[Zag.mk (ZI (a5.1-(1:Int))) a6.1 a7.1]),.of Zk f.2.2.1,.of Zy f.2.2.2.1] .q)]<|.e 1 [])
 (.a<|.i (.r [(1,.q),(2,.len Zx f.2.1)]<|.i (.bc 4 Zi<|.b λk c8=>.b λl a8=>.d0 [(1,.q),(5,.idx Ze c8),(7,.idx Zx a8),(8,.fdE Zx f.2.1 (0:Int)),(9,.stE Zx a8 ({l with Cost:=k}:Zag))] 7 [] [4] []<|.z (.pick [4,5])<|.z (.ln 4 (lset f.2.1 (Int.toNat (0:Int)) ({l with Cost:=k}:Zag)))<|.z (.share 3)<|.z (.share 4)<|.z (.share 5)<|.z (.share 6)<|.r [(0,.wkP (Z3 (Zb.mk f.1 (List.set f.2.1 (Int.toNat (0:Int)) ({l with Cost:=k}:Zag)) f.2.2.1 f.2.2.2.1 f.2.2.2.2)) [.of Zj f.1,.of Zx (List.set f.2.1 (Int.toNat (0:Int)) ({l with Cost:=k}:Zag)),.of Zk f.2.2.1,.of Zy f.2.2.2.1] .q)]<|.e 1 [])
 (.z (.share 3)<|.z (.share 4)<|.z (.share 5)<|.z (.share 6)<|.r [(0,.wkP (Z3 (Zb.mk f.1 f.2.1 f.2.2.1 f.2.2.2.1 f.2.2.2.2)) [.of Zj f.1,.of Zx f.2.1,.of Zk f.2.2.1,.of Zy f.2.2.2.1] .q)]<|.e 1 []))
 (.a<|.i (.r [(1,.q),(2,.len Zk f.2.2.1)]<|.i (.b λn c9=>.b λo a9=>.d0 [(1,.q),(3,.ca Zi c9),(5,.idx Zk a9),(6,.fdE Zk f.2.2.1 (0:Int)),(7,.stE Zk a9 ({o with Device:=(ZI (n.1-(1:Int)))}:Z2))] 5 [] [3] []<|.z (.pick [4,5])<|.z (.ln 5 (lset f.2.2.1 (Int.toNat (0:Int)) ({o with Device:=(ZI (n.1-(1:Int)))}:Z2)))<|.z (.share 3)<|.z (.share 4)<|.z (.share 5)<|.z (.share 6)<|.r [(0,.wkP (Z3 (Zb.mk f.1 f.2.1 (List.set f.2.2.1 (Int.toNat (0:Int)) ({o with Device:=(ZI (n.1-(1:Int)))}:Z2)) f.2.2.2.1 f.2.2.2.2)) [.of Zj f.1,.of Zx f.2.1,.of Zk (List.set f.2.2.1 (Int.toNat (0:Int)) ({o with Device:=(ZI (n.1-(1:Int)))}:Z2)),.of Zy f.2.2.2.1] .q)]<|.e 1 [])
 (.z (.share 3)<|.z (.share 4)<|.z (.share 5)<|.z (.share 6)<|.r [(0,.wkP (Z3 (Zb.mk f.1 f.2.1 f.2.2.1 f.2.2.2.1 f.2.2.2.2)) [.of Zj f.1,.of Zx f.2.1,.of Zk f.2.2.1,.of Zy f.2.2.2.1] .q)]<|.e 1 []))
 (.a<|.i (.r [(1,.q),(2,.len Zk f.2.2.1)]<|.i (.b λe1 b0=>.b λp d1=>.b λs b1=>.d0 [(1,.q),(3,.q),(4,.len Zk f.2.2.1),(8,.q),(10,.q),(11,.len Zk f.2.2.1),(13,.idx Zk b0),(14,.fdE Zk f.2.2.1 (ZI ((f.2.2.1.length:Int)-(1:Int)))),(15,.ldE Zk b0),(16,.ca Zv2 d1),(17,.idx Zk b1),(18,.fdE Zk f.2.2.1 (ZI ((f.2.2.1.length:Int)-(1:Int)))),(19,.stE Zk b1 ({s with Prefix:=p.1}:Z2))] 17 [] [16] []<|.z (.pick [4,5])<|.z (.ln 5 (lset f.2.2.1 (Int.toNat (ZI ((f.2.2.1.length:Int)-(1:Int)))) ({s with Prefix:=p.1}:Z2)))<|.z (.share 3)<|.z (.share 4)<|.z (.share 5)<|.z (.share 6)<|.r [(0,.wkP (Z3 (Zb.mk f.1 f.2.1 (List.set f.2.2.1 (Int.toNat (ZI ((f.2.2.1.length:Int)-(1:Int)))) ({s with Prefix:=p.1}:Z2)) f.2.2.2.1 f.2.2.2.2)) [.of Zj f.1,.of Zx f.2.1,.of Zk (List.set f.2.2.1 (Int.toNat (ZI ((f.2.2.1.length:Int)-(1:Int)))) ({s with Prefix:=p.1}:Z2)),.of Zy f.2.2.2.1] .q)]<|.e 1 [])
 (.z (.share 3)<|.z (.share 4)<|.z (.share 5)<|.z (.share 6)<|.r [(0,.wkP (Z3 (Zb.mk f.1 f.2.1 f.2.2.1 f.2.2.2.1 f.2.2.2.2)) [.of Zj f.1,.of Zx f.2.1,.of Zk f.2.2.1,.of Zy f.2.2.2.1] .q)]<|.e 1 []))
 (.a<|.i (.r [(1,.q),(2,.len Zk f.2.2.1)]<|.i (.b λt b2=>.b λu b3=>.d [(1,.q),(3,.q),(4,.idx Zk b2),(5,.fdE Zk f.2.2.1 (0:Int)),(6,.ldE Zk b2),(8,.idx Zk b3),(9,.fdE Zk f.2.2.1 (0:Int)),(10,.stE Zk b3 ({u with Planned:=(!t.Planned)}:Z2))] 8<|.z (.pick [4,5])<|.z (.ln 5 (lset f.2.2.1 (Int.toNat (0:Int)) ({u with Planned:=(!t.Planned)}:Z2)))<|.z (.share 3)<|.z (.share 4)<|.z (.share 5)<|.z (.share 6)<|.r [(0,.wkP (Z3 (Zb.mk f.1 f.2.1 (List.set f.2.2.1 (Int.toNat (0:Int)) ({u with Planned:=(!t.Planned)}:Z2)) f.2.2.2.1 f.2.2.2.2)) [.of Zj f.1,.of Zx f.2.1,.of Zk (List.set f.2.2.1 (Int.toNat (0:Int)) ({u with Planned:=(!t.Planned)}:Z2)),.of Zy f.2.2.2.1] .q)]<|.e 1 [])
 (.z (.share 3)<|.z (.share 4)<|.z (.share 5)<|.z (.share 6)<|.r [(0,.wkP (Z3 (Zb.mk f.1 f.2.1 f.2.2.1 f.2.2.2.1 f.2.2.2.2)) [.of Zj f.1,.of Zx f.2.1,.of Zk f.2.2.1,.of Zy f.2.2.2.1] .q)]<|.e 1 []))
 (.a<|.i (.r [(1,.q),(2,.len Zk f.2.2.1)]<|.i (.b λb4 b5=>.c λd2=>.d0 [(1,.q),(3,.q),(4,.idx Zk b5),(5,.ldE Zk b5),(7,.app Zk (λ_=>kR) d2),(9,.m)] 8 [] [5,6,7] []<|.z (.share 3)<|.z (.share 4)<|.z (.share 5)<|.z (.share 6)<|.r [(0,.wkP (Z3 (Zb.mk f.1 f.2.1 (f.2.2.1++[b4]) f.2.2.2.1 f.2.2.2.2)) [.of Zj f.1,.of Zx f.2.1,.of Zk (f.2.2.1++[b4]),.of Zy f.2.2.2.1] .q)]<|.e 1 [])
 (.z (.share 3)<|.z (.share 4)<|.z (.share 5)<|.z (.share 6)<|.r [(0,.wkP (Z3 (Zb.mk f.1 f.2.1 f.2.2.1 f.2.2.2.1 f.2.2.2.2)) [.of Zj f.1,.of Zx f.2.1,.of Zk f.2.2.1,.of Zy f.2.2.2.1] .q)]<|.e 1 []))
 (.a<|.i (.r [(1,.q),(2,.len Zk f.2.2.1)]<|.i (.bc 4 Zi<|.b λv d3=>.b λw b6=>.d0 [(1,.q),(5,.idx Zai d3),(7,.idx Zk b6),(8,.fdE Zk f.2.2.1 (0:Int)),(9,.stE Zk b6 ({w with Zone:=v}:Z2))] 7 [] [4] []<|.z (.pick [4,5])<|.z (.ln 5 (lset f.2.2.1 (Int.toNat (0:Int)) ({w with Zone:=v}:Z2)))<|.z (.share 3)<|.z (.share 4)<|.z (.share 5)<|.z (.share 6)<|.r [(0,.wkP (Z3 (Zb.mk f.1 f.2.1 (List.set f.2.2.1 (Int.toNat (0:Int)) ({w with Zone:=v}:Z2)) f.2.2.2.1 f.2.2.2.2)) [.of Zj f.1,.of Zx f.2.1,.of Zk (List.set f.2.2.1 (Int.toNat (0:Int)) ({w with Zone:=v}:Z2)),.of Zy f.2.2.2.1] .q)]<|.e 1 [])
 (.z (.share 3)<|.z (.share 4)<|.z (.share 5)<|.z (.share 6)<|.r [(0,.wkP (Z3 (Zb.mk f.1 f.2.1 f.2.2.1 f.2.2.2.1 f.2.2.2.2)) [.of Zj f.1,.of Zx f.2.1,.of Zk f.2.2.1,.of Zy f.2.2.2.1] .q)]<|.e 1 []))
 (.a<|.i (.b λb7 d4=>.c λd5=>.d0 [(1,.q),(3,.ca Zpv d4),(5,.app Zy (λ_=>kR) d5),(7,.m)] 6 [] [3,5] []<|.z (.share 3)<|.z (.share 4)<|.z (.share 5)<|.z (.share 6)<|.r [(0,.wkP (Z3 (Zb.mk f.1 f.2.1 f.2.2.1 (f.2.2.2.1++[b7.1]) f.2.2.2.2)) [.of Zj f.1,.of Zx f.2.1,.of Zk f.2.2.1,.of Zy (f.2.2.2.1++[b7.1])] .q)]<|.e 1 [])
 (.a<|.i (.bc 2 Zi<|.b λd6 d7=>.r [(3,.idx Ze d7),(6,.m)]<|.z (.share 3)<|.z (.share 4)<|.z (.share 5)<|.z (.share 6)<|.r [(0,.wkP (Z3 (Zb.mk f.1 f.2.1 f.2.2.1 f.2.2.2.1 d6)) [.of Zj f.1,.of Zx f.2.1,.of Zk f.2.2.1,.of Zy f.2.2.2.1] .q)]<|.e 1 [])
 (.a<|.i (.r [(1,.q),(2,.len Zj f.1)]<|.i (.z (.share 3)<|.c λd8=>.r [(1,.q),(2,.slice Zj f.1 d8),(4,.m)]<|.z (.share 4)<|.z (.share 5)<|.z (.share 6)<|.r [(0,.wkP (Z3 (Zb.mk (List.drop (Int.toNat (1:Int)) (List.take (Int.toNat (f.1.length:Int)) f.1)) f.2.1 f.2.2.1 f.2.2.2.1 f.2.2.2.2)) [.of Zx f.2.1,.of Zk f.2.2.1,.of Zy f.2.2.2.1] .q)]<|.e 1 [])
 (.z (.share 3)<|.z (.share 4)<|.z (.share 5)<|.z (.share 6)<|.r [(0,.wkP (Z3 (Zb.mk f.1 f.2.1 f.2.2.1 f.2.2.2.1 f.2.2.2.2)) [.of Zj f.1,.of Zx f.2.1,.of Zk f.2.2.1,.of Zy f.2.2.2.1] .q)]<|.e 1 []))
 (.a<|.i (.r [(1,.q),(2,.len Zj f.1)]<|.i (.bc 4 Zi<|.b λx d9=>.b λy b8=>.d0 [(1,.q),(5,.idx Ze d9),(7,.idx Zj b8),(8,.fdE Zj f.1 (0:Int)),(9,.stE Zj b8 ({y with Capacity:=x}:Z5))] 7 [] [4] []<|.z (.pick [4,5])<|.z (.ln 3 (lset f.1 (Int.toNat (0:Int)) ({y with Capacity:=x}:Z5)))<|.z (.share 3)<|.z (.share 4)<|.z (.share 5)<|.z (.share 6)<|.r [(0,.wkP (Z3 (Zb.mk (List.set f.1 (Int.toNat (0:Int)) ({y with Capacity:=x}:Z5)) f.2.1 f.2.2.1 f.2.2.2.1 f.2.2.2.2)) [.of Zj (List.set f.1 (Int.toNat (0:Int)) ({y with Capacity:=x}:Z5)),.of Zx f.2.1,.of Zk f.2.2.1,.of Zy f.2.2.2.1] .q)]<|.e 1 [])
 (.z (.share 3)<|.z (.share 4)<|.z (.share 5)<|.z (.share 6)<|.r [(0,.wkP (Z3 (Zb.mk f.1 f.2.1 f.2.2.1 f.2.2.2.1 f.2.2.2.2)) [.of Zj f.1,.of Zx f.2.1,.of Zk f.2.2.1,.of Zy f.2.2.2.1] .q)]<|.e 1 []))
 (.r [(1,.q),(2,.len Zk f.2.2.1)]<|.i (.z (.share 5)<|.c λe0=>.r [(1,.q),(2,.slice Zk f.2.2.1 e0),(4,.m)]<|.z (.share 3)<|.z (.share 4)<|.z (.share 6)<|.r [(0,.wkP (Z3 (Zb.mk f.1 f.2.1 (List.drop (Int.toNat (1:Int)) (List.take (Int.toNat (f.2.2.1.length:Int)) f.2.2.1)) f.2.2.2.1 f.2.2.2.2)) [.of Zj f.1,.of Zx f.2.1,.of Zy f.2.2.2.1] .q)]<|.e 1 [])
 (.z (.share 3)<|.z (.share 4)<|.z (.share 5)<|.z (.share 6)<|.r [(0,.wkP (Z3 (Zb.mk f.1 f.2.1 f.2.2.1 f.2.2.2.1 f.2.2.2.2)) [.of Zj f.1,.of Zx f.2.1,.of Zk f.2.2.1,.of Zy f.2.2.2.1] .q)]<|.e 1 []))))))))))))))
def Zvl {j:Zc} {f:Zp}:KF prog glob 24 f24 [.ptr 0 0,Zax f] [.cells (Zf j)] (Zfo j f) (λr=>Zax r.1) (λr=>[.cells (Zf r.2)]):=Ww func24<|.a<|.c λo=>.c λp=>.to [0,4] [.k 3 (bf 1 3 Ze (([]:Ya)++f.Links) false),.k 4 (bf 1 3 Ze (([]:Ya)++f.Devices) false),.k 5 (.cells [.own 3 (List.length (([]:Ya)++f.Links)),.own 4 (List.length (([]:Ya)++f.Devices))]),.s 5 (.ptr 5 0)] (by
 exact .g [(0,.m),(3,.app Ze (λ_=>kR) o),(4,.m),(7,.app Ze (λ_=>kR) p),(8,.m),(9,.m),(10,.m)] 10 (.e 4 0 (.e 9 0 (.e 4 3 (.e 9 3 (.e 9 4 (.e 9 7 (.d [] [0,3,4,7,9] []) (.d [0,1,2,3,4,5,6,9,7,8] [0,3,4,9,7] [])) (.x [0,1,2,3,5,6,9,4,7,8] [0,3,9,4,7] [(4,5)] 5)) (.x [0,1,2,5,6,9,3,4,7,8] [0,9,3,4,7] [(4,5)] 5)) (.e 9 4 (.e 9 3 (.e 9 7 (.d [0,1,2,4,3,5,6,7,8,9] [0,4,3,7,9] []) (.d [0,1,2,4,3,5,6,9,7,8] [0,4,3,9,7] [])) (.d [0,1,2,4,5,6,9,3,7,8] [0,4,9,3,7] [])) (.x [0,1,2,5,6,9,4,3,7,8] [0,9,4,3,7] [(4,5)] 5))) (.e 4 3 (.x [1,2,5,6,9,0,3,4,7,8] [9,0,3,4,7] [(3,5),(3,4)] 5) (.x [1,2,5,6,9,0,4,3,7,8] [9,0,4,3,7] [(3,5),(3,4)] 5))) (.e 9 4 (.e 9 0 (.e 9 3 (.e 9 7 (.d [1,2,4,0,3,5,6,7,8,9] [4,0,3,7,9] [(3,4)]) (.d [1,2,4,0,3,5,6,9,7,8] [4,0,3,9,7] [(3,4)])) (.d [1,2,4,0,5,6,9,3,7,8] [4,0,9,3,7] [(3,4)])) (.x [1,2,4,5,6,9,0,3,7,8] [4,9,0,3,7] [(3,4),(3,5)] 5)) (.x [1,2,5,6,9,4,0,3,7,8] [9,4,0,3,7] [(3,5)] 5))))<|.z (.toFar 5)<|.bc 1 Zi<|.a<|.a<|.i (.b λl t=>.c λu=>.d0 [(1,.q),(3,.ca Zi t),(6,.app Ze (λ_=>kR) u),(8,.m)] 7 [] [3,6] []<|.z (.share 3)<|.z (.share 4)<|.r [(0,.wkP (Zbb (Zp.mk ((([]:Ya)++f.Links)++[ZI (l.1-(1:Int))]) (([]:Ya)++f.Devices))) [.of Ze ((([]:Ya)++f.Links)++[ZI (l.1-(1:Int))]),.of Ze (([]:Ya)++f.Devices)] .q)]<|.e 1 [])
 (.a<|.i (.b λn v=>.c λw=>.d0 [(1,.q),(3,.ca Zi v),(6,.app Ze (λ_=>kR) w),(8,.m)] 7 [] [3,6] []<|.z (.share 3)<|.z (.share 4)<|.r [(0,.wkP (Zbb (Zp.mk (([]:Ya)++f.Links) ((([]:Ya)++f.Devices)++[ZI (n.1-(1:Int))]))) [.of Ze (([]:Ya)++f.Links),.of Ze ((([]:Ya)++f.Devices)++[ZI (n.1-(1:Int))])] .q)]<|.e 1 [])
 (.a<|.i (.c λy=>.r [(0,.m),(2,.q),(3,.app Ze (λ_=>kR) y),(5,.m)]<|.z (.share 6)<|.z (.share 4)<|.r [(0,.wkP (Zbb (Zp.mk ([(99:Int)]++(([]:Ya)++f.Links)) (([]:Ya)++f.Devices))) [.of Ze ([(99:Int)]++(([]:Ya)++f.Links)),.of Ze (([]:Ya)++f.Devices)] .q)]<|.e 1 [])
 (.c λa0=>.r [(0,.m),(2,.q),(3,.app Ze (λ_=>kR) a0),(5,.m)]<|.z (.share 3)<|.z (.share 6)<|.r [(0,.wkP (Zbb (Zp.mk (([]:Ya)++f.Links) ([(0:Int)]++(([]:Ya)++f.Devices)))) [.of Ze (([]:Ya)++f.Links),.of Ze ([(0:Int)]++(([]:Ya)++f.Devices))] .q)]<|.e 1 [])))
def Zp4 {e4:Zc} {d:Z1}:KF prog glob 9 f9 [.ptr 0 0,Zbw d] [.cells (Zf e4)] (Zjs e4 d) (λr=>Zbw r.1) (λr=>[.cells (Zf r.2)]):=Ww func9<|.a<|.z (.toFar 1)<|.bc 1 Zi<|.a<|.a<|.i (.b λg3 g4=>.r [(2,.q),(3,.ca Zve g4),(5,.m)]<|.r [(0,.wkP (Zbv (Z1.mk g3.1 d.Failure d.Configs d.Routes d.Labels)) [] .q)]<|.e 1 [])
 (.a<|.i (.b λg5 g6=>.r [(2,.q),(3,.ca Zvl g6),(5,.m)]<|.r [(0,.wkP (Zbv (Z1.mk d.Topology g5.1 d.Configs d.Routes d.Labels)) [] .q)]<|.e 1 [])
 (.a<|.i (.b λa2 g7=>.c λg8=>.r [(1,.q),(2,.callC func25 [] Wfi (closedH.t (Zto (λz_=>Wbh (Zbr (row:=Zz) (λ_=>rfl) _) Wbi)) Wfi) ((Zjt).run _ g7)),(3,.m),(4,.litFb),(5,.post (.post (.appT Zq a2 [Zo.mk ([]:Yo)] [.pv (nils)] g8) (.nilA 3 Zq a2 [.pv (nils)] 0 93 6 rfl)) (.eqC 3 (ca:=cellsO Zq a2++[owB 93 6 Zz ([]:Yo)]) (cb:=cellsO Zq (a2++[Zo.mk ([]:Yo)])) (Z2q (m:=[Zo.mk ([]:Yo)])))),(7,.m)]<|.z (.gst (.toBuf 3 Zq Zab (λ_=>rfl) (λz_=>FZs.c (FZ.owB (row:=Zz) (s:=6) (λ_=>rfl) (λ_=>rfl) _) FZs.n) (a2++[Zo.mk ([]:Yo)])))<|.z (.share 3)<|.z (.wkc 1 (Zbv (Z1.mk d.Topology d.Failure (a2++[Zo.mk ([]:Yo)]) d.Routes d.Labels)) [.of Zab (a2++[Zo.mk ([]:Yo)])])<|.a<|.e 1 [])
 (.a<|.i (.b λg9 h0=>.r [(1,.q),(2,.callC func25 [] Wfi (closedH.t (Zto (λz_=>Wbh (Zbr (row:=Zz) (λ_=>rfl) _) Wbi)) Wfi) ((Zjt).run _ h0)),(4,.m)]<|.a<|.z (.kpt [0,3,4,5] 4 [(3,.of Zq g9 (λz_=>Wbh (Zbr (row:=Zz) (λ_=>rfl) _) Wbi))])<|.p7 [0,3,4,5] 4 (λe5 a9 c4 e6 e7 a3 a0=>[.c 0 (Zf e5),.k 1 (.far [.sl 5 (List.map Zj a9.Devices),.sl 3 (List.map Zx a9.Links),.sl 6 (List.map Zk a9.Edges),.sl 2 (List.map Zy a9.Pools),.sc (.int .i64 a9.Tolerate),.sl 1 (List.map Ze c4.Links),.sl 1 (List.map Ze c4.Devices),.own 3 (a3.length),.sl 1 (List.map Z8 e6),.sl 1 (List.map Zar e7)]),.k 3 (.tr 81 1 (a3.length) (cellsO Zq a3)),.s 5 (i64 a0)]) (λ(e8,a4,b9,c5,c6,a5)=>.n [3,4] 4 [.c 0 (Zf e8),.k 1 (.far [.sl 5 (List.map Zj a4.Devices),.sl 3 (List.map Zx a4.Links),.sl 6 (List.map Zk a4.Edges),.sl 2 (List.map Zy a4.Pools),.sc (.int .i64 a4.Tolerate),.sl 1 (List.map Ze b9.Links),.sl 1 (List.map Ze b9.Devices),.own 3 (a5.length),.sl 1 (List.map Z8 c5),.sl 1 (List.map Zar c6)]),.k 3 (.tr 81 1 (a5.length) (cellsO Zq a5))])
 (λi4 e5 a9 c4 e6 e7 a3 a0=>.r [(2,.q),(3,.lenT a3)]<|.i (.a<|.w (.kpt [0,3,4,5,6] 4 [(3,.of Zq a3 (λz_=>Wbh (Zbr (row:=Zz) (λ_=>rfl) _) Wbi))])<|.p7 [0,3,4,5,6] 4 (λe9 f a1 b3 b4 j o=>[.c 0 (Zf e9),.k 1 (.far [.sl 5 (List.map Zj f.Devices),.sl 3 (List.map Zx f.Links),.sl 6 (List.map Zk f.Edges),.sl 2 (List.map Zy f.Pools),.sc (.int .i64 f.Tolerate),.sl 1 (List.map Ze a1.Links),.sl 1 (List.map Ze a1.Devices),.own 3 (j.length),.sl 1 (List.map Z8 b3),.sl 1 (List.map Zar b4)]),.k 3 (.tr 81 1 (j.length) (cellsO Zq j)),.s 6 (i64 o)]) (λ(c7,a6,c0,c8,c9,b0)=>.n [0,3,4,5] 4 [.c 0 (Zf c7),.k 1 (.far [.sl 5 (List.map Zj a6.Devices),.sl 3 (List.map Zx a6.Links),.sl 6 (List.map Zk a6.Edges),.sl 2 (List.map Zy a6.Pools),.sc (.int .i64 a6.Tolerate),.sl 1 (List.map Ze c0.Links),.sl 1 (List.map Ze c0.Devices),.own 3 (b0.length),.sl 1 (List.map Z8 c8),.sl 1 (List.map Zar c9)]),.k 3 (.tr 81 1 (b0.length) (cellsO Zq b0))])
 (λi5 e9 f a1 b3 b4 j o=>.b λi6 f0=>.r [(2,.q),(4,.idxT f0),(5,.fdT),(6,.ldT Zq (λ_=>rfl) f0),(7,.lenL)]<|.i (.b λg c1=>.w (.gst (.takeB 3 Zq (λ_=>rfl) c1 (off:=0) dC Zz (λ_=>rfl) (λ_=>rfl) g.Ports 93 rfl))<|.b λv h1=>.b λx h2=>.b λp h3=>.b λy f1=>.d0 [(1,.q),(3,.idxT c1),(4,.fdT),(5,.ldH Zq (λ_=>rfl) c1 (.own 4 (g.Ports.length))),(7,.ca Zsr h1),(9,.ca Zf5 h2),(11,.ca Zi h3),(17,.idx Zz f1),(18,.fdE Zz g.Ports o),(19,.stE Zz f1 ({y with Hides:=[Zad.mk v x.1 (Za.mk (8:Int) (wrap .u32 ((8:Int)+(wrap .u32 p.1))))]}:Zw))] 17 [] [9,11] []<|.w (.pick [0,3,4,5,6])<|.w (.re (S:=[(0,.ptr 0 0),(3,.ptr 1 0),(4,.ptr 2 0),(5,i64 a0),(6,i64 o)]) (K:=[.cells (Zf p.2),.far [.sl 5 (List.map Zj f.Devices),.sl 3 (List.map Zx f.Links),.sl 6 (List.map Zk f.Edges),.sl 2 (List.map Zy f.Pools),.sc (.int .i64 f.Tolerate),.sl 1 (List.map Ze a1.Links),.sl 1 (List.map Ze a1.Devices),.own 3 (j.length),.sl 1 (List.map Z8 b3),.sl 1 (List.map Zar b4)],.cells (Zbv Z09),.tr 81 1 (j.length) (List.set (cellsO Zq j) (Int.toNat a0*1+0) (.pv (.own 4 (g.Ports.length)))),bf 6 93 Zz (List.set g.Ports (Int.toNat o) ({y with Hides:=[Zad.mk v x.1 (Za.mk (8:Int) (wrap .u32 ((8:Int)+(wrap .u32 p.1))))]}:Zw)) false]) (K':=[.cells (Zf p.2),.far [.sl 5 (List.map Zj f.Devices),.sl 3 (List.map Zx f.Links),.sl 6 (List.map Zk f.Edges),.sl 2 (List.map Zy f.Pools),.sc (.int .i64 f.Tolerate),.sl 1 (List.map Ze a1.Links),.sl 1 (List.map Ze a1.Devices),.own 3 (j.length),.sl 1 (List.map Z8 b3),.sl 1 (List.map Zar b4)],.cells (Zbv Z09),.tr 81 1 (j.length) (List.set (cellsO Zq j) (Int.toNat a0*1+0) (.pv (.own 4 (List.length (List.set g.Ports (Int.toNat o) ({y with Hides:=[Zad.mk v x.1 (Za.mk (8:Int) (wrap .u32 ((8:Int)+(wrap .u32 p.1))))]}:Zw)))))),bf 6 93 Zz (List.set g.Ports (Int.toNat o) ({y with Hides:=[Zad.mk v x.1 (Za.mk (8:Int) (wrap .u32 ((8:Int)+(wrap .u32 p.1))))]}:Zw)) false]) rfl (by simp only[Wa9]))<|.a<|.w (.gst (.giveB 3 4 Zq (λ_=>rfl) c1 (off:=0) dC Zz 6 (List.set g.Ports (Int.toNat o) ({y with Hides:=[Zad.mk v x.1 (Za.mk (8:Int) (wrap .u32 ((8:Int)+(wrap .u32 p.1))))]}:Zw)) 93 (List.length (List.set g.Ports (Int.toNat o) ({y with Hides:=[Zad.mk v x.1 (Za.mk (8:Int) (wrap .u32 ((8:Int)+(wrap .u32 p.1))))]}:Zw))) rfl ({g with Ports:=(List.set g.Ports (Int.toNat o) ({y with Hides:=[Zad.mk v x.1 (Za.mk (8:Int) (wrap .u32 ((8:Int)+(wrap .u32 p.1))))]}:Zw))}:Zo) rfl))<|.w (.pick [0,3,4,5,6])<|.w (.ln 3 (lset j (Int.toNat a0) ({g with Ports:=(List.set g.Ports (Int.toNat o) ({y with Hides:=[Zad.mk v x.1 (Za.mk (8:Int) (wrap .u32 ((8:Int)+(wrap .u32 p.1))))]}:Zw))}:Zo)))<|.w (.kpt [0,3,4,5,6] 4 [(3,.of Zq (List.set j (Int.toNat a0) ({g with Ports:=(List.set g.Ports (Int.toNat o) ({y with Hides:=[Zad.mk v x.1 (Za.mk (8:Int) (wrap .u32 ((8:Int)+(wrap .u32 p.1))))]}:Zw))}:Zo)) (λz_=>Wbh (Zbr (row:=Zz) (λ_=>rfl) _) Wbi))])<|.xo (p.2,f,a1,b3,b4,List.set j (Int.toNat a0) ({g with Ports:=(List.set g.Ports (Int.toNat o) ({y with Hides:=[Zad.mk v x.1 (Za.mk (8:Int) (wrap .u32 ((8:Int)+(wrap .u32 p.1))))]}:Zw))}:Zo),ZI (o+(1:Int))))
 (.w (.kpt [0,3,4,5] 4 [(3,.of Zq j (λz_=>Wbh (Zbr (row:=Zz) (λ_=>rfl) _) Wbi))])<|.u0)) (λ(c7,a6,c0,c8,c9,b0)=>.n<|.a<|.w (.kpt [0,3,4,5] 4 [(3,.of Zq b0 (λz_=>Wbh (Zbr (row:=Zz) (λ_=>rfl) _) Wbi))])<|.xo (c7,a6,c0,c8,c9,b0,ZI (a0+(1:Int)))))
 (.w (.kpt [3,4] 4 [(3,.of Zq a3 (λz_=>Wbh (Zbr (row:=Zz) (λ_=>rfl) _) Wbi))])<|.u0)) (λ(e8,a4,b9,c5,c6,a5)=>.n<|.z (.gst (.toBuf 3 Zq Zab (λ_=>rfl) (λz_=>FZs.c (FZ.owB (row:=Zz) (s:=6) (λ_=>rfl) (λ_=>rfl) _) FZs.n) a5))<|.z (.share 3)<|.z (.wkc 1 (Zbv (Z1.mk a4 b9 a5 c5 c6)) [.of Zab a5])<|.a<|.e 1 []))
 (.a<|.i (.c λh4=>.r [(0,.m),(2,.q),(3,.app Z8 (λ_=>kR) h4),(5,.m)]<|.a<|.p7 [0,3,4,7] 4 (λf2 b1 d1 f3 f4 b5 d2=>[.l 3 Z8 b5,.c 0 (Zf f2),.k 1 (.far [.sl 5 (List.map Zj b1.Devices),.sl 3 (List.map Zx b1.Links),.sl 6 (List.map Zk b1.Edges),.sl 2 (List.map Zy b1.Pools),.sc (.int .i64 b1.Tolerate),.sl 1 (List.map Ze d1.Links),.sl 1 (List.map Ze d1.Devices),.sl 1 (List.map Zab f3),.own 3 (b5.length),.sl 1 (List.map Zar f4)]),.s 7 (i64 d2)]) (λ(f5,a7,c2,d3,d4,b6)=>.n [3,4] 4 [.l 3 Z8 b6,.c 0 (Zf f5),.k 1 (.far [.sl 5 (List.map Zj a7.Devices),.sl 3 (List.map Zx a7.Links),.sl 6 (List.map Zk a7.Edges),.sl 2 (List.map Zy a7.Pools),.sc (.int .i64 a7.Tolerate),.sl 1 (List.map Ze c2.Links),.sl 1 (List.map Ze c2.Devices),.sl 1 (List.map Zab d3),.own 3 (b6.length),.sl 1 (List.map Zar d4)])])
 (λi7 f2 b1 d1 f3 f4 b5 d2=>.r [(2,.q),(3,.len Z8 b5)]<|.i (.b λd5 f6=>.c λh5=>.b λd6 h6=>.b λd7 h7=>.b λd8 h8=>.c λh9=>.b λi8 f7=>.d0 [(1,.q),(3,.m),(5,.q),(7,.idx Z8 f6),(8,.ldE Z8 f6),(9,.app Zv (λ_=>kR) h5),(11,.ca Zpv h6),(13,.ca Zi h7),(16,.ca Zi h8),(20,.app Zv (λ_=>kR) h9),(21,.idx Z8 f7),(22,.rd (.pre (.share 4) (.wkO 4 Zv ((([]:Yd)++d5)++[Zg.mk d6.1 (d7.1==(0:Int)) (ZI (d8.1-(1:Int)))]) (.stE Z8 f7 ((([]:Yd)++d5)++[Zg.mk d6.1 (d7.1==(0:Int)) (ZI (d8.1-(1:Int)))])))))] 21 [] [3,9,11,13,16,20] []<|.w (.pick [0,3,4,7])<|.w (.ln 3 (lset b5 (Int.toNat d2) ((([]:Yd)++d5)++[Zg.mk d6.1 (d7.1==(0:Int)) (ZI (d8.1-(1:Int)))])))<|.a<|.x7)
 (.u)) (λ(f5,a7,c2,d3,d4,b6)=>.n<|.z (.share 3)<|.r [(0,.wkP (Zbv (Z1.mk a7 c2 d3 b6 d4)) [.of Z8 b6] .q)]<|.e 1 []))
 (.a<|.i (.c λi0=>.r [(0,.m),(2,.q),(3,.app Zar (λ_=>kR) i0),(5,.m)]<|.a<|.p6 [3,4,8] 4 (λb2 d9 f8 g0 b7 e0=>[.l 3 Zar b7,.k 1 (.far [.sl 5 (List.map Zj b2.Devices),.sl 3 (List.map Zx b2.Links),.sl 6 (List.map Zk b2.Edges),.sl 2 (List.map Zy b2.Pools),.sc (.int .i64 b2.Tolerate),.sl 1 (List.map Ze d9.Links),.sl 1 (List.map Ze d9.Devices),.sl 1 (List.map Zab f8),.sl 1 (List.map Z8 g0),.own 3 (b7.length)]),.s 8 (i64 e0)]) (λ(a8,c3,e1,e2,b8)=>.n [3,4] 4 [.l 3 Zar b8,.k 1 (.far [.sl 5 (List.map Zj a8.Devices),.sl 3 (List.map Zx a8.Links),.sl 6 (List.map Zk a8.Edges),.sl 2 (List.map Zy a8.Pools),.sc (.int .i64 a8.Tolerate),.sl 1 (List.map Ze c3.Links),.sl 1 (List.map Ze c3.Devices),.sl 1 (List.map Zab e1),.sl 1 (List.map Z8 e2),.own 3 (b8.length)])])
 (λi9 b2 d9 f8 g0 b7 e0=>.r [(2,.q),(3,.len Zar b7)]<|.i (.b λe3 g1=>.c λi1=>.c λi2=>.b λj0 g2=>.d0 [(1,.q),(3,.m),(5,.q),(7,.idx Zar g1),(8,.ldE Zar g1),(9,.app Ze (λ_=>kR) i1),(11,.app Ze (λ_=>kR) i2),(12,.idx Zar g2),(13,.rd (.pre (.share 4) (.wkO 4 Ze ((([]:Ya)++e3)++[(-1:Int)]) (.stE Zar g2 ((([]:Ya)++e3)++[(-1:Int)])))))] 12 [] [3,9,11] []<|.w (.pick [3,4,8])<|.w (.ln 3 (lset b7 (Int.toNat e0) ((([]:Ya)++e3)++[(-1:Int)])))<|.a<|.x6)
 (.u)) (λ(a8,c3,e1,e2,b8)=>.n<|.z (.share 3)<|.r [(0,.wkP (Zbv (Z1.mk a8 c3 e1 e2 b8)) [.of Zar b8] .q)]<|.e 1 []))
 (.r [(1,.q),(2,.len Zar d.Labels)]<|.i (.c λi3=>.r [(1,.q),(2,.slice Zar d.Labels i3),(4,.m)]<|.r [(0,.wkP (Zbv (Z1.mk d.Topology d.Failure d.Configs d.Routes (List.drop (Int.toNat (1:Int)) (List.take (Int.toNat (d.Labels.length:Int)) d.Labels)))) [] .q)]<|.e 1 [])
 (.r [(0,.wkP (Zbv (Z1.mk d.Topology d.Failure d.Configs d.Routes d.Labels)) [] .q)]<|.e 1 [])))))))
def Zyu (r:Bool):Exit→St→List Blk→Prop:=FnQ prog f3.results 0 λp K=>p=(vb r)∧K=[]
end
end
end Go.AM

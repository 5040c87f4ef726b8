/- Parts of a proof, printed short. No condition. -/
import Derived.Test.YtibpgdnenoehfaaGreatDoorProg
import Derived.Test.YtibpgdnenoehfaaGreatDoorDQ6
set_option maxRecDepth 100000
set_option linter.all false
namespace Go.AM
noncomputable section
open Go
open Go.Proofs.Tryz
open Go.IntKind(wrap)
section
open Go.Proofs
def glob:Glob:=[(0,Z7m Zmy)]
def Zacs {b:Ya}:KF prog glob 4 f4 [slc 1 Ze b] [] (Ztr b) (λ_=>.ptr 0 0) (λr=>[.cells (Zf r)]):=Wv func4<|.a<|.a<|.e 1 []
def Z3p {b:Int} {d:Int}:KF prog glob 47 f47 [i64 b,i64 d] [] (Zq4 b d) (λr=>i64 r) (λ_=>[]):=Wv func47<|.a<|.c λf=>.r [(4,.rem f)]<|.e 0 []
def Zj {b:Zc} {c:Int}:KF prog glob 16 f16 [.ptr 0 0,i64 c] [.cells (Zf b)] (Zg b c) (λr=>i64 r.1) (λr=>[.cells (Zf r.2)]):=Wv func16<|.a<|.l λf g=>.to [0,1] [.s 18 (vb (f||(decide (b.f_i≥(b.f_l.length:Int)))))] (by
 cases f
 ·exact .d [(2,.bool g),(11,.len Ze b.f_l)] 14
 exact .d [(2,.bool g)] 14)<|.i (.a<|.e 1 [])
 (.a<|.bi 9 Ze<|.bc 12 Z3p<|.d [] 13<|.e 1 [])
def Zqr {b:Int}:KF prog glob 52 f52 [i64 b] [] (Zey b) (λr=>Za4 r) (λ_=>[]):=Wv func52<|.a<|.bc 8 Z3p<|.bi 9 Zu<|.a<|.e 0 []
def Zy7 {w:Zc} {x:Int}:KF prog glob 37 f37 [.ptr 0 0,i64 x] [.cells (Zf w)] (Zn1 w x) (λr=>Zv r.1) (λr=>[.cells (Zf r.2)]):=Wv func37<|.a<|.r [(0,.m)]<|.z (.gst (.ownF 2 0 5 132))<|.z (.gst (.ownF 2 1 3 134))<|.z (.gst (.ownF 2 2 6 136))<|.z (.gst (.ownF 2 3 2 90))<|.bc 3 Zj<|.a<|.a<|.p5 [0,1,4,5,6] 7 (λy a0 a1 a2 a3=>[.l 3 Zh a1,.l 4 Zx a2,.c 0 (Zf y),.f 2 4 (.sc (.int .i64 a0)),.s 6 (i64 a3)]) (λ(a4,a5,j,a6)=>.n [0,1,4,5] 7 [.l 3 Zh j,.l 4 Zx a6,.c 0 (Zf a4),.f 2 4 (.sc (.int .i64 a5))])
 (λe0 y a0 a1 a2 a3=>.a<|.i (.m 2 (λ(a7,a8,a9)=>.n [0,1,4,5,6] 7 [.l 3 Zh a8,.l 4 Zx a9,.c 0 (Zf a7)]) (.b λc5 c6=>.b λc7 c8=>.b λc9 d1=>.to [0,1,4,5,6] [.c 0 (Zf c7.2),.k 7 (.cells (Zh (Z5.mk c5 c9 false false ByteArray.empty))),.s 7 (.ptr 7 0)] (by
 exact .g [(2,.idx Zaj c6),(6,.ca Zj c8),(7,.idx Ze d1)] 11 (.e 10 6 (.d [] [6,10] []) (.d [0,1,2,3,4,5,10,6,7,8,9] [10,6] [])))<|.bc 1 Zj<|.bc 4 Zj<|.a<|.bc 2 Zj<|.bi 3 Zaj<|.a<|.c λd2=>.r [(1,.q),(4,.app Zh (λ_=>kR) d2),(6,.m)]<|.a<|.i (.bc 4 Zj<|.bc 8 Zj<|.bi 9 Ze<|.c λd3=>.d0 [(1,.q),(13,.app Zx (λ_=>kR) d3),(15,.m)] 14 [] [4,8,13] []<|.k)
 (.k)) (λ(a7,a8,a9)=>.n<|.a<|.x5))
 (.u)) (λ(a4,a5,j,a6)=>.n<|.bc 1 Zj<|.a<|.p4 [0,1,4,5,8] 7 (λb0 b1 b2 b3=>[.l 4 Zx b2,.c 0 (Zf b0),.f 2 4 (.sc (.int .i64 b1)),.s 8 (i64 b3)]) (λ(b4,b5,o)=>.n [0,1,4,5] 7 [.l 4 Zx o,.c 0 (Zf b4),.f 2 4 (.sc (.int .i64 b5))])
 (λe1 b0 b1 b2 b3=>.v<|.rc [] [] []<|.i (.bc 3 Zj<|.a<|.bc 4 Zj<|.bc 8 Zj<|.bi 9 Ze<|.c λd4=>.d0 [(1,.q),(13,.app Zx (λ_=>kR) d4),(15,.m)] 14 [] [4,8,13] []<|.a<|.x4)
 (.u)) (λ(b4,b5,o)=>.n<|.bc 2 Zj<|.bi 3 Ze<|.a<|.a<|.p4 [0,1,4,5,10,11] 7 (λb6 b7 b8 b9=>[.l 5 Zk b8,.c 0 (Zf b6),.f 2 4 (.sc (.int .i64 b7)),.s 11 (i64 b9)]) (λ(c0,c1,p)=>.n [0,4,5] 7 [.l 5 Zk p,.c 0 (Zf c0),.f 2 4 (.sc (.int .i64 c1))])
 (λe2 b6 b7 b8 b9=>.a<|.i (.bi 4 Zaj<|.bc 8 Zj<|.bc 11 Zj<|.bi 12 Zaj<|.bc 15 Zqr<|.c λd5=>.d0 [(1,.q),(18,.app Zk (λ_=>kR) d5),(20,.m)] 19 [] [8,11,15,18] []<|.a<|.x4)
 (.u)) (λ(c0,c1,p)=>.n<|.m 1 (λ(c2,c3)=>.n [0,4,5] 7 [.l 6 Zu c3,.c 0 (Zf c2)]) (.bc 1 Zj<|.a<|.i (.c λd6=>.r [(1,.q),(4,.app Zu (λ_=>kR) d6),(6,.m)]<|.k)
 (.k)) (λ(c2,c3)=>.n<|.m 1 (λ(c4,t)=>.n [0,4,5] 7 [.l 6 Zu t,.c 0 (Zf c4)]) (.bc 1 Zj<|.a<|.i (.c λd7=>.r [(1,.q),(4,.app Zu (λ_=>kR) d7),(6,.m)]<|.k)
 (.k)) (λ(c4,t)=>.n<|.bc 2 Zj<|.b λd8 d9=>.r [(3,.idx Ze d9),(6,.m)]<|.z (.share 3)<|.z (.share 4)<|.z (.share 5)<|.z (.share 6)<|.r [(0,.wkP (Z3 (Zb.mk j o p t d8)) [.of Zh j,.of Zx o,.of Zk p,.of Zu t] .q)]<|.e 1 [])))))
def Zzm {b:Int}:KF prog glob 110 f110 [i64 b] [] (Zou b) (λr=>u64 r) (λ_=>[]):=Wv func110<|.a<|.c λd=>.r [(3,.sh d)]<|.e 0 []
def Ze3 {i:Zl}:KF prog glob 109 f109 [Za4 i] [] (Zcs i) (λr=>vb r) (λ_=>[]):=Wv func109<|.a<|.l λj c=>.l λk f=>.b λm g=>.to [] [.s 2 (vb m)] (by
 cases j
 ·subst f
  cases g;exact .d [(3,.bool c)] 18
 cases k
 ·cases g
  exact .d [(3,.bool c),(8,.bool f)] 18
 obtain⟨q,n,o⟩:=bindb (ifT g rfl);obtain⟨p,⟨⟩⟩:=chkb o
 exact .d [(3,.bool c),(8,.bool f),(14,.ca Zzm n),(15,.rem p)] 18)<|.e 0 []
def Zek {b:Zl}:KF prog glob 53 f53 [Za4 b] [] (Za5 b) (λr=>.tup [Zk8 r.1,vb r.2]) (λ_=>[]):=Wv func53<|.a<|.bc 1 Ze3<|.a<|.i (.a<|.e 0 [])
 (.bc 7 Zzm<|.d [] 12<|.e 0 [])
def Zin {b:Zc}:KF prog glob 23 f23 [.ptr 0 0] [.cells (Zf b)] (Zc7 b) (λr=>u32 r.1) (λr=>[.cells (Zf r.2)]):=Wv func23<|.a<|.bc 1 Zj<|.a<|.i (.bc 2 Zj<|.bi 3 Ziv<|.a<|.e 1 [])
 (.bc 1 Zj<|.bc 2 Zqr<|.a<|.bc 1 Zek<|.a<|.bc 15 Zj<|.bi 16 Ziv<|.d0 [] 18 [] [15] []<|.e 1 [])
def Zpy {b:Zc}:KF prog glob 24 f24 [.ptr 0 0] [.cells (Zf b)] (Zgd b) (λr=>Za4 r.1) (λr=>[.cells (Zf r.2)]):=Wv func24<|.a<|.bc 1 Zj<|.a<|.i (.bc 1 Zj<|.bc 2 Zqr<|.a<|.e 1 [])
 (.bc 2 Zj<|.bi 3 Ze<|.a<|.bc 1 Zin<|.a<|.m 1 (λd=>.n [2,4] 3 [.c 2 (Zu d)]) (.a<|.i (.c λf=>.c λg=>.r [(5,.sh f),(9,.sh g)]<|.k)
 (.k)) (λd=>.n<|.a<|.e 1 []))
def Zkv {b:Zc} {c:Int}:KF prog glob 88 f88 [.ptr 0 0,u32 c] [.cells (Zf b)] (Zdd b c) (λr=>u32 r.1) (λr=>[.cells (Zf r.2)]):=Wv func88<|.a<|.bc 7 Zj<|.bi 8 Ziv<|.a<|.a<|.e 1 []
def Zqb {b:Zc} {c:Int}:KF prog glob 85 f85 [.ptr 0 0,u32 c] [.cells (Zf b)] (Ze4 b c) (λr=>Zk8 r.1) (λr=>[.cells (Zf r.2)]):=Wv func85<|.a<|.bc 2 Zkv<|.bc 5 Zkv<|.a<|.a<|.e 1 []
def Zx8 {b:ByteArray} {f:Int}:KF prog glob 293 f293 [vstr b,u8 f] [] (Zqe b f) (λr=>slc 1 Zaj r) (λ_=>[]):=Wv func293<|.a<|.a<|.z (.own 5 1 9)<|.a<|.a<|.p3 [0,1,5,6,7] 1 (λg j o=>[.l 0 Zaj g,.s 6 (i64 j),.s 7 (i64 o)]) (λd=>.n [5] 1 [.l 0 Zaj d])
 (λy g j o=>.a<|.i (.m 2 (λ(p,q)=>.n [0,1,5,6,7] 1 [.l 0 Zaj p,.s 6 (i64 q)]) (.v<|.ge λa0 t=>.gw<|.rc [] [(7,.str t)] []<|.i (.c λw=>.c λx=>.r [(4,.subS (s:=b) w),(6,.app Zaj (λ_=>kR) x)]<|.a<|.k)
 (.k)) (λ(p,q)=>.n<|.a<|.x3))
 (.u)) (λd=>.n<|.a<|.e 0 [.of Zaj d])
def Zzn:KF prog glob 329 f329 [] [] (Zum) (λr=>slc 1 Zaj r) (λ_=>[]):=Wv func329<|.a<|.a<|.e 0 []
def Zabf (r:Int):Exit→St→List Blk→Prop:=FnQ prog f294.results 0 λp K=>p=(i64 r)∧K=[]
def Z1v {c:ByteArray}:KF prog glob 294 f294 [vstr c] [] (Zsj c) (λr=>i64 r) (λ_=>[]):=Wv func294<|.a<|.b λf g=>.r [(0,.ca Zzn g)]<|.a<|.p1 [0,3,4] 0 (λd=>[.s 4 (i64 d)]) (Sum.elim (λ_=>.n [] 0 []) (λr=>.q (Zabf r)))
 (λj d=>.r [(2,.len Zaj f)]<|.i (.bi 2 Zaj<|.a<|.i (.a<|.s 0 [] rfl)
 (.a<|.x1))
 (.u)) (fun
 |.inl ()=>(.n<|.a<|.e 0 [])
 |.inr k=>.r λ_ _ h=>h)
def Z9h {c:ByteArray}:KF prog glob 228 f228 [vstr c] [] (Zun c) (λr=>.tup [i64 r.1,i64 r.2]) (λ_=>[]):=Wv func228<|.a<|.b λf g=>.r [(1,.ca Zx8 g)]<|.r [(1,.len Zaj f)]<|.i (.a<|.e 0 [])
 (.bi 1 Zaj<|.bc 3 Z1v<|.bi 8 Zaj<|.bc 10 Z1v<|.d [(6,.len Zaj f)] 12<|.v<|.rc [] [] []<|.i (.a<|.e 0 [])
 (.a<|.e 0 []))
def Z1w {c:ByteArray}:KF prog glob 330 f330 [vstr c] [] (Zsk c) (λr=>i64 r) (λ_=>[]):=Wv func330<|.a<|.v<|.ge λx3 f=>.gw<|.v<|.ge λn g=>.gw<|.v<|.ge λo j=>.gw<|.v<|.ge λp k=>.gw<|.rc [] [(5,.str f),(10,.str g),(15,.str j),(20,.str k)] []<|.i (.a<|.e 0 [])
 (.b λq l=>.b λs m=>.d [(1,.str l),(6,.str m)] 10<|.e 0 [])
def Zx9 {b:ByteArray}:KF prog glob 295 f295 [vstr b] [] (Zqf b) (λr=>i64 r) (λ_=>[]):=Wv func295<|.a<|.a<|.i (.a<|.e 0 [])
 (.v<|.ge λx3 f=>.gw<|.rc [] [(5,.str f)] []<|.i (.a<|.e 0 [])
 (.c λg=>.bc 2 Z1w<|.c λj=>.bc 5 Z1w<|.d [(1,.subS (s:=b) g),(4,.subS (s:=b) j)] 7<|.v<|.v<|.v<|.rc [] [] []<|.i (.a<|.e 0 [])
 (.a<|.e 0 [])))
def Z7p {c:ByteArray}:KF prog glob 229 f229 [vstr c] [] (Zts c) (λr=>.tup [i64 r.1,i64 r.2]) (λ_=>[]):=Wv func229<|.a<|.b λf g=>.r [(1,.ca Zx8 g)]<|.r [(1,.len Zaj f)]<|.i (.a<|.e 0 [])
 (.bi 1 Zaj<|.bc 3 Zx9<|.bi 5 Zaj<|.bc 7 Zx9<|.d [] 9<|.v<|.rc [] [] []<|.i (.a<|.e 0 [])
 (.a<|.e 0 []))
def Zwu {b:Ya} {f:Int} {g:Int}:KF prog glob 359 f359 [slc 1 Zb4 b,u64 f,u32 g] [] (Zhz b f g) (λr=>slc 1 Zb4 r) (λ_=>[]):=Wv func359<|.a<|.a<|.i (.a<|.e 0 [])
 (.a<|.p1 [0,1,7] 0 (λj=>[.s 7 (i64 j)]) (λd=>.n [0,1,7] 0 [.s 7 (i64 d)])
 (λx j=>.v<|.gt λy k=>.gw<|.rc [(2,.len Zb4 b)] [(7,.idx Zb4 k)] []<|.i (.a<|.x1)
 (.u)) (λd=>.n<|.v<|.gt λz l=>.gw<|.rc [(2,.len Zb4 b)] [(7,.idx Zb4 l)] []<|.i (.a<|.e 0 [])
 (.c λo=>.c λp=>.c λq=>.c λt=>.c λw=>.d0 [(0,.m),(3,.slice Zb4 b o),(4,.app Zb4 (λ_=>kR) p),(7,.app Zb4 (λ_=>kR) q),(10,.slice Zb4 b t),(11,.app Zb4 (λ_=>kR) w)] 12 [] [0,4,7,11] []<|.e 0 [.of Zb4 (((([]:Ya)++(List.drop (Int.toNat (0:Int)) (List.take (Int.toNat d) b)))++[f])++(List.drop (Int.toNat d) (List.take (Int.toNat (b.length:Int)) b)))])))
def Zwv {b:Yc} {c:Int}:KF prog glob 331 f331 [slc 2 Zn b,u32 c] [] (Zh0 b c) (λr=>slc 1 Zb4 r) (λ_=>[]):=Wv func331<|.a<|.a<|.a<|.p2 [0,1,5,6] 0 (λf g=>[.s 5 (slc 1 Zb4 f),.s 6 (i64 g)]) (λj=>.n [5] 0 [.s 5 (slc 1 Zb4 j)])
 (λo f g=>.r [(2,.len Zn b)]<|.i (.m 2 (λl=>.n [0,1,5,6] 0 [.s 5 (slc 1 Zb4 l)]) (.bi 2 Zn<|.bi 7 Zn<|.d [] 11<|.i (.bi 3 Zn<|.bc 8 Zwu<|.bi 11 Zn<|.bc 17 Zwu<|.d [] 18<|.k)
 (.k)) (λl=>.n<|.a<|.x2))
 (.u)) (λj=>.n<|.a<|.e 0 [])
def Z3q (r:Bool):Exit→St→List Blk→Prop:=FnQ prog f332.results 0 λp K=>p=(vb r)∧K=[]
def Zrd {b:Yc} {c:Int}:KF prog glob 332 f332 [slc 2 Zn b,u32 c] [] (Zfq b c) (λr=>vb r) (λ_=>[]):=Wv func332<|.a<|.a<|.p1 [0,1,5] 0 (λd=>[.s 5 (i64 d)]) (Sum.elim (λ_=>.n [] 0 []) (λr=>.q (Z3q r)))
 (λg d=>.r [(2,.len Zn b)]<|.i (.bi 2 Zn<|.v<|.gt λj f=>.gw<|.rc [] [(11,.idx Zn f)] []<|.i (.a<|.s 0 [] rfl)
 (.a<|.x1))
 (.u)) (fun
 |.inl ()=>(.n<|.a<|.e 0 [])
 |.inr k=>.r λ_ _ h=>h)
def Zzo {j:Yc} {o:Yc} {q:Int} {t:Int}:KF prog glob 296 f296 [slc 2 Zn j,slc 2 Zn o,i64 q,u32 t] [] (Zk1 j o q t) (λr=>slc 2 Zn r) (λ_=>[]):=Wv func296<|.a<|.c λa7=>.c λa8=>.b λw a9=>.r [(0,.m),(2,.app Zn (λ_=>kR) a7),(4,.app Zn (λ_=>kR) a8),(6,.pre (.share 0) (.cw [.of Zn ((([]:Yc)++j)++o)] Zwv a9))]<|.a<|.z (.own 10 2 74)<|.a<|.p2 [0,1,2,3,9,10,11] 2 (λf x=>[.l 1 Zn f,.s 11 (i64 x)]) (λp=>.n [10] 2 [.l 1 Zn p])
 (λb5 f x=>.r [(2,.len Zb4 w)]<|.i (.m 2 (λa0=>.n [0,1,2,3,9,10,11] 2 [.l 1 Zn a0]) (.a<|.m 1 (λg=>.n [0,1,2,3,9,10,11,12] 2 [.s 12 (u64 g)]) (.r [(3,.len Zb4 w)]<|.i (.bi 3 Zb4<|.a<|.k)
 (.k)) (λg=>.n<|.bi 3 Zb4<|.bc 6 Zrd<|.bi 10 Zb4<|.bc 13 Zrd<|.d [] 15<|.v<|.rc [] [] []<|.m 1 (λa1=>.n [0,1,2,3,9,10,11,12,15] 2 [.s 15 (vb a1)]) (.a<|.a<|.i (.v<|.rc [] [] []<|.k)
 (.a<|.i (.v<|.rc [] [] []<|.k)
 (.a<|.i (.v<|.rc [] [] []<|.k)
 (.k)))) (λa1=>.n<|.a<|.i (.k)
 (.r [(1,.len Zn f)]<|.l λb0 a2=>.b λb1 a3=>.to [0,1,2,3,9,10,11,12,16] [.s 103 (vb b1)] (by
 cases b0
 ·cases a3
  exact .d [(2,.bool a2)] 17
 obtain⟨b6,a4,b2⟩:=bindb (ifT a3 rfl);obtain⟨b7,b3,⟨⟩⟩:=bindb b2
 exact .d [(2,.bool a2),(6,.idx Zn a4),(7,.fdE Zn f (ZI ((f.length:Int)-(1:Int)))),(8,.ldE Zn a4),(13,.idx Zb4 b3)] 17)<|.i (.b λa5 a6=>.r [(5,.idx Zn a6),(6,.fdE Zn f (ZI ((f.length:Int)-(1:Int)))),(7,.stE Zn a6 ({a5 with Hi:=(wrap .u32 g)}:Za))]<|.y (.pick [0,1,2,3,9,10,11])<|.y (.ln 1 (lset f (Int.toNat (ZI ((f.length:Int)-(1:Int)))) ({a5 with Hi:=(wrap .u32 g)}:Za)))<|.k)
 (.bi 3 Zb4<|.c λb4=>.r [(10,.app Zn (λ_=>kR) b4)]<|.k))))) (λa0=>.n<|.a<|.x2))
 (.u)) (λp=>.n<|.a<|.e 0 [.of Zn p])
def Zt4 {b:Yc} {c:Yc}:KF prog glob 230 f230 [slc 2 Zn b,slc 2 Zn c] [] (Zd4 b c) (λr=>slc 2 Zn r) (λ_=>[]):=Wv func230<|.a<|.bc 2 Zzo<|.a<|.e 0 []
def Z7q (r:(Yc×Int)):Exit→St→List Blk→Prop:=FnQ prog f148.results 0 λp K=>p=(.tup [slc 2 Zn r.1,i64 r.2])∧K=[]
def Z7r {d:Yq}:KF prog glob 148 f148 [slc 1 Zaj d] [] (Ztt d) (λr=>.tup [slc 2 Zn r.1,i64 r.2]) (λ_=>[]):=Wv func148<|.a<|.v<|.gt λx3 a0=>.gw<|.rc [(1,.len Zaj d)] [(5,.idx Zaj a0)] []<|.i (.a<|.e 0 [])
 (.r [(1,.len Zaj d)]<|.i (.a<|.e 0 [])
 (.a<|.z (.own 4 2 74)<|.a<|.p2 [0,4,5] 1 (λo p=>[.l 0 Zn o,.s 5 (i64 p)]) (Sum.elim (λk=>.n [0,4] 1 [.l 0 Zn k]) (λr=>.q (Z7q r)))
 (λa9 o p=>.r [(2,.len Zaj d)]<|.i (.bi 2 Zaj<|.bc 4 Z9h<|.a<|.bi 3 Zaj<|.bc 5 Z7p<|.a<|.l λa1 f=>.l λa2 g=>.b λa3 m=>.to [0,4,5,6,7,8,9] [.s 67 (vb a3)] (by
 cases a1
 ·cases a2
  ·obtain⟨a4,j,a5⟩:=bindb (ifF m rfl)
   replace j:=someb j
   obtain⟨b0,t,⟨⟩⟩:=bindb a5;cases a4
   ·cases t
    exact .r [(2,.bool f),(6,.bool g),(10,.len Zaj d),(12,.bool j)]
   obtain⟨b1,a6,⟨⟩⟩:=bindb (ifT t rfl);exact .r [(2,.bool f),(6,.bool g),(10,.len Zaj d),(12,.bool j),(16,.idx Zaj a6)]
  cases m;exact .r [(2,.bool f),(6,.bool g)]
 subst g;cases m
 exact .r [(2,.bool f)])<|.i (.a<|.s 0 [] rfl)
 (.a<|.p2 [0,4,5,7,8,9,10] 1 (λw x=>[.l 0 Zn w,.s 10 (i64 x)]) (λy=>.n [0,4,5] 1 [.l 0 Zn y])
 (λb2 w x=>.a<|.i (.c λa7=>.r [(14,.app Zn (λ_=>kR) a7)]<|.a<|.x2)
 (.u)) (λy=>.n<|.a<|.x2)))
 (.u)) (fun
 |.inl k=>(.n<|.r [(1,.len Zaj d)]<|.i (.a<|.e 0 [])
 (.z (.share 0)<|.b λb3 a8=>.r [(1,.cw [.of Zn k] Zt4 a8)]<|.e 0 []))
 |.inr b4=>.r λ_ _ h=>h)))
def Z0r {f:Zc}:KF prog glob 86 f86 [.ptr 0 0] [.cells (Zf f)] (Zpi f) (λr=>slc 2 Zn r.1) (λr=>[.cells (Zf r.2)]):=Wv func86<|.a<|.a<|.a<|.bc 2 Zj<|.bi 3 Zaj<|.bc 7 Zj<|.bi 8 Zaj<|.d0 [(10,.m)] 11 [] [2,7,8,9,10] []<|.bc 1 Zj<|.a<|.p3 [0,3,4,5,6] 2 (λg j k=>[.l 1 Zaj j,.c 0 (Zf g),.s 6 (i64 k)]) (λ(o,d)=>.n [5] 2 [.l 1 Zaj d,.c 0 (Zf o)])
 (λt g j k=>.a<|.i (.bc 3 Zj<|.bi 4 Zaj<|.bc 8 Zj<|.bi 9 Zaj<|.c λp=>.d0 [(12,.app Zaj (λ_=>kR) p)] 13 [] [3,8,12] []<|.a<|.x3)
 (.u)) (λ(o,d)=>.n<|.z (.share 1)<|.b λv q=>.r [(1,.cw [.of Zaj d] Z7r q)]<|.a<|.e 1 [])
def Zio {c:Zc} {b:Ye}:KF prog glob 149 f149 [.ptr 0 0,slc 2 Zr b] [.cells (Zf c)] (Zc8 c b) (λr=>vstr r.1) (λr=>[.cells (Zf r.2)]):=Wv func149<|.a<|.bc 4 Zj<|.r [(2,.len Zr b)]<|.r [(2,.len Zr b)]<|.i (.a<|.e 1 [])
 (.bi 2 Zr<|.a<|.e 1 [])
def Zxw {q:Zc} {f:Zb} {j:Zs}:KF prog glob 87 f87 [.ptr 0 0,Zv f,Zbx j] [.cells (Zf q)] (Zms q f j) (λr=>Zws r.1) (λr=>[.cells (Zf r.2)]):=Wv func87<|.a<|.b λa6 a7=>.b λa8 a9=>.b λb0 b1=>.b λt b2=>.to [0,4,5,6] [.c 0 (Zf t.2),.k 4 (.cells (Zau (Zam.mk (decide (a6.1>(0:Int))) a8.1 b0.1 t.1 false ByteArray.empty ByteArray.empty ByteArray.empty ByteArray.empty (0:Int)))),.s 7 (.ptr 4 0)] (by
 exact .g [(1,.ca Zj a7),(6,.ca Zio a9),(10,.ca Zio b1),(14,.ca Zio b2)] 17 (.e 16 1 (.e 16 6 (.e 16 10 (.e 16 14 (.d [] [1,6,10,14,16] []) (.d [0,1,2,3,4,5,6,7,8,9,10,11,12,13,16,14,15] [1,6,10,16,14] [])) (.d [0,1,2,3,4,5,6,7,8,9,11,12,13,16,10,14,15] [1,6,16,10,14] [])) (.d [0,1,2,3,4,5,7,8,9,11,12,13,16,6,10,14,15] [1,16,6,10,14] [])) (.d [0,3,4,5,7,8,9,11,12,13,16,1,2,6,10,14,15] [16,1,6,10,14] [])))<|.m 1 (λ(u,v)=>.n [0,4,5,6,7] 5 [.c 0 (Zf u),.c 4 (Zau v)]) (.bc 1 Zj<|.a<|.i (.bc 3 Zio<|.bc 7 Zio<|.d0 [] 12 [] [3,7,9,11] []<|.k)
 (.k)) (λ(u,v)=>.n<|.m 1 (λ(w,x)=>.n [0,5,6,7] 5 [.c 0 (Zf w),.c 4 (Zau x)]) (.b λb3 b4=>.r [(3,.len Zh f.Devices),(4,.ca Zj b4)]<|.l λb5 o=>.b λb6 y=>.l λz p=>.to [0,4,5,6,7,8] [.c 0 (Zf b6.2),.s 57 (vb (z&&(decide (b3.1<(f.Devices.length:Int)))))] (by
 cases b5
 ·cases y
  subst p;exact .r [(2,.bool o)]
 obtain⟨b9,a0,⟨⟩⟩:=bindb (ifT y rfl);cases z
 ·exact .r [(2,.bool o),(4,.ca Zj a0),(7,.bool p)]
 exact .r [(2,.bool o),(4,.ca Zj a0),(7,.bool p),(11,.len Zh f.Devices)])<|.i (.bi 3 Zh<|.a<|.k)
 (.k)) (λ(w,x)=>.n<|.m 1 (λ(a1,a2)=>.n [0,6,7] 5 [.c 0 (Zf a1),.c 4 (Zau a2)]) (.l λb7 a3=>.b λa4 a5=>.to [0,5,6,7] [.c 0 (Zf a4.2),.s 73 (vb a4.1)] (by
 cases b7
 ·cases a5
  exact .r [(2,.len Zay j.Windows),(4,.bool a3)]
 obtain⟨c0,b8,⟨⟩⟩:=bindb (ifT a5 rfl)
 exact .r [(2,.len Zay j.Windows),(4,.bool a3),(6,.ca Zj b8)])<|.i (.bc 6 Zj<|.bi 7 Zay<|.d0 [(5,.len Zay j.Windows)] 10 [] [6] []<|.k)
 (.k)) (λ(a1,a2)=>.n<|.bc 2 Zj<|.bi 3 Ze<|.a<|.a<|.e 1 [])))
def Z0s {b0:Zc} {d:Zb} {b1:Int}:KF prog glob 38 f38 [.ptr 0 0,Zv d,i64 b1] [.cells (Zf b0)] (Zj8 b0 d b1) (λr=>Zbx r.1) (λr=>[.cells (Zf r.2)]):=Wv func38<|.a<|.r [(0,.m)]<|.z (.gst (.ownF 3 0 2 182))<|.z (.gst (.ownF 3 1 2 182))<|.z (.gst (.ownF 3 2 2 189))<|.z (.gst (.ownF 3 3 10 191))<|.z (.gst (.ownF 3 4 6 195))<|.z (.gst (.ownF 3 5 5 197))<|.bc 1 Zj<|.a<|.p3 [0,2,4,6,7,8] 10 (λb2 g b3=>[.l 4 Zr g,.c 0 (Zf b2),.s 8 (i64 b3)]) (λ(b4,b5)=>.n [0,2,4,6,7] 10 [.l 4 Zr b5,.c 0 (Zf b4)])
 (λi8 b2 g b3=>.a<|.i (.bi 4 Zaj<|.r [(2,.q),(3,.len Zr g),(6,.m),(7,.m),(8,.m)]<|.w (.gst (.ownF 10 1 7 184))<|.bc 1 Zj<|.a<|.p4 [0,2,4,6,7,8,9,10] 12 (λb6 b7 b8 b9=>[.l 11 Z4 b8,.c 0 (Zf b6),.f 10 0 (.sc (.string b7)),.s 10 (i64 b9)]) (λ(c0,a8,o)=>.n [0,2,4,6,7,8,9] 12 [.l 11 Z4 o,.c 0 (Zf c0),.f 10 0 (.sc (.string a8))])
 (λi9 b6 b7 b8 b9=>.a<|.i (.m 2 (λ(c1,c2)=>.n [0,2,4,6,7,8,9,10] 12 [.l 11 Z4 c2,.c 0 (Zf c1)]) (.bc 1 Zpy<|.a<|.m 1 (λ(c3,c4)=>.n [0,2,4,6,7,8,9,10,11] 13 [.c 0 (Zf c3),.c 12 (Z4 c4)]) (.bc 4 Zj<|.r [(3,.len Zk d.Edges)]<|.l λh0 c5=>.b λc6 c7=>.to [0,2,4,6,7,8,9,10,11,12] [.c 0 (Zf c6.2),.s 58 (vb c6.1)] (by
 cases h0
 ·cases c7
  exact .r [(2,.len Zk d.Edges),(4,.bool c5)]
 obtain⟨j0,h1,⟨⟩⟩:=bindb (ifT c7 rfl)
 exact .r [(2,.len Zk d.Edges),(4,.bool c5),(6,.ca Zj h1)])<|.i (.bi 3 Zk<|.a<|.k)
 (.k)) (λ(c3,c4)=>.n<|.m 1 (λ(c8,c9)=>.n [0,2,4,6,7,8,9,10,11] 13 [.c 0 (Zf c8),.c 12 (Z4 c9)]) (.l λh2 d1=>.b λd2 d3=>.to [0,2,4,6,7,8,9,10,11] [.c 0 (Zf d2.2),.s 74 (vb d2.1)] (by
 cases h2
 ·cases d3
  exact .r [(1,.q),(2,.len Zr g),(4,.bool d1)]
 obtain⟨j1,h3,⟨⟩⟩:=bindb (ifT d3 rfl)
 exact .r [(1,.q),(2,.len Zr g),(4,.bool d1),(6,.ca Zj h3)])<|.i (.b λj2 d4=>.r [(1,.q),(2,.idx Zr d4),(3,.fdE Zr g (0:Int)),(4,.ldE Zr d4)]<|.k)
 (.k)) (λ(c8,c9)=>.n<|.c λh4=>.r [(1,.q),(4,.app Z4 (λ_=>kR) h4),(6,.m)]<|.k))) (λ(c1,c2)=>.n<|.a<|.x4))
 (.u)) (λ(c0,a8,o)=>.n<|.w (.share 11)<|.c λh5=>.r [(1,.q),(2,.wkP (Zr (Zm.mk a8 o)) [.of Z4 o] .q),(4,.app Zr (λ_=>kR) h5),(6,.m)]<|.a<|.x3))
 (.u)) (λ(b4,b5)=>.n<|.bc 1 Zj<|.a<|.p3 [0,2,4,6,7,13] 10 (λd5 j d6=>[.l 5 Zr j,.c 0 (Zf d5),.s 13 (i64 d6)]) (λ(d7,d8)=>.n [0,2,4,6,7] 10 [.l 5 Zr d8,.c 0 (Zf d7)])
 (λj3 d5 j d6=>.a<|.i (.bi 4 Zaj<|.r [(2,.q),(3,.len Zr j),(6,.m),(7,.m),(8,.m)]<|.w (.gst (.ownF 10 1 7 184))<|.bc 1 Zj<|.a<|.p4 [0,2,4,6,7,13,14,15] 12 (λd9 e0 e1 e2=>[.l 11 Z4 e1,.c 0 (Zf d9),.f 10 0 (.sc (.string e0)),.s 15 (i64 e2)]) (λ(e3,a9,p)=>.n [0,2,4,6,7,13,14] 12 [.l 11 Z4 p,.c 0 (Zf e3),.f 10 0 (.sc (.string a9))])
 (λj4 d9 e0 e1 e2=>.a<|.i (.m 2 (λ(e4,e5)=>.n [0,2,4,6,7,13,14,15] 12 [.l 11 Z4 e5,.c 0 (Zf e4)]) (.bc 2 Zj<|.bi 3 Ze<|.a<|.m 1 (λ(e6,e7)=>.n [0,2,4,6,7,13,14,15,16] 13 [.c 0 (Zf e6),.c 12 (Z4 e7)]) (.a<|.a<|.i (.a<|.k)
 (.m 1 (λe8=>.n [0,2,4,6,7,13,14,15,16] 13 [.s 125 (vb e8)]) (.a<|.i (.k)
 (.a<|.k)) (λe8=>.n<|.i (.bc 1 Zqb<|.a<|.k)
 (.k)))) (λ(e6,e7)=>.n<|.m 1 (λ(e9,f0)=>.n [0,2,4,6,7,13,14,15,16] 13 [.c 0 (Zf e9),.c 12 (Z4 f0)]) (.l λh6 f1=>.b λf2 f3=>.to [0,2,4,6,7,13,14,15,16] [.c 0 (Zf f2.2),.s 139 (vb f2.1)] (by
 cases h6
 ·cases f3
  exact .r [(1,.q),(2,.len Zr j),(4,.bool f1)]
 obtain⟨j5,h7,⟨⟩⟩:=bindb (ifT f3 rfl)
 exact .r [(1,.q),(2,.len Zr j),(4,.bool f1),(6,.ca Zj h7)])<|.i (.b λj6 f4=>.r [(1,.q),(2,.idx Zr f4),(3,.fdE Zr j (0:Int)),(4,.ldE Zr f4)]<|.k)
 (.k)) (λ(e9,f0)=>.n<|.c λh8=>.r [(1,.q),(4,.app Z4 (λ_=>kR) h8),(6,.m)]<|.k))) (λ(e4,e5)=>.n<|.a<|.x4))
 (.u)) (λ(e3,a9,p)=>.n<|.w (.share 11)<|.c λh9=>.r [(1,.q),(2,.wkP (Zr (Zm.mk a9 p)) [.of Z4 p] .q),(4,.app Zr (λ_=>kR) h9),(6,.m)]<|.a<|.x3))
 (.u)) (λ(d7,d8)=>.n<|.m 1 (λ(f5,f6)=>.n [0,2,4,6,7] 10 [.l 6 Zay f6,.c 0 (Zf f5)]) (.bc 1 Zj<|.a<|.i (.bc 3 Z0r<|.c λi0=>.d0 [(1,.q),(6,.app Zay (λ_=>kR) i0),(8,.m)] 7 [] [3,6] []<|.k)
 (.k)) (λ(f5,f6)=>.n<|.bc 3 Zj<|.a<|.z (.share 4)<|.z (.share 5)<|.z (.share 6)<|.z (.share 7)<|.z (.share 8)<|.z (.share 9)<|.p8 [0,4,6,7,17] 10 (λf7 t v x y a0 a1 f8=>[.l 4 Zr t,.l 5 Zr v,.l 6 Zay x,.l 7 Zau y,.l 8 Zaw a0,.l 9 Zaz a1,.c 0 (Zf f7),.s 17 (i64 f8)]) (λ(f9,a2,a3,a4,a5,g0,g1)=>.n [0,4,6,7] 10 [.l 4 Zr a2,.l 5 Zr a3,.l 6 Zay a4,.l 7 Zau a5,.l 8 Zaw g0,.l 9 Zaz g1,.c 0 (Zf f9)])
 (λj7 f7 t v x y a0 a1 f8=>.a<|.i (.bc 5 Zxw<|.c λi1=>.d0 [(1,.q),(4,.wkP (Zul (Zs.mk t v x y a0 a1)) [.of Zr t,.of Zr v,.of Zay x,.of Zau y,.of Zaw a0,.of Zaz a1] .q),(7,.app Zau (λ_=>kR) i1),(9,.m)] 8 [] [5,7] []<|.a<|.x8)
 (.u)) (λ(f9,a2,a3,a4,a5,g0,g1)=>.n<|.m 1 (λ(g2,a6)=>.n [0,4,6,7] 10 [.l 8 Zaw a6,.c 0 (Zf g2)]) (.l λi2 g3=>.b λg4 g5=>.to [0,4,6,7] [.c 0 (Zf g4.2),.s 194 (vb g4.1)] (by
 cases i2
 ·cases g5
  exact .r [(2,.len Zk d.Edges),(4,.bool g3)]
 obtain⟨j8,i3,⟨⟩⟩:=bindb (ifT g5 rfl)
 exact .r [(2,.len Zk d.Edges),(4,.bool g3),(6,.ca Zj i3)])<|.i (.bi 2 Zk<|.bc 5 Zek<|.a<|.bc 4 Zj<|.bi 5 Ze<|.bc 8 Zkv<|.bi 12 Zk<|.bc 18 Zkv<|.c λi4=>.d0 [(1,.q),(22,.app Zaw (λ_=>kR) i4),(24,.m)] 23 [] [4,8,18,22] []<|.k)
 (.k)) (λ(g2,a6)=>.n<|.m 1 (λ(g6,a7)=>.n [6,7] 10 [.l 9 Zaz a7,.c 0 (Zf g6)]) (.l λi5 g7=>.b λg8 g9=>.to [0,4,6,7] [.c 0 (Zf g8.2),.s 236 (vb g8.1)] (by
 cases i5
 ·cases g9
  exact .r [(2,.len Zk d.Edges),(4,.bool g7)]
 obtain⟨j9,i6,⟨⟩⟩:=bindb (ifT g9 rfl)
 exact .r [(2,.len Zk d.Edges),(4,.bool g7),(6,.ca Zj i6)])<|.i (.bc 4 Zj<|.r [(3,.len Zk d.Edges)]<|.bi 5 Zk<|.bc 9 Zj<|.c λi7=>.d0 [(1,.q),(15,.app Zaz (λ_=>kR) i7),(17,.m)] 16 [] [9,15] []<|.k)
 (.k)) (λ(g6,a7)=>.n<|.r [(0,.wkP (Zul (Zs.mk a2 a3 a4 a5 a6 a7)) [.of Zr a2,.of Zr a3,.of Zay a4,.of Zau a5,.of Zaw a6,.of Zaz a7] .q)]<|.e 1 []))))))
def Z0t {b:Zc}:KF prog glob 39 f39 [.ptr 0 0] [.cells (Zf b)] (Zpj b) (λr=>i64 r.1) (λr=>[.cells (Zf r.2)]):=Wv func39<|.a<|.bc 1 Zj<|.bc 5 Zj<|.bi 6 Ze<|.a<|.e 1 []
def Z40 {b:Zc} {c:Int} {d:Int}:KF prog glob 12 f12 [.ptr 0 0,i64 c,i64 d] [.cells (Zf b)] (Zr1 b c d) (λr=>.tup [Zv r.1,Zbx r.2.1,i64 r.2.2.1]) (λr=>[.cells (Zf r.2.2.2)]):=Wv func12<|.a<|.bc 2 Zy7<|.a<|.bc 4 Z0s<|.bc 6 Z0t<|.d0 [] 9 [] [4,6,7,8] []<|.e 1 []
def Zzp {g:Zc} {b:Zb}:KF prog glob 14 f14 [.ptr 0 0,Zv b] [.cells (Zf g)] (Zov g b) (λr=>Zbd r.1) (λr=>[.cells (Zf r.2)]):=Wv func14<|.a<|.r [(0,.m)]<|.z (.gst (.ownF 3 0 1 3))<|.z (.gst (.ownF 3 1 1 3))<|.a<|.p3 [0,3,4,5,6] 6 (λj o p=>[.l 4 Ze o,.c 0 (Zf j),.s 6 (i64 p)]) (λ(t,d)=>.n [0,3,4,5] 6 [.l 4 Ze d,.c 0 (Zf t)])
 (λa6 j o p=>.r [(3,.len Zx b.Links)]<|.i (.m 2 (λ(v,w)=>.n [0,3,4,5,6] 6 [.l 4 Ze w,.c 0 (Zf v)]) (.bc 1 Zj<|.a<|.i (.c λa4=>.r [(1,.q),(4,.app Ze (λ_=>kR) a4),(6,.m)]<|.k)
 (.k)) (λ(v,w)=>.n<|.a<|.x3))
 (.u)) (λ(t,d)=>.n<|.a<|.p3 [0,3,4,5,7] 6 (λx y a0=>[.l 5 Ze y,.c 0 (Zf x),.s 7 (i64 a0)]) (λ(a1,f)=>.n [4,5] 6 [.l 5 Ze f,.c 0 (Zf a1)])
 (λa7 x y a0=>.r [(3,.len Zh b.Devices)]<|.i (.m 2 (λ(a2,a3)=>.n [0,3,4,5,7] 6 [.l 5 Ze a3,.c 0 (Zf a2)]) (.bc 1 Zj<|.a<|.i (.c λa5=>.r [(1,.q),(4,.app Ze (λ_=>kR) a5),(6,.m)]<|.k)
 (.k)) (λ(a2,a3)=>.n<|.a<|.x3))
 (.u)) (λ(a1,f)=>.n<|.z (.share 4)<|.z (.share 5)<|.r [(0,.wkP (Za1 (Zp.mk d f)) [.of Ze d,.of Ze f] .q)]<|.e 1 []))
def Z0u (r:Bool):Exit→St→List Blk→Prop:=FnQ prog f64.results 0 λp K=>p=(vb r)∧K=[]
def Zae {c:ByteArray}:KF prog glob 64 f64 [vstr c] [] (Zad c) (λr=>vb r) (λ_=>[]):=Wv func64<|.a<|.v<|.v<|.rc [] [] []<|.i (.a<|.e 0 [])
 (.a<|.p1 [0,3] 0 (λd=>[.s 3 (i64 d)]) (Sum.elim (λ_=>.n [] 0 []) (λr=>.q (Z0u r)))
 (λp d=>.a<|.i (.b λt f=>.v<|.gt λw g=>.gw<|.rc [(2,.str f)] [(7,.str g)] []<|.b λx j=>.v<|.gt λy k=>.gw<|.v<|.ge λz l=>.gw<|.v<|.ge λa0 m=>.gw<|.rc [(2,.str j)] [(7,.str k),(13,.str l),(19,.str m)] []<|.v<|.gl λa1 o=>.gw<|.rc [(5,.bool o)] [] []<|.i (.a<|.s 0 [] rfl)
 (.a<|.x1))
 (.u)) (fun
 |.inl ()=>(.n<|.a<|.e 0 [])
 |.inr a2=>.r λ_ _ h=>h))
def Z41 (r:Int):Exit→St→List Blk→Prop:=FnQ prog f232.results 0 λp K=>p=(i64 r)∧K=[]
def Zj3 {b:Zb} {c:ByteArray}:KF prog glob 232 f232 [Zv b,vstr c] [] (Zew b c) (λr=>i64 r) (λ_=>[]):=Wv func232<|.a<|.a<|.p1 [1,2,5] 1 (λd=>[.s 5 (i64 d)]) (Sum.elim (λ_=>.n [] 1 []) (λr=>.q (Z41 r)))
 (λf d=>.r [(3,.len Zh b.Devices)]<|.i (.bi 3 Zh<|.a<|.i (.a<|.s 0 [] rfl)
 (.a<|.x1))
 (.u)) (fun
 |.inl ()=>(.n<|.a<|.e 0 [])
 |.inr g=>.r λ_ _ h=>h)
def Zxx (r:Bool):Exit→St→List Blk→Prop:=FnQ prog f154.results 0 λp K=>p=(vb r)∧K=[]
def Zxy {m:Yr}:KF prog glob 154 f154 [slc 5 Zh m] [] (Zcm m) (λr=>vb r) (λ_=>[]):=Wv func154<|.a<|.v<|.rc [(1,.len Zh m),(5,.len Zh m)] [] []<|.i (.a<|.e 0 [])
 (.a<|.p1 [0,3] 0 (λa2=>[.s 3 (i64 a2)]) (Sum.elim (λ_=>.n [] 0 []) (λr=>.q (Zxx r)))
 (λb6 a2=>.r [(2,.len Zh m)]<|.i (.b λb7 c=>.b λb8 d=>.l λa6 f=>.b λb9 a3=>.l λa7 g=>.b λc0 z=>.l λa8 j=>.b λc1 w=>.l λa9 k=>.b λb0 o=>.to [0,3] [.s 69 (vb b0)] (by
 cases a6
 ·obtain⟨c2,p,b1⟩:=bindb (ifF a3 rfl)
  obtain⟨c3,t,⟨⟩⟩:=bindb b1;cases a7
  ·obtain⟨c4,x,⟨⟩⟩:=bindb (ifF z rfl)
   cases a8
   ·obtain⟨c5,a0,⟨⟩⟩:=bindb (ifF w rfl)
    cases a9
    ·obtain⟨c6,a4,a1⟩:=bindb (ifF o rfl)
     obtain⟨b2,y,a1⟩:=bindb a1
     replace y:=someb y
     obtain⟨c7,a5,⟨⟩⟩:=bindb a1;cases b2
     ·cases a5
      exact .r [(2,.idx Zh c),(5,.ca Zae d),(7,.bool f),(12,.idx Zh p),(15,.ca Zj3 t),(19,.bool g),(22,.idx Zh x),(27,.bool j),(30,.idx Zh a0),(35,.bool k),(38,.idx Zh a4),(42,.bool y)]
     obtain⟨c8,b3,b4⟩:=bindb (ifT a5 rfl);obtain⟨c9,b5,⟨⟩⟩:=bindb b4;exact .r [(2,.idx Zh c),(5,.ca Zae d),(7,.bool f),(12,.idx Zh p),(15,.ca Zj3 t),(19,.bool g),(22,.idx Zh x),(27,.bool j),(30,.idx Zh a0),(35,.bool k),(38,.idx Zh a4),(42,.bool y),(45,.idx Zh b3),(48,.ca Zae b5)]
    cases o;exact .r [(2,.idx Zh c),(5,.ca Zae d),(7,.bool f),(12,.idx Zh p),(15,.ca Zj3 t),(19,.bool g),(22,.idx Zh x),(27,.bool j),(30,.idx Zh a0),(35,.bool k)]
   cases w;subst k;cases o;exact .r [(2,.idx Zh c),(5,.ca Zae d),(7,.bool f),(12,.idx Zh p),(15,.ca Zj3 t),(19,.bool g),(22,.idx Zh x),(27,.bool j)]
  cases z;subst j;cases w;subst k;cases o;exact .r [(2,.idx Zh c),(5,.ca Zae d),(7,.bool f),(12,.idx Zh p),(15,.ca Zj3 t),(19,.bool g)]
 cases a3;subst g;cases z;subst j;cases w;subst k;cases o
 exact .r [(2,.idx Zh c),(5,.ca Zae d),(7,.bool f)])<|.i (.a<|.s 0 [] rfl)
 (.a<|.x1))
 (.u)) (fun
 |.inl ()=>(.n<|.a<|.e 0 [])
 |.inr d0=>.r λ_ _ h=>h))
def Zt5 {b:Z1} {c:Int}:KF prog glob 155 f155 [Zn0 b,i64 c] [] (Zde b c) (λr=>vb r) (λ_=>[]):=Wv func155<|.a<|.bc 2 Zae<|.v<|.ge λg d=>.gw<|.v<|.v<|.v<|.rc [] [(7,.ca Zae d)] []<|.i (.a<|.e 0 [])
 (.bc 2 Ze3<|.v<|.gl λj f=>.gw<|.rc [(7,.bool f)] [] []<|.e 0 [])
def Z7s (r:Int):Exit→St→List Blk→Prop:=FnQ prog f156.results 0 λp K=>p=(i64 r)∧K=[]
def Zjk {b:Zb} {c:ByteArray}:KF prog glob 156 f156 [Zv b,vstr c] [] (Zcc b c) (λr=>i64 r) (λ_=>[]):=Wv func156<|.a<|.a<|.p1 [1,2,5] 1 (λd=>[.s 5 (i64 d)]) (Sum.elim (λ_=>.n [] 1 []) (λr=>.q (Z7s r)))
 (λf d=>.r [(3,.len Zk b.Edges)]<|.i (.bi 3 Zk<|.a<|.i (.a<|.s 0 [] rfl)
 (.a<|.x1))
 (.u)) (fun
 |.inl ()=>(.n<|.a<|.e 0 [])
 |.inr g=>.r λ_ _ h=>h)
def Zww {b:Zb}:KF prog glob 150 f150 [Zv b] [] (Zdf b) (λr=>slc 2 Zu r) (λ_=>[]):=Wv func150<|.a<|.a<|.z (.own 3 2 90)<|.a<|.p2 [1,3,4] 2 (λf g=>[.l 1 Zu f,.s 4 (i64 g)]) (λd=>.n [3] 2 [.l 1 Zu d])
 (λp f g=>.r [(3,.len Zk b.Edges)]<|.i (.m 2 (λj=>.n [1,3,4] 2 [.l 1 Zu j]) (.bi 3 Zk<|.a<|.i (.bi 4 Zk<|.c λo=>.r [(8,.app Zu (λ_=>kR) o)]<|.k)
 (.k)) (λj=>.n<|.a<|.x2))
 (.u)) (λd=>.n<|.a<|.e 0 [.of Zu d])
def Znx {b:Zl} {c:Int}:KF prog glob 231 f231 [Za4 b,u32 c] [] (Zb9 b c) (λr=>vb r) (λ_=>[]):=Wv func231<|.a<|.bc 1 Zek<|.a<|.v<|.v<|.rc [] [] []<|.e 0 []
def Zwx {b:Zl} {c:Zl}:KF prog glob 297 f297 [Za4 b,Za4 c] [] (Zh1 b c) (λr=>vb r) (λ_=>[]):=Wv func297<|.a<|.bc 1 Zek<|.a<|.v<|.gt λg d=>.gw<|.v<|.gt λi f=>.gw<|.rc [] [(5,.ca Znx d),(11,.ca Znx f)] []<|.e 0 []
def Z9i {b:Zl} {c:Zl}:KF prog glob 233 f233 [Za4 b,Za4 c] [] (Zk2 b c) (λr=>vb r) (λ_=>[]):=Wv func233<|.a<|.bc 2 Zwx<|.v<|.ge λf d=>.gw<|.rc [] [(6,.ca Zwx d)] []<|.e 0 []
def Z6j (r:Bool):Exit→St→List Blk→Prop:=FnQ prog f157.results 0 λp K=>p=(vb r)∧K=[]
def Zwy {c:Zl} {b:Yl}:KF prog glob 157 f157 [Za4 c,slc 2 Zu b] [] (Zh2 c b) (λr=>vb r) (λ_=>[]):=Wv func157<|.a<|.a<|.p1 [1,2,5] 1 (λf=>[.s 5 (i64 f)]) (Sum.elim (λ_=>.n [] 1 []) (λr=>.q (Z6j r)))
 (λg f=>.r [(2,.len Zu b)]<|.i (.bi 3 Zu<|.bc 5 Z9i<|.d [] 6<|.i (.a<|.s 0 [] rfl)
 (.a<|.x1))
 (.u)) (fun
 |.inl ()=>(.n<|.a<|.e 0 [])
 |.inr j=>.r λ_ _ h=>h)
def Zpz (r:Bool):Exit→St→List Blk→Prop:=FnQ prog f92.results 0 λp K=>p=(vb r)∧K=[]
def Zll {f:Zb}:KF prog glob 92 f92 [Zv f] [] (Zcx f) (λr=>vb r) (λ_=>[]):=Wv func92<|.a<|.bc 2 Zxy<|.v<|.v<|.v<|.v<|.v<|.rc [(7,.len Zx f.Links),(13,.len Zk f.Edges),(19,.len Zu f.Pools)] [] []<|.i (.a<|.e 0 [])
 (.a<|.p1 [1,3] 1 (λj=>[.s 3 (i64 j)]) (Sum.elim (λ_=>.n [1] 1 []) (λr=>.q (Zpz r)))
 (λb5 j=>.r [(3,.len Zx f.Links)]<|.i (.bi 3 Zx<|.a<|.v<|.v<|.v<|.v<|.rc [(15,.len Zh f.Devices)] [] []<|.i (.a<|.s 0 [] rfl)
 (.a<|.x1))
 (.u)) (fun
 |.inl ()=>(.n<|.a<|.p1 [1,5] 1 (λk=>[.s 5 (i64 k)]) (Sum.elim (λ_=>.n [1] 1 []) (λr=>.q (Zpz r)))
 (λb6 k=>.r [(3,.len Zk f.Edges)]<|.i (.b λb7 m=>.b λb8 o=>.l λa3 p=>.b λa4 t=>.to [1,5] [.s 109 (vb a4)] (by
 cases a3
 ·obtain⟨b9,a5,a6⟩:=bindb (ifF t rfl)
  obtain⟨c0,a7,⟨⟩⟩:=bindb a6;exact .d [(3,.idx Zk m),(7,.len Zh f.Devices),(8,.ca Zt5 o),(10,.bool p),(15,.idx Zk a5),(18,.ca Zjk a7)] 22
 cases t
 exact .d [(3,.idx Zk m),(7,.len Zh f.Devices),(8,.ca Zt5 o),(10,.bool p)] 22)<|.i (.a<|.s 0 [] rfl)
 (.a<|.x1))
 (.u)) (fun
 |.inl ()=>(.n<|.b λw a8=>.r [(1,.ca Zww a8)]<|.a<|.p1 [1,6,7] 1 (λx=>[.s 7 (i64 x)]) (Sum.elim (λ_=>.n [1] 1 []) (λr=>.q (Zpz r)))
 (λc1 x=>.r [(2,.len Zu w)]<|.i (.bi 2 Zu<|.c λa9=>.bc 7 Zwy<|.d [(6,.slice Zu w a9)] 8<|.i (.a<|.s 0 [] rfl)
 (.a<|.x1))
 (.u)) (fun
 |.inl ()=>(.n<|.a<|.p1 [1,8] 1 (λy=>[.s 8 (i64 y)]) (Sum.elim (λ_=>.n [] 1 []) (λr=>.q (Zpz r)))
 (λc2 y=>.r [(3,.len Zu f.Pools)]<|.i (.b λc3 z=>.b λc4 a0=>.l λb0 a1=>.b λb1 a2=>.to [1,8] [.s 151 (vb b1)] (by
 cases b0
 ·obtain⟨c5,b2,g⟩:=bindb (ifF a2 rfl)
  obtain⟨b3,g⟩:=chkb g;obtain⟨c6,b4,⟨⟩⟩:=bindb g;exact .d [(3,.idx Zu z),(5,.ca Ze3 a0),(7,.bool a1),(11,.idx Zu b2),(16,.slice Zu f.Pools b3),(17,.ca Zwy b4)] 19
 cases a2
 exact .d [(3,.idx Zu z),(5,.ca Ze3 a0),(7,.bool a1)] 19)<|.i (.a<|.s 0 [] rfl)
 (.a<|.x1))
 (.u)) (fun
 |.inl ()=>(.n<|.a<|.e 0 [])
 |.inr c7=>.r λ_ _ h=>h))
 |.inr c8=>.r λ_ _ h=>h))
 |.inr c9=>.r λ_ _ h=>h))
 |.inr d0=>.r λ_ _ h=>h))
def Zck {c:Zb}:KF prog glob 89 f89 [Zv c] [] (Zax c) (λr=>vb r) (λ_=>[]):=Wv func89<|.a<|.b λo f=>.l λj g=>.b λk i=>.to [] [.s 2 (vb k)] (by
 cases j
 ·cases i
  exact .d [(1,.ca Zll f),(2,.bool g)] 11
 obtain⟨m,n,⟨⟩⟩:=bindb (ifT i rfl)
 exact .d [(1,.ca Zll f),(2,.bool g),(4,.ca Zww n),(5,.len Zu m),(8,.len Zk c.Edges)] 11)<|.e 0 []
def Z7t (r:Int):Exit→St→List Blk→Prop:=FnQ prog f298.results 0 λp K=>p=(i64 r)∧K=[]
def Zjl {b:Ye} {c:ByteArray}:KF prog glob 298 f298 [slc 2 Zr b,vstr c] [] (Zcu b c) (λr=>i64 r) (λ_=>[]):=Wv func298<|.a<|.a<|.p1 [0,1,5] 0 (λd=>[.s 5 (i64 d)]) (Sum.elim (λ_=>.n [] 0 []) (λr=>.q (Z7t r)))
 (λf d=>.r [(2,.len Zr b)]<|.i (.bi 2 Zr<|.a<|.i (.a<|.s 0 [] rfl)
 (.a<|.x1))
 (.u)) (fun
 |.inl ()=>(.n<|.a<|.e 0 [])
 |.inr g=>.r λ_ _ h=>h)
def Zwz {b:Za} {c:Int}:KF prog glob 240 f240 [Zk8 b,u32 c] [] (Zlb b c) (λr=>vb r) (λ_=>[]):=Wv func240<|.a<|.v<|.v<|.rc [] [] []<|.e 0 []
def Z0v (r:Bool):Exit→St→List Blk→Prop:=FnQ prog f299.results 0 λp K=>p=(vb r)∧K=[]
def Z0w {b:Z2} {c:Bool}:KF prog glob 299 f299 [Z5t b,vb c] [] (Zj9 b c) (λr=>vb r) (λ_=>[]):=Wv func299<|.a<|.a<|.a<|.i (.bc 2 Zae<|.v<|.rc [] [] []<|.e 0 [])
 (.a<|.i (.v<|.gt λj f=>.gw<|.v<|.rc [] [(4,.ca Zae f)] []<|.e 0 [])
 (.a<|.i (.v<|.gt λl g=>.gw<|.v<|.rc [] [(4,.ca Ze3 g)] []<|.e 0 [])
 (.a<|.i (.v<|.v<|.v<|.rc [] [] []<|.i (.a<|.e 0 [])
 (.m 2 (Sum.elim (λ_=>.n [2] 1 []) (λr=>.q (Z0v r))) (.a<|.m 2 (λd=>.n [2,80] 1 [.s 81 (vb d)]) (.a<|.i (.k)
 (.a<|.k)) (λd=>.n<|.i (.bc 2 Zwz<|.a<|.q 0 [] rfl)
 (.a<|.i (.a<|.q 0 [] rfl)
 (.k)))) (fun
 |.inl ()=>(.n<|.a<|.e 0 [])
 |.inr o=>.r λ_ _ h=>h)))
 (.a<|.e 0 []))))
def Zpb (r:Bool):Exit→St→List Blk→Prop:=FnQ prog f235.results 0 λp K=>p=(vb r)∧K=[]
def Zpc {c:Ye} {d:Bool}:KF prog glob 235 f235 [slc 2 Zr c,vb d] [] (Zda c d) (λr=>vb r) (λ_=>[]):=Wv func235<|.a<|.r [(1,.len Zr c)]<|.i (.a<|.e 0 [])
 (.a<|.p1 [0,1,5] 0 (λf=>[.s 5 (i64 f)]) (Sum.elim (λ_=>.n [] 0 []) (λr=>.q (Zpb r)))
 (λx f=>.r [(2,.len Zr c)]<|.i (.bi 2 Zr<|.bc 5 Zae<|.v<|.ge λy j=>.ge λz k=>.gw<|.v<|.ge λl m=>.gw<|.v<|.ge λo p=>.gw<|.rc [(24,.len Z4 l.Items),(33,.len Z4 o.Items)] [(11,.idx Zr j),(14,.ca Zjl k),(21,.idx Zr m),(30,.idx Zr p)] []<|.i (.a<|.s 0 [] rfl)
 (.a<|.p1 [0,1,5,6] 0 (λg=>[.s 6 (i64 g)]) (Sum.elim (λ_=>.n [0,1,5] 0 []) (λr=>.q (Zpb r)))
 (λa0 g=>.b λt w=>.r [(3,.idx Zr w),(6,.len Z4 t.Items)]<|.i (.bi 2 Zr<|.bi 6 Z4<|.bc 9 Z0w<|.a<|.i (.a<|.s 0 [] rfl)
 (.a<|.x1))
 (.u)) (fun
 |.inl ()=>(.n<|.a<|.x1)
 |.inr a1=>.r λ_ _ h=>Wbu ⟨rfl,h⟩)))
 (.u)) (fun
 |.inl ()=>(.n<|.a<|.e 0 [])
 |.inr a2=>.r λ_ _ h=>h))
def Zzq (r:Int):Exit→St→List Blk→Prop:=FnQ prog f236.results 0 λp K=>p=(i64 r)∧K=[]
def Zf0 {b:Yu} {c:ByteArray}:KF prog glob 236 f236 [slc 2 Zay b,vstr c] [] (Zea b c) (λr=>i64 r) (λ_=>[]):=Wv func236<|.a<|.a<|.p1 [0,1,5] 0 (λd=>[.s 5 (i64 d)]) (Sum.elim (λ_=>.n [] 0 []) (λr=>.q (Zzq r)))
 (λf d=>.r [(2,.len Zay b)]<|.i (.bi 2 Zay<|.a<|.i (.a<|.s 0 [] rfl)
 (.a<|.x1))
 (.u)) (fun
 |.inl ()=>(.n<|.a<|.e 0 [])
 |.inr g=>.r λ_ _ h=>h)
def Z7u (r:Bool):Exit→St→List Blk→Prop:=FnQ prog f333.results 0 λp K=>p=(vb r)∧K=[]
def Z7v {m:Yc} {t:Int}:KF prog glob 333 f333 [slc 2 Zn m,u32 t] [] (Zqg m t) (λr=>vb r) (λ_=>[]):=Wv func333<|.a<|.a<|.p1 [0,1,5] 0 (λv=>[.s 5 (i64 v)]) (Sum.elim (λ_=>.n [] 0 []) (λr=>.q (Z7u r)))
 (λa6 v=>.r [(2,.len Zn m)]<|.i (.b λa7 c=>.b λa8 f=>.l λy g=>.b λa9 w=>.l λz j=>.b λa0 o=>.to [0,1,5] [.s 52 (vb a0)] (by
 cases y
 ·obtain⟨b0,p,⟨⟩⟩:=bindb (ifF w rfl)
  cases z
  ·obtain⟨a1,k,a2⟩:=bindb (ifF o rfl)
   replace k:=someb k
   obtain⟨b1,x,⟨⟩⟩:=bindb a2;cases a1
   ·cases x
    exact .d [(2,.idx Zn c),(7,.idx Zn f),(11,.bool g),(14,.idx Zn p),(20,.bool j),(23,.bool k)] 41
   obtain⟨b2,a3,a4⟩:=bindb (ifT x rfl);obtain⟨b3,a5,⟨⟩⟩:=bindb a4;exact .d [(2,.idx Zn c),(7,.idx Zn f),(11,.bool g),(14,.idx Zn p),(20,.bool j),(23,.bool k),(26,.idx Zn a3),(33,.idx Zn a5)] 41
  cases o;exact .d [(2,.idx Zn c),(7,.idx Zn f),(11,.bool g),(14,.idx Zn p),(20,.bool j)] 41
 cases w;subst j;cases o
 exact .d [(2,.idx Zn c),(7,.idx Zn f),(11,.bool g)] 41)<|.i (.a<|.s 0 [] rfl)
 (.a<|.x1))
 (.u)) (fun
 |.inl ()=>(.n<|.a<|.e 0 [])
 |.inr b4=>.r λ_ _ h=>h)
def Zw0 {b:Yc}:KF prog glob 300 f300 [slc 2 Zn b] [] (Zlc b) (λr=>vb r) (λ_=>[]):=Wv func300<|.a<|.bc 1 Z7v<|.a<|.e 0 []
def Z2h {b:Yc} {c:Yc}:KF prog glob 334 f334 [slc 2 Zn b,slc 2 Zn c] [] (Zp6 b c) (λr=>slc 2 Zn r) (λ_=>[]):=Wv func334<|.a<|.bc 2 Zzo<|.a<|.e 0 []
def Z3r (nr:Nat):∀ {b:Int},KF prog glob 364 f364 [i64 b] [] (Zh3 nr b) (λr=>vstr r) (λ_=>[]):=by
 induction nr with
 |zero=>intro b;exact⟨func364,λ_ h=>noneb h⟩
 |succ nr ih=>
 intro b
 exact Wv func364<|.a<|.a<|.i (.r [(4,.toStr [wrap .u8 (ZI ((48:Int)+b))])]<|.e 0 [])
  (.bc 2 ih<|.c λf=>.d [(8,.toStr [wrap .u8 (ZI ((48:Int)+(Int.tmod b (10:Int))))]),(9,.cat f)] 10<|.e 0 [])
def Zw1 {a:Int}:KF prog glob 364 f364 [i64 a] [] (Zh3 fuel a) (λr=>vstr r) (λ_=>[]):=Z3r fuel
def Z1x {b:Int}:KF prog glob 360 f360 [i64 b] [] (Zsl b) (λr=>vstr r) (λ_=>[]):=Wv func360<|.a<|.a<|.i (.bc 1 Zw1<|.c λd=>.r [(2,.cat d)]<|.e 0 [])
 (.bc 1 Zw1<|.a<|.e 0 [])
def Zzr {b:Int}:KF prog glob 335 f335 [i64 b] [] (Zow b) (λr=>vstr r) (λ_=>[]):=Wv func335<|.a<|.bc 2 Z1x<|.c λd=>.bc 6 Z1x<|.c λf=>.r [(3,.cat d),(7,.cat f)]<|.e 0 []
def Z6k {d:Yc}:KF prog glob 301 f301 [slc 2 Zn d] [] (Zsv d) (λr=>slc 1 Zaj r) (λ_=>[]):=Wv func301<|.a<|.bc 1 Zw0<|.a<|.i (.a<|.e 0 [])
 (.r [(1,.len Zn d)]<|.i (.a<|.e 0 [])
 (.a<|.z (.own 3 1 9)<|.a<|.p2 [0,3,4] 1 (λj o=>[.l 0 Zaj j,.s 4 (i64 o)]) (λf=>.n [3] 1 [.l 0 Zaj f])
 (λa3 j o=>.a<|.i (.a<|.b λw x=>.r [(6,.ca Z2h x)]<|.a<|.p2 [0,3,4,5,6,7] 1 (λg p=>[.l 0 Zaj g,.s 7 (i64 p)]) (λq=>.n [0,3,4] 1 [.l 0 Zaj q])
 (λa4 g p=>.r [(2,.len Zn w)]<|.i (.m 2 (λt=>.n [0,3,4,5,6,7] 1 [.l 0 Zaj t]) (.m 2 (λv=>.n [0,3,4,5,6,7] 1 [.l 0 Zaj v]) (.r [(1,.len Zaj g)]<|.i (.c λy=>.r [(2,.app Zaj (λ_=>kR) y)]<|.k)
 (.k)) (λv=>.n<|.bc 1 Zzn<|.bi 3 Zaj<|.bi 7 Zn<|.bc 13 Zzr<|.c λa0=>.bi 17 Zn<|.bc 24 Zzr<|.c λa1=>.c λa2=>.d0 [(14,.cat a0),(25,.cat a1),(27,.app Zaj (λ_=>kR) a2)] 28 [] [27] []<|.k)) (λt=>.n<|.a<|.x2))
 (.u)) (λq=>.n<|.a<|.x2))
 (.u)) (λf=>.n<|.a<|.e 0 [.of Zaj f])))
def Z3s {b:Yc}:KF prog glob 237 f237 [slc 2 Zn b] [] (Zm9 b) (λr=>vb r) (λ_=>[]):=Wv func237<|.a<|.bc 1 Zw0<|.v<|.gt λc d=>.gw<|.rc [(5,.len Zaj c)] [(4,.ca Z6k d)] []<|.e 0 []
def Zd3 {b:ByteArray}:KF prog glob 302 f302 [vstr b] [] (Zb5 b) (λr=>vb r) (λ_=>[]):=Wv func302<|.a<|.v<|.ge λd c=>.gw<|.rc [] [(4,.ca Zae c)] []<|.e 0 []
def Zv7 {o:Zam}:KF prog glob 238 f238 [Zws o] [] (Zf6 o) (λr=>vb r) (λ_=>[]):=Wv func238<|.a<|.bc 2 Zd3<|.v<|.ge λa7 w=>.gw<|.v<|.ge λa8 x=>.gw<|.v<|.ge λa9 y=>.gw<|.v<|.ge λb0 z=>.gw<|.v<|.ge λb1 a0=>.gw<|.v<|.ge λb2 a1=>.gw<|.rc [] [(7,.ca Zd3 w),(13,.ca Zd3 x),(19,.ca Zd3 y),(25,.ca Zd3 z),(31,.ca Zd3 a0),(37,.ca Zd3 a1)] []<|.i (.a<|.e 0 [])
 (.l λa2 d=>.l λa3 k=>.b λb3 p=>.l λu j=>.l λm f=>.to [] [.s 2 (vb (m&&(decide (o.Priority≤(1000:Int)))))] (by
 cases a2
 ·cases a3
  ·cases p
   subst j;subst f;exact .r [(2,.bool d),(7,.bool k)]
  obtain⟨q,c,a4⟩:=bindb (ifT p rfl)
  replace c:=someb c
  obtain⟨a5,n,⟨⟩⟩:=bindb a4;cases q
  ·obtain⟨t,g,⟨⟩⟩:=bindb (ifF n rfl)
   replace g:=someb g
   cases t
   ·subst j
    subst f;exact .r [(2,.bool d),(7,.bool k),(10,.bool c),(14,.bool g)]
   cases u
   ·subst f
    exact .r [(2,.bool d),(7,.bool k),(10,.bool c),(14,.bool g),(21,.bool j)]
   cases m
   ·exact .r [(2,.bool d),(7,.bool k),(10,.bool c),(14,.bool g),(21,.bool j),(26,.bool f)]
   exact .r [(2,.bool d),(7,.bool k),(10,.bool c),(14,.bool g),(21,.bool j),(26,.bool f)]
  cases n;subst j;cases m
  ·exact .r [(2,.bool d),(7,.bool k),(10,.bool c),(26,.bool f)]
  exact .r [(2,.bool d),(7,.bool k),(10,.bool c),(26,.bool f)]
 subst k;obtain⟨q,c,a6⟩:=bindb (ifT p rfl)
 replace c:=someb c
 obtain⟨a5,n,⟨⟩⟩:=bindb a6;cases q
 ·obtain⟨t,g,⟨⟩⟩:=bindb (ifF n rfl)
  replace g:=someb g
  cases t
  ·subst j
   subst f;exact .r [(2,.bool d),(10,.bool c),(14,.bool g)]
  cases u
  ·subst f
   exact .r [(2,.bool d),(10,.bool c),(14,.bool g),(21,.bool j)]
  cases m
  ·exact .r [(2,.bool d),(10,.bool c),(14,.bool g),(21,.bool j),(26,.bool f)]
  exact .r [(2,.bool d),(10,.bool c),(14,.bool g),(21,.bool j),(26,.bool f)]
 cases n;subst j;cases m
 ·exact .r [(2,.bool d),(10,.bool c),(26,.bool f)]
 exact .r [(2,.bool d),(10,.bool c),(26,.bool f)])<|.e 0 [])
def Zya {b:Int}:KF prog glob 239 f239 [i64 b] [] (Zna b) (λr=>vb r) (λ_=>[]):=Wv func239<|.a<|.v<|.rc [] [] []<|.e 0 []
def Zp0 (r:Bool):Exit→St→List Blk→Prop:=FnQ prog f162.results 0 λp K=>p=(vb r)∧K=[]
def Zh4 {c:Zs}:KF prog glob 162 f162 [Zbx c] [] (Zcy c) (λr=>vb r) (λ_=>[]):=Wv func162<|.a<|.bc 2 Zpc<|.v<|.ge λb3 a0=>.gw<|.v<|.v<|.v<|.v<|.rc [(13,.len Zay c.Windows),(19,.len Zau c.Statements),(25,.len Zaw c.Published),(31,.len Zaz c.Hidden)] [(7,.ca Zpc a0)] []<|.i (.a<|.e 0 [])
 (.a<|.p1 [1,3] 1 (λo=>[.s 3 (i64 o)]) (Sum.elim (λ_=>.n [1] 1 []) (λr=>.q (Zp0 r)))
 (λb4 o=>.r [(3,.len Zay c.Windows)]<|.i (.b λb5 f=>.b λb6 g=>.l λa1 j=>.b λb7 p=>.l λa2 k=>.b λa3 m=>.to [1,3] [.s 80 (vb a3)] (by
 cases a1
 ·obtain⟨b8,t,a4⟩:=bindb (ifF p rfl)
  obtain⟨b9,w,⟨⟩⟩:=bindb a4;cases a2
  ·obtain⟨c0,a5,a6⟩:=bindb (ifF m rfl)
   obtain⟨c1,a7,⟨⟩⟩:=bindb a6;exact .d [(3,.idx Zay f),(6,.ca Zae g),(8,.bool j),(14,.idx Zay t),(17,.ca Zf0 w),(21,.bool k),(25,.idx Zay a5),(28,.ca Z3s a7)] 31
  cases m;exact .d [(3,.idx Zay f),(6,.ca Zae g),(8,.bool j),(14,.idx Zay t),(17,.ca Zf0 w),(21,.bool k)] 31
 cases p;subst k;cases m
 exact .d [(3,.idx Zay f),(6,.ca Zae g),(8,.bool j)] 31)<|.i (.a<|.s 0 [] rfl)
 (.a<|.x1))
 (.u)) (fun
 |.inl ()=>(.n<|.a<|.p1 [1,4] 1 (λx=>[.s 4 (i64 x)]) (Sum.elim (λ_=>.n [1] 1 []) (λr=>.q (Zp0 r)))
 (λc2 x=>.r [(3,.len Zau c.Statements)]<|.i (.bi 3 Zau<|.bc 5 Zv7<|.a<|.i (.a<|.s 0 [] rfl)
 (.a<|.x1))
 (.u)) (fun
 |.inl ()=>(.n<|.a<|.p1 [1,5] 1 (λy=>[.s 5 (i64 y)]) (Sum.elim (λ_=>.n [1] 1 []) (λr=>.q (Zp0 r)))
 (λc3 y=>.r [(3,.len Zaw c.Published)]<|.i (.bi 3 Zaw<|.a<|.v<|.v<|.ge λc4 a8=>.gw<|.v<|.ge λc5 a9=>.gw<|.v<|.ge λc6 b0=>.gw<|.rc [] [(11,.ca Zya a8),(17,.ca Zya a9),(23,.ca Zae b0)] []<|.i (.a<|.s 0 [] rfl)
 (.a<|.x1))
 (.u)) (fun
 |.inl ()=>(.n<|.a<|.p1 [1,7] 1 (λz=>[.s 7 (i64 z)]) (Sum.elim (λ_=>.n [] 1 []) (λr=>.q (Zp0 r)))
 (λc7 z=>.r [(3,.len Zaz c.Hidden)]<|.i (.bi 3 Zaz<|.a<|.bc 2 Zae<|.v<|.ge λc8 b1=>.gw<|.v<|.ge λc9 b2=>.gw<|.rc [] [(7,.ca Zae b1),(13,.ca Zwz b2)] []<|.i (.a<|.s 0 [] rfl)
 (.a<|.x1))
 (.u)) (fun
 |.inl ()=>(.n<|.a<|.e 0 [])
 |.inr d0=>.r λ_ _ h=>h))
 |.inr d1=>.r λ_ _ h=>h))
 |.inr d2=>.r λ_ _ h=>h))
 |.inr d3=>.r λ_ _ h=>h))
def Z9j {b:Zb}:KF prog glob 259 f259 [Zv b] [] (Zuo b) (λr=>slc 1 Ze r) (λ_=>[]):=Wv func259<|.a<|.a<|.z (.own 3 1 3)<|.a<|.p2 [1,3,4] 2 (λf g=>[.l 1 Ze f,.s 4 (i64 g)]) (λd=>.n [3] 2 [.l 1 Ze d])
 (λk f g=>.r [(3,.len Zk b.Edges)]<|.i (.c λj=>.r [(3,.app Ze (λ_=>kR) j)]<|.a<|.x2)
 (.u)) (λd=>.n<|.a<|.e 0 [.of Ze d])
def Zw2 {f:Zb} {b:Ya}:KF prog glob 258 f258 [Zv f,slc 1 Ze b] [] (Zpk f b) (λr=>slc 2 Zn r) (λ_=>[]):=Wv func258<|.a<|.a<|.z (.own 5 2 74)<|.a<|.p2 [1,2,5,6] 2 (λg j=>[.l 1 Zn g,.s 6 (i64 j)]) (λd=>.n [5] 2 [.l 1 Zn d])
 (λm g j=>.r [(2,.len Ze b)]<|.i (.bi 4 Ze<|.bi 6 Zk<|.bc 9 Zek<|.d0 [] 15 [] [13,14] []<|.c λk=>.r [(3,.app Zn (λ_=>kR) k)]<|.a<|.x2)
 (.u)) (λd=>.n<|.a<|.e 0 [.of Zn d])
def Z9k (r:Bool):Exit→St→List Blk→Prop:=FnQ prog f343.results 0 λp K=>p=(vb r)∧K=[]
def Zf1 {b:Ya} {c:Int}:KF prog glob 343 f343 [slc 1 Ze b,i64 c] [] (Zdr b c) (λr=>vb r) (λ_=>[]):=Wv func343<|.a<|.a<|.p1 [0,1,5] 0 (λd=>[.s 5 (i64 d)]) (Sum.elim (λ_=>.n [] 0 []) (λr=>.q (Z9k r)))
 (λf d=>.r [(2,.len Ze b)]<|.i (.bi 2 Ze<|.a<|.i (.a<|.s 0 [] rfl)
 (.a<|.x1))
 (.u)) (fun
 |.inl ()=>(.n<|.a<|.e 0 [])
 |.inr g=>.r λ_ _ h=>h)
def Zny {b:Zb} {f:ByteArray}:KF prog glob 261 f261 [Zv b,vstr f] [] (Zgf b f) (λr=>slc 1 Ze r) (λ_=>[]):=Wv func261<|.a<|.a<|.z (.own 5 1 3)<|.a<|.p2 [1,2,5,6] 2 (λg j=>[.l 1 Ze g,.s 6 (i64 j)]) (λd=>.n [5] 2 [.l 1 Ze d])
 (λq g j=>.r [(3,.len Zk b.Edges)]<|.i (.m 2 (λo=>.n [1,2,5,6] 2 [.l 1 Ze o]) (.bi 3 Zk<|.a<|.i (.c λp=>.r [(3,.app Ze (λ_=>kR) p)]<|.k)
 (.k)) (λo=>.n<|.a<|.x2))
 (.u)) (λd=>.n<|.a<|.e 0 [.of Ze d])
def Zqs (a:Zb) (b:Zb) (c:Ya) (d:Z2) (f:Zb) (g:Ya) (i:Z2) (j:Zb) (k:Ya) (l:Z2) (r:(Int×Ye×Ya×Yg)):Exit→St→List Blk→Prop:=InQ prog f312.results 13 (i64 r.1) [.cells (Z3 a),.far [.sl 2 (List.map Zr r.2.1),.own 2 (r.2.2.1.length),.own 3 (r.2.2.2.length)],bf 1 3 Ze r.2.2.1 true,bf 7 184 Z4 r.2.2.2 false,.cells (Z3 b),bf 1 3 Ze c true,.cells (Z4 d),.cells (Z3 f),bf 1 3 Ze g true,.cells (Z4 i),.cells (Z3 j),bf 1 3 Ze k true,.cells (Z4 l)]
def Zv8 {j:Zb} {a6:Ye} {a4:Ya} {a5:Yg} {o:Zb} {p:Ya} {t:Z2} {w:Zb} {x:Ya} {a0:Z2} {a1:Zb} {a2:Ya} {a3:Z2} {a7:Zb} {a8:Int} {a9:Ya}:KI prog glob f312 [.ptr 1 0,Zv a7,i64 a8,slc 1 Ze a9] [.cells (Z3 j),.far [.sl 2 (List.map Zr a6),.own 2 (a4.length),.own 3 (a5.length)],bf 1 3 Ze a4 true,bf 7 184 Z4 a5 false,.cells (Z3 o),bf 1 3 Ze p true,.cells (Z4 t),.cells (Z3 w),bf 1 3 Ze x true,.cells (Z4 a0),.cells (Z3 a1),bf 1 3 Ze a2 true,.cells (Z4 a3)] (Zqh j a6 a4 a5 o p t w x a0 a1 a2 a3 a7 a8 a9) (λr=>i64 r.1) (λr=>[.cells (Z3 j),.far [.sl 2 (List.map Zr r.2.1),.own 2 (r.2.2.1.length),.own 3 (r.2.2.2.length)],bf 1 3 Ze r.2.2.1 true,bf 7 184 Z4 r.2.2.2 false,.cells (Z3 o),bf 1 3 Ze p true,.cells (Z4 t),.cells (Z3 w),bf 1 3 Ze x true,.cells (Z4 a0),.cells (Z3 a1),bf 1 3 Ze a2 true,.cells (Z4 a3)]):=KI.mk1<|.a<|.bc 2 Zf1<|.a<|.i (.a<|.z (.kp [8] 13)<|.g 13)
 (.b λc5 b6=>.r [(3,.q),(5,.cw [.of Ze a4] Zf1 b6)]<|.i (.a<|.z (.kp [8] 13)<|.g 13)
 (.c λb7=>.c λb8=>.r [(0,.m),(2,.app Ze (λ_=>kR) b7),(5,.app Ze (λ_=>kR) b8)]<|.a<|.p3 [0,2,3,5,9] 15 (λb0 b1 b2=>[.l 3 Z4 b1,.f 1 0 (.sl 2 (List.map Zr b0)),.s 9 (i64 b2)]) (Sum.elim (λ(b3,b4)=>.n [0,2] 15 [.l 3 Z4 b4,.f 1 0 (.sl 2 (List.map Zr b3))]) (λr=>.q (Zqs j o p t w x a0 a1 a2 a3 r)))
 (λc6 b0 b1 b2=>.b λb9 c0=>.r [(4,.q),(6,.idx Zr c0),(9,.len Z4 b9.Items)]<|.i (.m 2 (Sum.elim (λb5=>.n [0,2,3,5,9] 15 [.l 3 Z4 b5]) (λr=>.q (Zqs j o p t w x a0 a1 a2 a3 r))) (.bi 5 Zr<|.bi 9 Z4<|.r [(3,.q)]<|.a<|.i (.v<|.gt λc1 c2=>.gw<|.rc [(8,.len Ze c1)] [(7,.ca Zny c2)] []<|.i (.a<|.y (.kp [8] 13)<|.gq 13 rfl)
 (.c λc3=>.d0 [(4,.q),(7,.app Z4 (λ_=>kR) c3),(10,.m)] 8 [] [7] []<|.k))
 (.bc 6 Zjl<|.d [(3,.q)] 7<|.a<|.i (.a<|.y (.kp [8] 13)<|.gq 13 rfl)
 (.y (.share 14)<|.n))) (fun
 |.inl b5=>(.n<|.a<|.x3)
 |.inr c7=>.r λ_ _ h=>Wbu ⟨rfl,h⟩))
 (.u)) (fun
 |.inl (b3,b4)=>(.n<|.c λc4=>.r [(4,.q),(7,.app Ze (λ_=>kR) c4),(10,.m)]<|.a<|.z (.kp [8] 13)<|.g 13)
 |.inr c8=>.r λ_ _ h=>h)))
def Zqt (a:Zb) (b:Zb) (c:Ya) (d:Z2) (f:Zb) (g:Ya) (i:Z2) (r:(Int×Ye×Ya×Yg)):Exit→St→List Blk→Prop:=InQ prog f312.results 10 (i64 r.1) [.cells (Z3 a),.far [.sl 2 (List.map Zr r.2.1),.own 2 (r.2.2.1.length),.own 3 (r.2.2.2.length)],bf 1 3 Ze r.2.2.1 true,bf 7 184 Z4 r.2.2.2 false,.cells (Z3 b),bf 1 3 Ze c true,.cells (Z4 d),.cells (Z3 f),bf 1 3 Ze g true,.cells (Z4 i)]
def Zv9 {j:Zb} {a4:Ye} {a1:Ya} {a3:Yg} {o:Zb} {p:Ya} {t:Z2} {w:Zb} {x:Ya} {a0:Z2} {a5:Zb} {a6:Int} {a7:Ya}:KI prog glob f312 [.ptr 1 0,Zv a5,i64 a6,slc 1 Ze a7] [.cells (Z3 j),.far [.sl 2 (List.map Zr a4),.own 2 (a1.length),.own 3 (a3.length)],bf 1 3 Ze a1 true,bf 7 184 Z4 a3 false,.cells (Z3 o),bf 1 3 Ze p true,.cells (Z4 t),.cells (Z3 w),bf 1 3 Ze x true,.cells (Z4 a0)] (Zqi j a4 a1 a3 o p t w x a0 a5 a6 a7) (λr=>i64 r.1) (λr=>[.cells (Z3 j),.far [.sl 2 (List.map Zr r.2.1),.own 2 (r.2.2.1.length),.own 3 (r.2.2.2.length)],bf 1 3 Ze r.2.2.1 true,bf 7 184 Z4 r.2.2.2 false,.cells (Z3 o),bf 1 3 Ze p true,.cells (Z4 t),.cells (Z3 w),bf 1 3 Ze x true,.cells (Z4 a0)]):=KI.mk1<|.a<|.bc 2 Zf1<|.a<|.i (.a<|.z (.kp [8] 10)<|.g 10)
 (.b λc9 b9=>.r [(3,.q),(5,.cw [.of Ze a1] Zf1 b9)]<|.i (.a<|.z (.kp [8] 10)<|.g 10)
 (.c λc0=>.c λc1=>.r [(0,.m),(2,.app Ze (λ_=>kR) c0),(5,.app Ze (λ_=>kR) c1)]<|.a<|.z (.share 11)<|.p5 [0,2,3,5,9] 12 (λa8 a9 b0 a2 b1=>[.l 2 Ze a9,.l 3 Z4 b0,.l 11 Ze a2,.f 1 0 (.sl 2 (List.map Zr a8)),.s 3 (.own 11 (a2.length)),.s 9 (i64 b1)]) (Sum.elim (λ(b2,b3,b4,b5)=>.n [0,2] 12 [.l 2 Ze b3,.l 3 Z4 b4,.l 11 Ze b5,.f 1 0 (.sl 2 (List.map Zr b2))]) (λr=>.q (Zqt j o p t w x a0 r)))
 (λd1 a8 a9 b0 a2 b1=>.b λc2 c3=>.r [(4,.q),(6,.idx Zr c3),(9,.len Z4 c2.Items)]<|.i (.m 2 (Sum.elim (λ(b6,b7,b8)=>.n [0,2,3,5,9] 12 [.l 2 Ze b7,.l 3 Z4 b8,.f 1 0 (.sl 2 (List.map Zr b6))]) (λr=>.q (Zqt j o p t w x a0 r))) (.bi 5 Zr<|.bi 9 Z4<|.r [(3,.q)]<|.a<|.i (.v<|.gt λc4 c5=>.gw<|.rc [(8,.len Ze c4)] [(7,.ca Zny c5)] []<|.i (.a<|.y (.kp [8] 10)<|.gq 10 rfl)
 (.c λc6=>.d0 [(4,.q),(7,.app Z4 (λ_=>kR) c6),(10,.m)] 8 [] [7] []<|.k))
 (.bc 6 Zjl<|.d [(3,.q)] 7<|.a<|.i (.a<|.y (.kp [8] 10)<|.gq 10 rfl)
 (.b λd2 c7=>.r [(4,.rd (.wkO 11 Ze a2 (.inl func312 (KI.run Zv8 _ c7))))]<|.a<|.i (.a<|.y (.kp [8] 10)<|.gq 10 rfl)
 (.k)))) (fun
 |.inl (b6,b7,b8)=>(.n<|.a<|.x5)
 |.inr d3=>.r λ_ _ h=>Wbu ⟨rfl,h⟩))
 (.u)) (fun
 |.inl (b2,b3,b4,b5)=>(.n<|.c λc8=>.r [(4,.q),(7,.app Ze (λ_=>kR) c8),(10,.m)]<|.a<|.z (.kp [8] 10)<|.g 10)
 |.inr d4=>.r λ_ _ h=>h)))
def Zqu (a:Zb) (b:Zb) (c:Ya) (d:Z2) (r:(Int×Ye×Ya×Yg)):Exit→St→List Blk→Prop:=InQ prog f312.results 7 (i64 r.1) [.cells (Z3 a),.far [.sl 2 (List.map Zr r.2.1),.own 2 (r.2.2.1.length),.own 3 (r.2.2.2.length)],bf 1 3 Ze r.2.2.1 true,bf 7 184 Z4 r.2.2.2 false,.cells (Z3 b),bf 1 3 Ze c true,.cells (Z4 d)]
def Zwa {j:Zb} {a1:Ye} {w:Ya} {a0:Yg} {o:Zb} {p:Ya} {t:Z2} {a2:Zb} {a3:Int} {a4:Ya}:KI prog glob f312 [.ptr 1 0,Zv a2,i64 a3,slc 1 Ze a4] [.cells (Z3 j),.far [.sl 2 (List.map Zr a1),.own 2 (w.length),.own 3 (a0.length)],bf 1 3 Ze w true,bf 7 184 Z4 a0 false,.cells (Z3 o),bf 1 3 Ze p true,.cells (Z4 t)] (Zka j a1 w a0 o p t a2 a3 a4) (λr=>i64 r.1) (λr=>[.cells (Z3 j),.far [.sl 2 (List.map Zr r.2.1),.own 2 (r.2.2.1.length),.own 3 (r.2.2.2.length)],bf 1 3 Ze r.2.2.1 true,bf 7 184 Z4 r.2.2.2 false,.cells (Z3 o),bf 1 3 Ze p true,.cells (Z4 t)]):=KI.mk1<|.a<|.bc 2 Zf1<|.a<|.i (.a<|.z (.kp [8] 7)<|.g 7)
 (.b λc6 b6=>.r [(3,.q),(5,.cw [.of Ze w] Zf1 b6)]<|.i (.a<|.z (.kp [8] 7)<|.g 7)
 (.c λb7=>.c λb8=>.r [(0,.m),(2,.app Ze (λ_=>kR) b7),(5,.app Ze (λ_=>kR) b8)]<|.a<|.z (.share 8)<|.p5 [0,2,3,5,9] 9 (λa5 a6 a7 x a8=>[.l 2 Ze a6,.l 3 Z4 a7,.l 8 Ze x,.f 1 0 (.sl 2 (List.map Zr a5)),.s 3 (.own 8 (x.length)),.s 9 (i64 a8)]) (Sum.elim (λ(a9,b0,b1,b2)=>.n [0,2] 9 [.l 2 Ze b0,.l 3 Z4 b1,.l 8 Ze b2,.f 1 0 (.sl 2 (List.map Zr a9))]) (λr=>.q (Zqu j o p t r)))
 (λc7 a5 a6 a7 x a8=>.b λb9 c0=>.r [(4,.q),(6,.idx Zr c0),(9,.len Z4 b9.Items)]<|.i (.m 2 (Sum.elim (λ(b3,b4,b5)=>.n [0,2,3,5,9] 9 [.l 2 Ze b4,.l 3 Z4 b5,.f 1 0 (.sl 2 (List.map Zr b3))]) (λr=>.q (Zqu j o p t r))) (.bi 5 Zr<|.bi 9 Z4<|.r [(3,.q)]<|.a<|.i (.v<|.gt λc1 c2=>.gw<|.rc [(8,.len Ze c1)] [(7,.ca Zny c2)] []<|.i (.a<|.y (.kp [8] 7)<|.gq 7 rfl)
 (.c λc3=>.d0 [(4,.q),(7,.app Z4 (λ_=>kR) c3),(10,.m)] 8 [] [7] []<|.k))
 (.bc 6 Zjl<|.d [(3,.q)] 7<|.a<|.i (.a<|.y (.kp [8] 7)<|.gq 7 rfl)
 (.b λc8 c4=>.r [(4,.rd (.wkO 8 Ze x (.inl func312 (KI.run Zv9 _ c4))))]<|.a<|.i (.a<|.y (.kp [8] 7)<|.gq 7 rfl)
 (.k)))) (fun
 |.inl (b3,b4,b5)=>(.n<|.a<|.x5)
 |.inr c9=>.r λ_ _ h=>Wbu ⟨rfl,h⟩))
 (.u)) (fun
 |.inl (a9,b0,b1,b2)=>(.n<|.c λc5=>.r [(4,.q),(7,.app Ze (λ_=>kR) c5),(10,.m)]<|.a<|.z (.kp [8] 7)<|.g 7)
 |.inr d1=>.r λ_ _ h=>h)))
def Zqv (a:Zb) (r:(Int×Ye×Ya×Yg)):Exit→St→List Blk→Prop:=InQ prog f312.results 4 (i64 r.1) [.cells (Z3 a),.far [.sl 2 (List.map Zr r.2.1),.own 2 (r.2.2.1.length),.own 3 (r.2.2.2.length)],bf 1 3 Ze r.2.2.1 true,bf 7 184 Z4 r.2.2.2 false]
def Zwb {j:Zb} {w:Ye} {o:Ya} {t:Yg} {x:Zb} {a0:Int}:KI prog glob f312 [.ptr 1 0,Zv x,i64 a0,nils] [.cells (Z3 j),.far [.sl 2 (List.map Zr w),.own 2 (o.length),.own 3 (t.length)],bf 1 3 Ze o false,bf 7 184 Z4 t false] (Zqj j w o t x a0) (λr=>i64 r.1) (λr=>[.cells (Z3 j),.far [.sl 2 (List.map Zr r.2.1),.own 2 (r.2.2.1.length),.own 3 (r.2.2.2.length)],bf 1 3 Ze r.2.2.1 true,bf 7 184 Z4 r.2.2.2 false]):=KI.mk1<|.a<|.bc 2 Zf1<|.a<|.i (.a<|.z (.kp [8] 4)<|.z (.share 2)<|.g 4)
 (.z (.share 2)<|.b λc2 b2=>.r [(3,.q),(5,.cw [.of Ze o] Zf1 b2)]<|.i (.a<|.z (.kp [8] 4)<|.g 4)
 (.c λb3=>.c λb4=>.r [(0,.m),(2,.app Ze (λ_=>kR) b3),(5,.app Ze (λ_=>kR) b4)]<|.a<|.z (.share 5)<|.p5 [0,2,3,5,9] 6 (λa1 a2 a3 p a4=>[.l 2 Ze a2,.l 3 Z4 a3,.l 5 Ze p,.f 1 0 (.sl 2 (List.map Zr a1)),.s 3 (.own 5 (p.length)),.s 9 (i64 a4)]) (Sum.elim (λ(a5,a6,a7,a8)=>.n [0,2] 6 [.l 2 Ze a6,.l 3 Z4 a7,.l 5 Ze a8,.f 1 0 (.sl 2 (List.map Zr a5))]) (λr=>.q (Zqv j r)))
 (λc3 a1 a2 a3 p a4=>.b λb5 b6=>.r [(4,.q),(6,.idx Zr b6),(9,.len Z4 b5.Items)]<|.i (.m 2 (Sum.elim (λ(a9,b0,b1)=>.n [0,2,3,5,9] 6 [.l 2 Ze b0,.l 3 Z4 b1,.f 1 0 (.sl 2 (List.map Zr a9))]) (λr=>.q (Zqv j r))) (.bi 5 Zr<|.bi 9 Z4<|.r [(3,.q)]<|.a<|.i (.v<|.gt λb7 b8=>.gw<|.rc [(8,.len Ze b7)] [(7,.ca Zny b8)] []<|.i (.a<|.y (.kp [8] 4)<|.gq 4 rfl)
 (.c λb9=>.d0 [(4,.q),(7,.app Z4 (λ_=>kR) b9),(10,.m)] 8 [] [7] []<|.k))
 (.bc 6 Zjl<|.d [(3,.q)] 7<|.a<|.i (.a<|.y (.kp [8] 4)<|.gq 4 rfl)
 (.b λc4 c0=>.r [(4,.rd (.wkO 5 Ze p (.inl func312 (KI.run Zwa _ c0))))]<|.a<|.i (.a<|.y (.kp [8] 4)<|.gq 4 rfl)
 (.k)))) (fun
 |.inl (a9,b0,b1)=>(.n<|.a<|.x5)
 |.inr c5=>.r λ_ _ h=>Wbu ⟨rfl,h⟩))
 (.u)) (fun
 |.inl (a5,a6,a7,a8)=>(.n<|.c λc1=>.r [(4,.q),(7,.app Ze (λ_=>kR) c1),(10,.m)]<|.a<|.z (.kp [8] 4)<|.g 4)
 |.inr c6=>.r λ_ _ h=>h)))
def Zyb {c:Zb} {d:Ye} {f:ByteArray}:KF prog glob 260 f260 [Zv c,slc 2 Zr d,vstr f] [] (Zqk c d f) (λr=>.tup [slc 7 Z4 r.1,i64 r.2]) (λ_=>[]):=Wv func260<|.a<|.bc 2 Zjl<|.a<|.a<|.i (.a<|.e 0 [])
 (.r [(1,.m),(2,.m)]<|.z (.gst (.ownF 1 1 1 3))<|.z (.gst (.ownF 1 2 7 184))<|.b λg j=>.r [(3,.inl func312 (KI.run Zwb _ j))]<|.r [(3,.q)]<|.e 0 [.of Z4 g.2.2.2])
def Zfn {g:Zb} {j:Zs} {o:ByteArray}:KF prog glob 183 f183 [Zv g,Zbx j,vstr o] [] (Zdg g j o) (λr=>.tup [slc 2 Zn r.1,i64 r.2]) (λ_=>[]):=Wv func183<|.a<|.bc 1 Zck<|.v<|.ge λa3 w=>.gw<|.rc [] [(5,.ca Zh4 w)] []<|.i (.a<|.e 0 [])
 (.a<|.i (.bc 2 Z9j<|.bc 3 Zw2<|.bc 4 Zt4<|.d [] 5<|.e 0 [])
 (.b λx y=>.r [(4,.ca Zyb y)]<|.a<|.i (.a<|.e 0 [])
 (.a<|.z (.own 10 2 74)<|.a<|.p2 [3,8,10,11] 3 (λp q=>[.l 2 Zn p,.s 11 (i64 q)]) (λf=>.n [10] 3 [.l 2 Zn f])
 (λa4 p q=>.r [(2,.len Z4 x.1)]<|.i (.m 2 (λt=>.n [3,8,10,11] 3 [.l 2 Zn t]) (.bi 2 Z4<|.a<|.i (.bi 5 Z4<|.bc 8 Zny<|.bc 9 Zw2<|.c λa0=>.d0 [(10,.app Zn (λ_=>kR) a0)] 11 [] [10] []<|.k)
 (.bi 2 Z4<|.bc 5 Zek<|.a<|.c λa1=>.r [(3,.app Zn (λ_=>kR) a1)]<|.k)) (λt=>.n<|.a<|.x2))
 (.u)) (λf=>.n<|.z (.share 2)<|.b λa5 a2=>.r [(1,.cw [.of Zn f] Zt4 a2)]<|.e 0 []))))
def Zabg (r:Int):Exit→St→List Blk→Prop:=FnQ prog f130.results 0 λp K=>p=(u32 r)∧K=[]
def Zsp {b:Int}:KF prog glob 130 f130 [i64 b] [] (Zmz b) (λr=>u32 r) (λ_=>[]):=Wv func130<|.a<|.m 1 (Sum.elim (λ_=>.n [] 0 []) (λr=>.q (Zabg r))) (.a<|.m 2 (λc=>.n [3] 0 [.s 4 (vb c)]) (.a<|.i (.k)
 (.a<|.k)) (λc=>.n<|.i (.a<|.q 0 [] rfl)
 (.a<|.i (.a<|.q 0 [] rfl)
 (.m 1 (λd=>.n [] 0 [.s 9 (vb d)]) (.a<|.i (.k)
 (.a<|.k)) (λd=>.n<|.i (.a<|.q 0 [] rfl)
 (.k)))))) (fun
 |.inl ()=>(.n<|.a<|.e 0 [])
 |.inr f=>.r λ_ _ h=>h)
def Zdu:KF prog glob 75 f75 [] [] (Zcq) (λr=>Zbo r) (λ_=>[]):=Wv func75<|.a<|.a<|.a<|.p2 [0,1,2] 2 (λd f=>[.c 1 (Zd d),.s 2 (i64 f)]) (λg=>.n [0,1] 2 [.c 1 (Zd g)])
 (λo d f=>.a<|.i (.b λl m=>.c λj=>.r [(2,.ca Zsp m),(3,.ixd j),(5,.stA (λk=>Zd (Arr5.set d k ({(Arr5.get d k)with Hi:=l}:Za))) 0 2 1 j)]<|.a<|.x2)
 (.u)) (λg=>.n<|.a<|.e 0 [])
def Z7w (r:Bool):Exit→St→List Blk→Prop:=FnQ prog f63.results 0 λp K=>p=(vb r)∧K=[]
def Zce {f:ZB}:KF prog glob 63 f63 [Zbo f] [] (Zbp f) (λr=>vb r) (λ_=>[]):=Wv func63<|.a<|.a<|.p1 [1,3] 1 (λk=>[.s 3 (i64 k)]) (Sum.elim (λ_=>.n [] 1 []) (λr=>.q (Z7w r)))
 (λy k=>.a<|.i (.c λg=>.c λj=>.l λt m=>.b λv o=>.to [1,3] [.s 25 (vb v)] (by
 cases t
 ·obtain⟨p,w⟩:=chkb (ifF o rfl)
  obtain⟨z,x,⟨⟩⟩:=bindb w;exact .d [(1,.ixd g),(3,.ldA Zn (Arr5.get f) 0 2 0 g),(5,.ixd j),(7,.ldA Zn (Arr5.get f) 0 2 1 j),(9,.bool m),(11,.ixd p),(13,.ldA Zn (Arr5.get f) 0 2 1 p),(15,.ca Zsp x)] 18
 cases o
 exact .d [(1,.ixd g),(3,.ldA Zn (Arr5.get f) 0 2 0 g),(5,.ixd j),(7,.ldA Zn (Arr5.get f) 0 2 1 j),(9,.bool m)] 18)<|.i (.a<|.s 0 [] rfl)
 (.a<|.x1))
 (.u)) (fun
 |.inl ()=>(.n<|.a<|.e 0 [])
 |.inr a0=>.r λ_ _ h=>h)
def Zqw {b:ZL}:KF prog glob 309 f309 [slc 10 Zd b] [] (Zgg b) (λr=>slc 10 Zd r) (λ_=>[]):=Wv func309<|.a<|.a<|.z (.own 3 10 76)<|.a<|.p2 [0,3,4] 1 (λf g=>[.l 0 Zd f,.s 4 (i64 g)]) (λd=>.n [3] 1 [.l 0 Zd d])
 (λp f g=>.r [(2,.len Zd b)]<|.i (.m 2 (λj=>.n [0,3,4] 1 [.l 0 Zd j]) (.bi 2 Zd<|.bc 4 Zce<|.a<|.i (.bi 3 Zd<|.c λo=>.r [(6,.app Zd (λ_=>kR) o)]<|.k)
 (.k)) (λj=>.n<|.a<|.x2))
 (.u)) (λd=>.n<|.a<|.e 0 [.of Zd d])
def Z7x {b:Int} {c:Bool} {d:Bool}:KF prog glob 336 f336 [i64 b,vb c,vb d] [] (Zql b c d) (λr=>vb r) (λ_=>[]):=Wv func336<|.a<|.a<|.a<|.i (.v<|.rc [] [] []<|.e 0 [])
 (.a<|.i (.v<|.rc [] [] []<|.e 0 [])
 (.a<|.i (.v<|.rc [] [] []<|.e 0 [])
 (.a<|.e 0 [])))
def Z9l {b:Int} {c:Bool} {d:Bool}:KF prog glob 337 f337 [i64 b,vb c,vb d] [] (Zro b c d) (λr=>vb r) (λ_=>[]):=Wv func337<|.a<|.a<|.a<|.i (.v<|.rc [] [] []<|.e 0 [])
 (.a<|.i (.a<|.e 0 [])
 (.v<|.rc [] [] []<|.e 0 []))
def Z6l {d:ZL} {f:ZL} {j:Int}:KF prog glob 338 f338 [slc 10 Zd d,slc 10 Zd f,i64 j] [] (Zpl d f j) (λr=>slc 2 Zn r) (λ_=>[]):=Wv func338<|.a<|.a<|.z (.own 7 2 74)<|.a<|.p2 [0,1,2,7,8] 1 (λk m=>[.l 0 Zn k,.s 8 (i64 m)]) (λo=>.n [1,2,7] 1 [.l 0 Zn o])
 (λa3 k m=>.r [(2,.len Zd d)]<|.i (.b λw x=>.c λp=>.c λy=>.r [(4,.idx Zd x),(5,.ixd p),(6,.ldA Zn (Arr5.get w) 0 2 0 p),(8,.app Zn (λ_=>kR) y)]<|.a<|.x2)
 (.u)) (λo=>.n<|.a<|.p2 [1,2,7,9] 1 (λq t=>[.l 0 Zn q,.s 9 (i64 t)]) (λg=>.n [7] 1 [.l 0 Zn g])
 (λa4 q t=>.r [(2,.len Zd f)]<|.i (.b λa0 a1=>.c λv=>.c λa2=>.r [(4,.idx Zd a1),(5,.ixd v),(6,.ldA Zn (Arr5.get a0) 0 2 0 v),(8,.app Zn (λ_=>kR) a2)]<|.a<|.x2)
 (.u)) (λg=>.n<|.a<|.e 0 [.of Zn g]))
def Z3t {f:ZL} {j:Int} {o:Int}:KF prog glob 339 f339 [slc 10 Zd f,i64 j,u64 o] [] (Zq6 f j o) (λr=>slc 10 Zd r) (λ_=>[]):=Wv func339<|.a<|.a<|.z (.own 7 10 76)<|.a<|.p2 [0,1,2,7,8] 1 (λp q=>[.l 0 Zd p,.s 8 (i64 q)]) (λg=>.n [7] 1 [.l 0 Zd g])
 (λa7 p q=>.r [(2,.len Zd f)]<|.i (.m 2 (λt=>.n [0,1,2,7,8] 1 [.l 0 Zd t]) (.b λv w=>.c λd=>.l λa1 x=>.b λa2 y=>.to [0,1,2,7,8] [.s 36 (vb a2)] (by
 cases a1
 ·cases y
  exact .r [(3,.idx Zd w),(4,.ixd d),(6,.ldA Zn (Arr5.get v) 0 2 0 d),(10,.bool x)]
 obtain⟨a3,a4,a5⟩:=bindb (ifT y rfl);obtain⟨a0,⟨⟩⟩:=chkb a5
 exact .r [(3,.idx Zd w),(4,.ixd d),(6,.ldA Zn (Arr5.get v) 0 2 0 d),(10,.bool x),(15,.idx Zd a4),(16,.ixd a0),(18,.ldA Zn (Arr5.get a3) 0 2 1 a0)])<|.i (.bi 3 Zd<|.c λa6=>.r [(6,.app Zd (λ_=>kR) a6)]<|.k)
 (.k)) (λt=>.n<|.a<|.x2))
 (.u)) (λg=>.n<|.a<|.e 0 [.of Zd g])
def Z9m (r:Bool):Exit→St→List Blk→Prop:=FnQ prog f340.results 0 λp K=>p=(vb r)∧K=[]
def Z9n {b:ZL} {c:ZL}:KF prog glob 340 f340 [slc 10 Zd b,slc 10 Zd c] [] (Zoz b c) (λr=>vb r) (λ_=>[]):=Wv func340<|.a<|.r [(1,.len Zd b),(3,.len Zd c)]<|.i (.a<|.e 0 [])
 (.a<|.p1 [0,1,5] 0 (λf=>[.s 5 (i64 f)]) (Sum.elim (λ_=>.n [] 0 []) (λr=>.q (Z9m r)))
 (λg f=>.r [(2,.len Zd b)]<|.i (.bi 2 Zd<|.bi 6 Zd<|.d [] 9<|.i (.a<|.s 0 [] rfl)
 (.a<|.x1))
 (.u)) (fun
 |.inl ()=>(.n<|.a<|.e 0 [])
 |.inr j=>.r λ_ _ h=>h))
def Z42 (nr:Nat):∀ {f:ZL} {g:ZL} {t:Int} {j:Int},KF prog glob 305 f305 [slc 10 Zd f,slc 10 Zd g,i64 t,i64 j] [] (Zcd nr f g t j) (λr=>slc 10 Zd r) (λ_=>[]):=by
 induction nr with
 |zero=>intro f g t j;exact⟨func305,λ_ h=>noneb h⟩
 |succ nr ih=>
 intro f g t j
 exact Wv func305<|.a<|.a<|.i (.bc 7 Z7x<|.r [(2,.len Zd f),(5,.len Zd g)]<|.i (.a<|.e 0 [])
  (.a<|.e 0 []))
  (.bc 7 Z9l<|.r [(2,.len Zd f),(5,.len Zd g)]<|.i (.a<|.e 0 [])
  (.a<|.z (.own 9 10 76)<|.bc 3 Z6l<|.bc 5 Zsp<|.b λa2 b5=>.r [(6,.ca Zwv b5)]<|.a<|.z (.wn 10 10)<|.p3 [0,1,2,3,9,10,11,12] 1 (λy a3 a4=>[.l 0 Zd y,.s 10 (slc 10 Zd a3),.s 12 (i64 a4)]) (λa0=>.n [9] 1 [.l 0 Zd a0])
  (λc4 y a3 a4=>.r [(2,.len Zb4 a2)]<|.i (.m 2 (λ(a5,a6)=>.n [0,1,2,3,9,10,11,12] 1 [.l 0 Zd a5,.s 10 (slc 10 Zd a6)]) (.bc 1 Zsp<|.a<|.m 1 (λp=>.n [0,1,2,3,9,10,11,12,13] 1 [.s 13 (u64 p)]) (.r [(3,.len Zb4 a2)]<|.i (.bi 3 Zb4<|.a<|.k)
  (.k)) (λp=>.n<|.bi 4 Zb4<|.bc 6 Z3t<|.bi 11 Zb4<|.bc 13 Z3t<|.b λa1 b6=>.d [(17,.ca ih b6)] 18<|.v<|.v<|.gt λc5 b7=>.gw<|.rc [(4,.len Zd a1)] [(10,.ca Z9n b7)] []<|.i (.r [(1,.len Zd y),(3,.len Zd a1)]<|.p2 [0,1,2,3,9,10,11,12,13,15] 1 (λo q=>[.l 0 Zd o,.s 15 (i64 q)]) (λa7=>.n [0,1,2,3,9,10,11,12] 1 [.l 0 Zd a7])
  (λc6 o q=>.r [(2,.len Zd o)]<|.i (.b λx a8=>.c λa9=>.r [(5,.idx Zd a8),(6,.ixE Zd o q a9),(7,.fdE Zd o q),(8,.stEd Zd a8 (λb0=>Arr5.set x b0 ({(Arr5.get x b0)with Hi:=(wrap .u32 p)}:Za)) 0 2 1 a9)]<|.w (.pick [0,1,2,3,9,10,11,12,13,15])<|.w (.ln 0 (lset o (Int.toNat q) (Arr5.set x j ({(Arr5.get x j)with Hi:=(wrap .u32 p)}:Za))))<|.a<|.x2)
  (.u)) (λa7=>.n<|.k))
  (.a<|.a<|.p2 [0,1,2,3,9,10,11,12,13,14,16] 1 (λb1 b2=>[.l 0 Zd b1,.s 16 (i64 b2)]) (λb3=>.n [0,1,2,3,9,10,11,12] 1 [.l 0 Zd b3])
  (λc7 b1 b2=>.r [(2,.len Zd a1)]<|.i (.b λb8 b9=>.r [(2,.idx Zd b9)]<|.b λc0 c1=>.c λb4=>.r [(3,.idx Zb4 c1),(9,.ixd b4),(10,.stA (λc2=>Zd (Arr5.set b8 c2 (Za.mk (wrap .u32 c0) (wrap .u32 p)))) 0 2 0 b4)]<|.c λc3=>.r [(3,.app Zd (λ_=>kR) c3)]<|.a<|.x2)
  (.u)) (λb3=>.n<|.k)))) (λ(a5,a6)=>.n<|.a<|.x3))
  (.u)) (λa0=>.n<|.a<|.e 0 [.of Zd a0])))
def Zqx {a:ZL} {b:ZL} {c:Int} {d:Int}:KF prog glob 305 f305 [slc 10 Zd a,slc 10 Zd b,i64 c,i64 d] [] (Zcd fuel a b c d) (λr=>slc 10 Zd r) (λ_=>[]):=Z42 fuel
def Z7y {b:ZL}:KF prog glob 306 f306 [slc 10 Zd b] [] (Zx7 b) (λr=>slc 10 Zd r) (λ_=>[]):=Wv func306<|.a<|.bc 1 Zqw<|.bc 2 Zqx<|.a<|.e 0 []
def Zoq:KF prog glob 244 f244 [] [] (Zgw) (λr=>slc 10 Zd r) (λ_=>[]):=Wv func244<|.a<|.a<|.z (.own 1 10 76)<|.a<|.a<|.p2 [1,2,3] 1 (λg j=>[.l 0 Zd g,.s 3 (i64 j)]) (λk=>.n [1] 1 [.l 0 Zd k])
 (λx g j=>.r [(2,.len Zn [Za.mk (0:Int) (0:Int),Za.mk (2:Int) (5:Int),Za.mk (7:Int) (16:Int),Za.mk (18:Int) (255:Int)])]<|.i (.bc 0 Zdu<|.a<|.bi 2 Zn<|.a<|.c λp=>.r [(3,.app Zd (λ_=>kR) p)]<|.a<|.x2)
 (.u)) (λk=>.n<|.a<|.p2 [1,5] 1 (λm o=>[.l 0 Zd m,.s 5 (u32 o)]) (λf=>.n [1] 1 [.l 0 Zd f])
 (λy m o=>.a<|.i (.bc 0 Zdu<|.a<|.a<|.c λq=>.r [(3,.app Zd (λ_=>kR) q)]<|.a<|.x2)
 (.u)) (λf=>.n<|.b λd t=>.r [(0,.ca Zdu t)]<|.a<|.a<|.a<|.z (.share 0)<|.c λv=>.b λa0 w=>.r [(4,.app Zd (λ_=>kR) v),(5,.cw [.of Zd (f++[({({({d with x2:=(Za.mk (1:Int) (1:Int))}:ZB)with x4:=(Za.mk (8:Int) (8:Int))}:ZB)with x3:=({d.x3 with Hi:=(7:Int)}:Za)}:ZB),({({({d with x2:=(Za.mk (1:Int) (1:Int))}:ZB)with x4:=(Za.mk (8:Int) (8:Int))}:ZB)with x3:=({d.x3 with Lo:=(9:Int)}:Za)}:ZB)])] Z7y w)]<|.e 0 []))
def Zyc (r:Bool):Exit→St→List Blk→Prop:=FnQ prog f341.results 0 λp K=>p=(vb r)∧K=[]
def Z7z {f:ZL} {g:ZL} {j:Int}:KF prog glob 341 f341 [slc 10 Zd f,slc 10 Zd g,i64 j] [] (Znd f g j) (λr=>vb r) (λ_=>[]):=Wv func341<|.a<|.r [(1,.len Zd f),(3,.len Zd g)]<|.i (.a<|.e 0 [])
 (.a<|.p1 [0,1,2,7] 0 (λk=>[.s 7 (i64 k)]) (Sum.elim (λ_=>.n [] 0 []) (λr=>.q (Zyc r)))
 (λx k=>.r [(2,.len Zd f)]<|.i (.a<|.p1 [0,1,2,7,8] 0 (λl=>[.s 8 (i64 l)]) (Sum.elim (λ_=>.n [0,1,2,7] 0 []) (λr=>.q (Zyc r)))
 (λy l=>.a<|.i (.b λp t=>.c λm=>.b λv w=>.c λo=>.d [(3,.idx Zd t),(4,.ixd m),(5,.ldA Zn (Arr5.get p) 0 2 0 m),(9,.idx Zd w),(10,.ixd o),(11,.ldA Zn (Arr5.get v) 0 2 0 o)] 13<|.i (.a<|.s 0 [] rfl)
 (.a<|.x1))
 (.u)) (fun
 |.inl ()=>(.n<|.a<|.x1)
 |.inr z=>.r λ_ _ h=>Wbu ⟨rfl,h⟩))
 (.u)) (fun
 |.inl ()=>(.n<|.a<|.e 0 [])
 |.inr a0=>.r λ_ _ h=>h))
def Zqc (r:Bool):Exit→St→List Blk→Prop:=FnQ prog f310.results 0 λp K=>p=(vb r)∧K=[]
def Zzs (nr:Nat):∀ {f:ZL} {j:Int},KF prog glob 310 f310 [slc 10 Zd f,i64 j] [] (Zd1 nr f j) (λr=>vb r) (λ_=>[]):=by
 induction nr with
 |zero=>intro f j;exact⟨func310,λ_ h=>noneb h⟩
 |succ nr ih=>
 intro f j
 exact Wv func310<|.a<|.a<|.i (.r [(1,.len Zd f)]<|.e 0 [])
  (.a<|.a<|.z (.wn 5 10)<|.p2 [0,1,5,6] 0 (λw x=>[.s 5 (slc 10 Zd w),.s 6 (i64 x)]) (Sum.elim (λ_=>.n [] 0 []) (λr=>.q (Zqc r)))
  (λc5 w x=>.r [(2,.len Zd f)]<|.i (.m 2 (Sum.elim (λt=>.n [0,1,5,6] 0 [.s 5 (slc 10 Zd t)]) (λr=>.q (Zqc r))) (.a<|.p1 [0,1,5,6,7] 0 (λy=>[.s 7 (i64 y)]) (λa0=>.n [0,1,5,6,7] 0 [.s 7 (i64 a0)])
  (λc6 y=>.l λb1 a1=>.b λb2 a2=>.to [0,1,5,6,7] [.s 43 (vb b2)] (by
   cases b1
   ·cases a2
    exact .d [(2,.len Zd f),(4,.bool a1)] 19
   obtain⟨b3,b4,o⟩:=bindb (ifT a2 rfl);obtain⟨a3,o⟩:=chkb o;obtain⟨b5,b6,o⟩:=bindb o;obtain⟨a4,⟨⟩⟩:=chkb o
   exact .d [(2,.len Zd f),(4,.bool a1),(8,.idx Zd b4),(9,.ixd a3),(10,.ldA Zn (Arr5.get b3) 0 2 0 a3),(14,.idx Zd b6),(15,.ixd a4),(16,.ldA Zn (Arr5.get b5) 0 2 0 a4)] 19)<|.i (.a<|.x1)
  (.u)) (λa0=>.n<|.c λb7=>.r [(3,.slice Zd f b7)]<|.m 1 (Sum.elim (λ_=>.n [0,1,6,8] 0 []) (λr=>.q (Zqc r))) (.a<|.i (.b λa5 b8=>.c λa6=>.b λa7 b9=>.c λa8=>.to [0,1,5,6,8] [.k 0 (.cells (Zn (Arr5.get a5 j))),.k 1 (.cells (Zn (Arr5.get a7 j))),.s 9 (.ptr 0 0),.s 10 (.ptr 1 0)] (by
   exact .g [(4,.idx Zd b8),(5,.ixd a6),(6,.ldA Zn (Arr5.get a5) 0 2 0 a6),(10,.idx Zd b9),(11,.ixd a8),(12,.ldA Zn (Arr5.get a7) 0 2 0 a8)] 16 (.e 14 13 (.d [] [13,14,15] []) (.d [0,1,2,3,4,5,6,7,8,9,10,11,12,14,13,15] [14,13,15] [(0,1)])))<|.l λc0 v=>.b λc1 a9=>.to [0,1,6,8] [.s 84 (vb c1)] (by
   cases c0
   ·obtain⟨c2,p,c3⟩:=bindb (ifF a9 rfl)
    replace p:=someb p
    obtain⟨c7,b0,⟨⟩⟩:=bindb c3;cases c2
    ·cases b0
     exact .r [(5,.bool v),(12,.bool p)]
    obtain⟨c8,c4,⟨⟩⟩:=bindb (ifT b0 rfl);exact .r [(5,.bool v),(12,.bool p),(17,.ca Z7z c4)]
   cases a9
   exact .r [(5,.bool v)])<|.i (.a<|.q 0 [] rfl)
  (.k))
  (.k)) (fun
  |.inl ()=>(.n<|.bc 3 ih<|.a<|.i (.a<|.q 0 [] rfl)
  (.a<|.k))
  |.inr c9=>.r λ_ _ h=>Wbu ⟨rfl,h⟩))) (fun
  |.inl t=>(.n<|.r [(2,.len Zd t)]<|.x2)
  |.inr d0=>.r λ_ _ h=>Wbu ⟨rfl,h⟩))
  (.u)) (fun
  |.inl ()=>(.n<|.a<|.e 0 [])
  |.inr d1=>.r λ_ _ h=>h))
def Z2i {a:ZL} {b:Int}:KF prog glob 310 f310 [slc 10 Zd a,i64 b] [] (Zd1 fuel a b) (λr=>vb r) (λ_=>[]):=Zzs fuel
def Zjm {b:ZL}:KF prog glob 249 f249 [slc 10 Zd b] [] (Zd6 b) (λr=>vb r) (λ_=>[]):=Wv func249<|.a<|.v<|.gt λc d=>.gw<|.v<|.gt λg f=>.gw<|.rc [(1,.len Zd b),(6,.len Zd c),(8,.len Zd b)] [(5,.ca Zqw d),(13,.ca Z2i f)] []<|.e 0 []
def Zvz {b:ZL}:KF prog glob 304 f304 [slc 10 Zd b] [] (Zjx b) (λr=>.tup [slc 10 Zd r.1,i64 r.2]) (λ_=>[]):=Wv func304<|.a<|.r [(1,.len Zd b)]<|.i (.a<|.e 0 [])
 (.a<|.e 0 [])
def Zzt (r:(ZL×Int)):Exit→St→List Blk→Prop:=FnQ prog f243.results 0 λp K=>p=(.tup [slc 10 Zd r.1,i64 r.2])∧K=[]
def Zuq {b:ZL}:KF prog glob 243 f243 [slc 10 Zd b] [] (Zep b) (λr=>.tup [slc 10 Zd r.1,i64 r.2]) (λ_=>[]):=Wv func243<|.a<|.a<|.a<|.z (.wn 4 10)<|.p2 [0,4,5] 0 (λd f=>[.s 4 (slc 10 Zd d),.s 5 (i64 f)]) (Sum.elim (λg=>.n [4] 0 [.s 4 (slc 10 Zd g)]) (λr=>.q (Zzt r)))
 (λo d f=>.r [(2,.len Zd b)]<|.i (.m 2 (Sum.elim (λj=>.n [0,4,5] 0 [.s 4 (slc 10 Zd j)]) (λr=>.q (Zzt r))) (.bi 2 Zd<|.bc 4 Zce<|.a<|.i (.k)
 (.c λl=>.bc 6 Zqx<|.bc 7 Zvz<|.r [(5,.slice Zd b l)]<|.a<|.i (.a<|.q 0 [] rfl)
 (.a<|.k))) (fun
 |.inl j=>(.n<|.a<|.x2)
 |.inr p=>.r λ_ _ h=>Wbu ⟨rfl,h⟩))
 (.u)) (fun
 |.inl g=>(.n<|.a<|.e 0 [])
 |.inr t=>.r λ_ _ h=>h)
def Zyd {b:ZL}:KF prog glob 308 f308 [slc 10 Zd b] [] (Zne b) (λr=>.tup [slc 10 Zd r.1,i64 r.2]) (λ_=>[]):=Wv func308<|.a<|.bc 1 Zjm<|.a<|.i (.a<|.e 0 [])
 (.bc 1 Zuq<|.a<|.e 0 [])
def Zr8 {b:ZL} {c:ZL} {d:Int}:KF prog glob 247 f247 [slc 10 Zd b,slc 10 Zd c,i64 d] [] (Zgx b c d) (λr=>.tup [slc 10 Zd r.1,i64 r.2]) (λ_=>[]):=Wv func247<|.a<|.bc 1 Zyd<|.a<|.a<|.i (.a<|.e 0 [])
 (.bc 1 Zyd<|.a<|.a<|.i (.a<|.e 0 [])
 (.bc 3 Zqx<|.bc 4 Zvz<|.a<|.e 0 []))
def Ze8 {b:ZL} {c:ZL}:KF prog glob 167 f167 [slc 10 Zd b,slc 10 Zd c] [] (Zby b c) (λr=>.tup [slc 10 Zd r.1,i64 r.2]) (λ_=>[]):=Wv func167<|.a<|.bc 2 Zr8<|.a<|.e 0 []
def Z3u {b:Z2}:KF prog glob 303 f303 [Z5t b] [] (Znf b) (λr=>slc 10 Zd r) (λ_=>[]):=Wv func303<|.a<|.bc 0 Zdu<|.a<|.a<|.a<|.bc 0 Zoq<|.bc 3 Ze8<|.d [] 8<|.a<|.e 0 []
def Zt6 {b:ZL} {c:ZL}:KF prog glob 169 f169 [slc 10 Zd b,slc 10 Zd c] [] (Zez b c) (λr=>.tup [slc 10 Zd r.1,i64 r.2]) (λ_=>[]):=Wv func169<|.a<|.bc 2 Zr8<|.a<|.e 0 []
def Z3v (r:(ZL×Int)):Exit→St→List Blk→Prop:=FnQ prog f241.results 0 λp K=>p=(.tup [slc 10 Zd r.1,i64 r.2])∧K=[]
def Zvb {c:Zs} {d:ByteArray}:KF prog glob 241 f241 [Zbx c,vstr d] [] (Zng c d) (λr=>.tup [slc 10 Zd r.1,i64 r.2]) (λ_=>[]):=Wv func241<|.a<|.bc 1 Zh4<|.a<|.i (.a<|.e 0 [])
 (.a<|.i (.bc 0 Zoq<|.a<|.e 0 [])
 (.b λk l=>.r [(4,.ca Zyb l)]<|.a<|.i (.a<|.e 0 [])
 (.a<|.a<|.z (.wn 8 10)<|.p2 [6,8,9] 1 (λf g=>[.s 8 (slc 10 Zd f),.s 9 (i64 g)]) (Sum.elim (λj=>.n [8] 1 [.s 8 (slc 10 Zd j)]) (λr=>.q (Z3v r)))
 (λm f g=>.r [(2,.len Z4 k.1)]<|.i (.bi 3 Z4<|.bc 5 Z3u<|.bc 6 Zt6<|.a<|.a<|.i (.a<|.s 0 [] rfl)
 (.a<|.x2))
 (.u)) (fun
 |.inl j=>(.n<|.a<|.e 0 [])
 |.inr o=>.r λ_ _ h=>h))))
def Zvc {d:Yc} {f:Yc}:KF prog glob 246 f246 [slc 2 Zn d,slc 2 Zn f] [] (Znh d f) (λr=>.tup [slc 10 Zd r.1,i64 r.2]) (λ_=>[]):=Wv func246<|.a<|.a<|.z (.own 6 10 76)<|.a<|.p2 [0,1,6,7] 1 (λj k=>[.l 0 Zd j,.s 7 (i64 k)]) (λg=>.n [6] 1 [.l 0 Zd g])
 (λv j k=>.r [(2,.len Zn d)]<|.i (.a<|.p2 [0,1,6,7,8] 1 (λm o=>[.l 0 Zd m,.s 8 (i64 o)]) (λp=>.n [0,1,6,7] 1 [.l 0 Zd p])
 (λw m o=>.r [(2,.len Zn f)]<|.i (.bc 0 Zdu<|.a<|.bi 2 Zn<|.bi 6 Zn<|.d0 [] 10 [] [9] []<|.c λq=>.r [(3,.app Zd (λ_=>kR) q)]<|.a<|.x2)
 (.u)) (λp=>.n<|.a<|.x2))
 (.u)) (λg=>.n<|.z (.share 0)<|.b λr88 t=>.r [(1,.cw [.of Zd g] Zuq t)]<|.e 0 [])
def Zvd {b:ZL} {c:ZL}:KF prog glob 168 f168 [slc 10 Zd b,slc 10 Zd c] [] (Zfs b c) (λr=>.tup [slc 10 Zd r.1,i64 r.2]) (λ_=>[]):=Wv func168<|.a<|.bc 2 Zr8<|.a<|.e 0 []
def Z0x (r:(ZL×Int)):Exit→St→List Blk→Prop:=FnQ prog f166.results 0 λp K=>p=(.tup [slc 10 Zd r.1,i64 r.2])∧K=[]
def Zt7 {c:Zb} {b:Zs} {d:Int}:KF prog glob 166 f166 [Zv c,Zbx b,i64 d] [] (Zkb c b d) (λr=>.tup [slc 10 Zd r.1,i64 r.2]) (λ_=>[]):=Wv func166<|.a<|.bc 1 Zck<|.v<|.ge λl j=>.gw<|.rc [] [(5,.ca Zh4 j)] []<|.i (.a<|.e 0 [])
 (.v<|.rc [(6,.len Zau b.Statements)] [] []<|.i (.a<|.e 0 [])
 (.bi 3 Zau<|.a<|.bc 4 Zfn<|.a<|.a<|.i (.a<|.e 0 [])
 (.bc 4 Zfn<|.a<|.a<|.i (.a<|.e 0 [])
 (.bc 3 Zvb<|.a<|.a<|.i (.a<|.e 0 [])
 (.a<|.m 1 (Sum.elim (λ(f,g)=>.n [8,9,11,12,13,14] 3 [.s 13 (slc 2 Zn f),.s 14 (slc 2 Zn g)]) (λr=>.q (Z0x r))) (.a<|.i (.bc 4 Zfn<|.a<|.a<|.i (.a<|.q 0 [] rfl)
 (.bc 4 Zfn<|.a<|.a<|.i (.a<|.q 0 [] rfl)
 (.k)))
 (.y (.wn 13 2)<|.y (.wn 14 2)<|.k)) (fun
 |.inl (f,g)=>(.n<|.bc 2 Zvc<|.a<|.a<|.i (.a<|.e 0 [])
 (.bc 2 Ze8<|.a<|.v<|.rc [] [] []<|.i (.a<|.e 0 [])
 (.bc 2 Zvc<|.a<|.a<|.i (.a<|.e 0 [])
 (.bc 2 Zvd<|.a<|.e 0 []))))
 |.inr o=>.r λ_ _ h=>h))))))
def Z3w (r:Bool):Exit→St→List Blk→Prop:=FnQ prog f242.results 0 λp K=>p=(vb r)∧K=[]
def Zre {b:Zb} {c:ByteArray}:KF prog glob 242 f242 [Zv b,vstr c] [] (Zq7 b c) (λr=>vb r) (λ_=>[]):=Wv func242<|.a<|.a<|.p1 [1,2,5] 1 (λd=>[.s 5 (i64 d)]) (Sum.elim (λ_=>.n [] 1 []) (λr=>.q (Z3w r)))
 (λf d=>.r [(3,.len Zh b.Devices)]<|.i (.bi 3 Zh<|.a<|.i (.a<|.s 0 [] rfl)
 (.a<|.x1))
 (.u)) (fun
 |.inl ()=>(.n<|.a<|.e 0 [])
 |.inr g=>.r λ_ _ h=>h)
def Zlm (r:Int):Exit→St→List Blk→Prop:=FnQ prog f163.results 0 λp K=>p=(i64 r)∧K=[]
def Zw3 {w:Zb} {f:Zs}:KF prog glob 163 f163 [Zv w,Zbx f] [] (Zld w f) (λr=>i64 r) (λ_=>[]):=Wv func163<|.a<|.bc 1 Zck<|.v<|.ge λb1 a3=>.gw<|.rc [] [(5,.ca Zh4 a3)] []<|.i (.a<|.e 0 [])
 (.a<|.p1 [2,3,5] 2 (λx=>[.s 5 (i64 x)]) (Sum.elim (λ_=>.n [2,3] 2 []) (λr=>.q (Zlm r)))
 (λb2 x=>.r [(3,.len Zr f.Groups)]<|.i (.bi 5 Zr<|.bc 8 Zfn<|.d [] 13<|.a<|.i (.a<|.s 0 [] rfl)
 (.a<|.x1))
 (.u)) (fun
 |.inl ()=>(.n<|.a<|.p1 [2,3,8] 2 (λy=>[.s 8 (i64 y)]) (Sum.elim (λ_=>.n [2,3] 2 []) (λr=>.q (Zlm r)))
 (λb3 y=>.r [(3,.len Zr f.Services)]<|.i (.bi 4 Zr<|.bc 7 Zvb<|.d [] 12<|.a<|.i (.a<|.s 0 [] rfl)
 (.a<|.x1))
 (.u)) (fun
 |.inl ()=>(.n<|.a<|.p1 [2,3,11] 2 (λz=>[.s 11 (i64 z)]) (Sum.elim (λ_=>.n [2,3] 2 []) (λr=>.q (Zlm r)))
 (λb4 z=>.r [(3,.len Zau f.Statements)]<|.i (.bi 3 Zau<|.a<|.bc 3 Zt7<|.a<|.a<|.i (.a<|.s 0 [] rfl)
 (.l λa4 g=>.b λb5 a0=>.l λa5 k=>.b λa6 m=>.to [2,3,11] [.s 114 (vb a6)] (by
 cases a4
 ·cases a0
  subst k;obtain⟨o,c,a7⟩:=bindb (ifF m rfl)
  replace c:=someb c
  obtain⟨a8,j,⟨⟩⟩:=bindb a7;cases o
  ·cases j
   exact .r [(3,.bool g),(14,.bool c)]
  obtain⟨a9,p,⟨⟩⟩:=bindb (ifT j rfl);exact .r [(3,.bool g),(14,.bool c),(19,.ca Zf0 p)]
 obtain⟨b6,t,⟨⟩⟩:=bindb (ifT a0 rfl);cases a5
 ·obtain⟨o,c,b0⟩:=bindb (ifF m rfl)
  replace c:=someb c
  obtain⟨a8,j,⟨⟩⟩:=bindb b0;cases o
  ·cases j
   exact .r [(3,.bool g),(7,.ca Zre t),(10,.bool k),(14,.bool c)]
  obtain⟨a9,p,⟨⟩⟩:=bindb (ifT j rfl);exact .r [(3,.bool g),(7,.ca Zre t),(10,.bool k),(14,.bool c),(19,.ca Zf0 p)]
 cases m
 exact .r [(3,.bool g),(7,.ca Zre t),(10,.bool k)])<|.i (.a<|.s 0 [] rfl)
 (.a<|.x1)))
 (.u)) (fun
 |.inl ()=>(.n<|.a<|.p1 [2,3,15] 2 (λa1=>[.s 15 (i64 a1)]) (Sum.elim (λ_=>.n [2,3] 2 []) (λr=>.q (Zlm r)))
 (λb7 a1=>.r [(3,.len Zaw f.Published)]<|.i (.bi 4 Zaw<|.bc 7 Zjk<|.d [] 9<|.i (.a<|.s 0 [] rfl)
 (.a<|.x1))
 (.u)) (fun
 |.inl ()=>(.n<|.a<|.p1 [2,3,16] 2 (λa2=>[.s 16 (i64 a2)]) (Sum.elim (λ_=>.n [] 2 []) (λr=>.q (Zlm r)))
 (λb8 a2=>.r [(3,.len Zaz f.Hidden)]<|.i (.bi 4 Zaz<|.bc 7 Zjk<|.d [] 9<|.i (.a<|.s 0 [] rfl)
 (.bi 5 Zaz<|.bc 8 Zfn<|.d [] 13<|.a<|.i (.a<|.s 0 [] rfl)
 (.a<|.x1)))
 (.u)) (fun
 |.inl ()=>(.n<|.a<|.e 0 [])
 |.inr b9=>.r λ_ _ h=>h))
 |.inr c0=>.r λ_ _ h=>h))
 |.inr c1=>.r λ_ _ h=>h))
 |.inr c2=>.r λ_ _ h=>h))
 |.inr c3=>.r λ_ _ h=>h))
def Zel {b:Zb} {c:Int} {d:Int}:KF prog glob 181 f181 [Zv b,i64 c,i64 d] [] (Zbg b c d) (λr=>Zbo r) (λ_=>[]):=Wv func181<|.a<|.bc 0 Zdu<|.a<|.bi 3 Zk<|.bc 6 Zek<|.a<|.bi 3 Zk<|.bc 6 Zek<|.a<|.a<|.e 0 []
def Z70 {d:Zb}:KF prog glob 164 f164 [Zv d] [] (Ztw d) (λr=>.tup [slc 10 Zd r.1,i64 r.2]) (λ_=>[]):=Wv func164<|.a<|.bc 1 Zck<|.a<|.i (.a<|.e 0 [])
 (.a<|.z (.own 4 10 76)<|.a<|.p2 [1,4,5] 2 (λg j=>[.l 1 Zd g,.s 5 (i64 j)]) (λf=>.n [4] 2 [.l 1 Zd f])
 (λx g j=>.r [(3,.len Zk d.Edges)]<|.i (.a<|.p2 [1,4,5,6] 2 (λo p=>[.l 1 Zd o,.s 6 (i64 p)]) (λq=>.n [1,4,5] 2 [.l 1 Zd q])
 (λy o p=>.r [(3,.len Zk d.Edges)]<|.i (.m 2 (λt=>.n [1,4,5,6] 2 [.l 1 Zd t]) (.a<|.i (.bc 4 Zel<|.c λv=>.r [(6,.app Zd (λ_=>kR) v)]<|.k)
 (.k)) (λt=>.n<|.a<|.x2))
 (.u)) (λq=>.n<|.a<|.x2))
 (.u)) (λf=>.n<|.z (.share 1)<|.b λa0 w=>.r [(1,.cw [.of Zd f] Zuq w)]<|.a<|.i (.a<|.e 0 [])
 (.bc 1 Zoq<|.bc 2 Ze8<|.a<|.e 0 [])))
def Z6m {b:Yc} {c:Int}:KF prog glob 307 f307 [slc 2 Zn b,i64 c] [] (Zsw b c) (λr=>vb r) (λ_=>[]):=Wv func307<|.a<|.v<|.v<|.gt λf d=>.gw<|.rc [] [(10,.ca Zrd d)] []<|.e 0 []
def Z43 {f:Zs} {g:Int} {i:Int}:KF prog glob 245 f245 [Zbx f,i64 g,i64 i] [] (Zr2 f g i) (λr=>vb r) (λ_=>[]):=Wv func245<|.a<|.bi 3 Zau<|.a<|.bc 3 Zf0<|.a<|.l λm d=>.b λn j=>.to [] [.s 6 (vb n)] (by
 cases m
 ·obtain⟨o,c,p⟩:=bindb (ifF j rfl)
  replace c:=someb c
  obtain⟨v,k,⟨⟩⟩:=bindb p;cases o
  ·cases k
   exact .r [(2,.bool d),(5,.bool c)]
  obtain⟨w,q,t⟩:=bindb (ifT k rfl);obtain⟨x,u,⟨⟩⟩:=bindb t;exact .r [(2,.bool d),(5,.bool c),(9,.idx Zay q),(13,.ca Z6m u)]
 cases j
 exact .r [(2,.bool d)])<|.e 0 []
def Z6n {b:Zs} {f:Int}:KF prog glob 165 f165 [Zbx b,i64 f] [] (Zsx b f) (λr=>slc 1 Ze r) (λ_=>[]):=Wv func165<|.a<|.bc 1 Zh4<|.v<|.v<|.rc [] [] []<|.i (.a<|.e 0 [])
 (.a<|.z (.own 5 1 3)<|.a<|.p2 [1,2,5,6] 2 (λg j=>[.l 1 Ze g,.s 6 (i64 j)]) (λd=>.n [5] 2 [.l 1 Ze d])
 (λy g j=>.a<|.i (.a<|.p2 [1,2,5,6,7] 2 (λo p=>[.l 1 Ze o,.s 7 (i64 p)]) (λq=>.n [1,2,5,6] 2 [.l 1 Ze q])
 (λa0 o p=>.r [(3,.len Zau b.Statements)]<|.i (.m 2 (λt=>.n [1,2,5,6,7] 2 [.l 1 Ze t]) (.bi 3 Zau<|.v<|.gt λa1 w=>.gw<|.rc [] [(12,.ca Z43 w)] []<|.i (.c λx=>.r [(3,.app Ze (λ_=>kR) x)]<|.k)
 (.k)) (λt=>.n<|.a<|.x2))
 (.u)) (λq=>.n<|.a<|.x2))
 (.u)) (λd=>.n<|.a<|.e 0 [.of Ze d]))
def Z9o {d:Yv} {j:ByteArray} {g:ZL}:KF prog glob 170 f170 [slc 2 Zag d,vstr j,slc 10 Zd g] [] (Zup d j g) (λr=>.tup [slc 2 Zag r.1,i64 r.2]) (λ_=>[]):=Wv func170<|.a<|.v<|.rc [(4,.len Zd g)] [] []<|.i (.a<|.e 0 [])
 (.a<|.p1 [0,1,2,8] 0 (λo=>[.s 8 (i64 o)]) (λf=>.n [0,1,2,8] 0 [.s 8 (i64 f)])
 (λa4 o=>.v<|.gt λa5 q=>.gw<|.rc [(2,.len Zag d)] [(7,.idx Zag q)] []<|.i (.a<|.x1)
 (.u)) (λf=>.n<|.v<|.ge λa6 t=>.gw<|.rc [(2,.len Zag d)] [(7,.idx Zag t)] []<|.i (.c λw=>.c λx=>.c λy=>.c λa0=>.c λa1=>.d0 [(0,.m),(3,.slice Zag d w),(4,.app Zag (λ_=>kR) x),(9,.app Zag (λ_=>kR) y),(12,.slice Zag d a0),(13,.app Zag (λ_=>kR) a1)] 14 [] [0,4,9,13] []<|.e 0 [.of Zag (((([]:Yv)++(List.drop (Int.toNat (0:Int)) (List.take (Int.toNat f) d)))++[Z9.mk j g])++(List.drop (Int.toNat f) (List.take (Int.toNat (d.length:Int)) d)))])
 (.bi 2 Zag<|.b λk a2=>.r [(6,.ca Zt6 a2)]<|.c λa3=>.r [(0,.m),(2,.app Zag (λ_=>kR) a3)]<|.b λl p=>.r [(3,.idx Zag p),(4,.fdE Zag (([]:Yv)++d) f),(5,.stE Zag p ({l with Set:=k.1}:Z9))]<|.z (.pick [10,11])<|.z (.ln 0 (lset (([]:Yv)++d) (Int.toNat f) ({l with Set:=k.1}:Z9)))<|.a<|.e 0 [.of Zag (List.set (([]:Yv)++d) (Int.toNat f) ({l with Set:=k.1}:Z9))])))
def Z1y (r:(Zac×Int)):Exit→St→List Blk→Prop:=FnQ prog f97.results 0 λp K=>p=(.tup [Zg2 r.1,i64 r.2])∧K=[]
def Zabh {f:Zb} {g:Zs} {j:Int}:KF prog glob 97 f97 [Zv f,Zbx g,i64 j] [] (Zsm f g j) (λr=>.tup [Zg2 r.1,i64 r.2]) (λ_=>[]):=Wv func97<|.a<|.bc 1 Zck<|.v<|.ge λa5 a2=>.gw<|.rc [] [(5,.ca Zh4 a2)] []<|.i (.a<|.e 0 [])
 (.v<|.rc [] [] []<|.i (.a<|.e 0 [])
 (.bc 2 Zw3<|.a<|.a<|.i (.a<|.e 0 [])
 (.bc 1 Z70<|.a<|.a<|.i (.a<|.e 0 [])
 (.a<|.b λa3 a4=>.r [(2,.ca Z6n a4)]<|.a<|.p3 [3,4,6,9,11,12,13] 4 (λl o p=>[.c 3 (Zk0 l),.s 9 (slc 10 Zd o),.s 13 (i64 p)]) (Sum.elim (λt=>.n [6,11] 4 [.c 3 (Zk0 t)]) (λr=>.q (Z1y r)))
 (λa6 l o p=>.r [(2,.len Ze a3)]<|.i (.m 2 (Sum.elim (λ(w,x)=>.n [3,4,6,9,11,12,13] 4 [.c 3 (Zk0 w),.s 9 (slc 10 Zd x)]) (λr=>.q (Z1y r))) (.bi 4 Ze<|.bi 6 Zau<|.d0 [] 9 [] [8] []<|.bi 4 Ze<|.bc 6 Zt7<|.d [] 11<|.bc 2 Ze8<|.a<|.a<|.i (.a<|.q 0 [] rfl)
 (.bc 2 Zvd<|.a<|.m 1 (λ(y,z)=>.n [3,4,6,9,11,12,13,14,17,18] 5 [.c 3 (Zk0 y),.s 18 (i64 z)]) (.v<|.rc [] [] []<|.i (.bc 3 Zt6<|.a<|.k)
 (.k)) (λ(y,z)=>.n<|.m 1 (λ(a0,a1)=>.n [3,4,6,9,11,12,13,18] 5 [.c 3 (Zk0 a0),.s 18 (i64 a1)]) (.v<|.rc [] [] []<|.i (.bc 5 Z9o<|.a<|.k)
 (.k)) (λ(a0,a1)=>.n<|.a<|.i (.a<|.q 0 [] rfl)
 (.k))))) (fun
 |.inl (w,x)=>(.n<|.a<|.x3)
 |.inr a7=>.r λ_ _ h=>Wbu ⟨rfl,h⟩))
 (.u)) (fun
 |.inl t=>(.n<|.a<|.e 0 [])
 |.inr a8=>.r λ_ _ h=>h)))))
def Zabi (r:Int):Exit→St→List Blk→Prop:=FnQ prog f153.results 0 λp K=>p=(i64 r)∧K=[]
def Zsq {b:Zb} {c:Int}:KF prog glob 153 f153 [Zv b,u32 c] [] (Zff b c) (λr=>i64 r) (λ_=>[]):=Wv func153<|.a<|.a<|.p1 [1,2,5] 1 (λd=>[.s 5 (i64 d)]) (Sum.elim (λ_=>.n [] 1 []) (λr=>.q (Zabi r)))
 (λj d=>.r [(3,.len Zk b.Edges)]<|.i (.bi 3 Zk<|.v<|.gt λk f=>.gt λl g=>.gw<|.rc [] [(11,.idx Zk f),(15,.ca Znx g)] []<|.i (.a<|.s 0 [] rfl)
 (.a<|.x1))
 (.u)) (fun
 |.inl ()=>(.n<|.a<|.e 0 [])
 |.inr m=>.r λ_ _ h=>h)
def Z6o (r:Bool):Exit→St→List Blk→Prop:=FnQ prog f248.results 0 λp K=>p=(vb r)∧K=[]
def Zw4 {b:Zb} {c:Int}:KF prog glob 248 f248 [Zv b,u32 c] [] (Zle b c) (λr=>vb r) (λ_=>[]):=Wv func248<|.a<|.a<|.p1 [1,2,5] 1 (λd=>[.s 5 (i64 d)]) (Sum.elim (λ_=>.n [1,2] 1 []) (λr=>.q (Z6o r)))
 (λf d=>.r [(3,.len Zu b.Pools)]<|.i (.bi 3 Zu<|.bc 6 Znx<|.a<|.i (.a<|.s 0 [] rfl)
 (.a<|.x1))
 (.u)) (fun
 |.inl ()=>(.n<|.bc 2 Zsq<|.a<|.e 0 [])
 |.inr g=>.r λ_ _ h=>h)
def Z0y (r:Int):Exit→St→List Blk→Prop:=FnQ prog f171.results 0 λp K=>p=(i64 r)∧K=[]
def Z0z {v:Zb} {w:Yx} {x:Int}:KF prog glob 171 f171 [Zv v,slc 6 Zaw w,i64 x] [] (Zkc v w x) (λr=>i64 r) (λ_=>[]):=Wv func171<|.a<|.bi 2 Zaw<|.a<|.bc 3 Zw4<|.a<|.i (.a<|.e 0 [])
 (.bc 3 Zsq<|.a<|.i (.a<|.e 0 [])
 (.bc 3 Zsq<|.bc 7 Zjk<|.d [] 10<|.i (.a<|.e 0 [])
 (.a<|.p1 [1,2,7,8] 2 (λy=>[.s 8 (i64 y)]) (Sum.elim (λ_=>.n [] 2 []) (λr=>.q (Z0y r)))
 (λa4 y=>.a<|.i (.bi 2 Zaw<|.a<|.l λz f=>.l λa0 g=>.b λa1 m=>.to [1,2,7,8] [.s 83 (vb a1)] (by
 cases z
 ·subst g
  cases m;exact .r [(5,.bool f)]
 cases a0
 ·cases m
  exact .r [(5,.bool f),(12,.bool g)]
 obtain⟨a2,j,o⟩:=bindb (ifT m rfl)
 replace j:=someb j
 obtain⟨a3,k,o⟩:=bindb o
 replace k:=someb k
 obtain⟨a5,p,⟨⟩⟩:=bindb o;cases a2
 ·subst k
  obtain⟨t,c,⟨⟩⟩:=bindb (ifF p rfl)
  replace c:=someb c
  cases t
  ·exact .r [(5,.bool f),(12,.bool g),(18,.bool j),(31,.bool c)]
  exact .r [(5,.bool f),(12,.bool g),(18,.bool j),(31,.bool c)]
 cases a3
 ·obtain⟨t,c,⟨⟩⟩:=bindb (ifF p rfl)
  replace c:=someb c
  cases t
  ·exact .r [(5,.bool f),(12,.bool g),(18,.bool j),(25,.bool k),(31,.bool c)]
  exact .r [(5,.bool f),(12,.bool g),(18,.bool j),(25,.bool k),(31,.bool c)]
 cases p
 exact .r [(5,.bool f),(12,.bool g),(18,.bool j),(25,.bool k)])<|.i (.a<|.s 0 [] rfl)
 (.a<|.x1))
 (.u)) (fun
 |.inl ()=>(.n<|.a<|.e 0 [])
 |.inr a6=>.r λ_ _ h=>h))))
def Zv0 (r:Int):Exit→St→List Blk→Prop:=FnQ prog f172.results 0 λp K=>p=(i64 r)∧K=[]
def Z44 {f:Zb} {c:Zs} {g:Int}:KF prog glob 172 f172 [Zv f,Zbx c,i64 g] [] (Zn8 f c g) (λr=>i64 r) (λ_=>[]):=Wv func172<|.a<|.bi 3 Zaz<|.a<|.bc 3 Zw4<|.a<|.i (.a<|.e 0 [])
 (.a<|.p1 [2,4,7,8] 3 (λj=>[.s 8 (i64 j)]) (Sum.elim (λ_=>.n [2,4,7] 3 []) (λr=>.q (Zv0 r)))
 (λa3 j=>.r [(3,.len Zaw c.Published)]<|.i (.b λa4 k=>.l λx m=>.b λy o=>.to [2,4,7,8] [.s 45 (vb y)] (by
 cases x
 ·cases o
  exact .d [(3,.idx Zaw k),(9,.bool m)] 20
 obtain⟨a5,z,⟨⟩⟩:=bindb (ifT o rfl)
 exact .d [(3,.idx Zaw k),(9,.bool m),(13,.idx Zaw z)] 20)<|.i (.a<|.s 0 [] rfl)
 (.a<|.x1))
 (.u)) (fun
 |.inl ()=>(.n<|.a<|.p1 [2,4,7,9] 3 (λp=>[.s 9 (i64 p)]) (Sum.elim (λ_=>.n [] 3 []) (λr=>.q (Zv0 r)))
 (λa6 p=>.a<|.i (.b λa7 t=>.l λa0 v=>.b λa1 w=>.to [2,4,7,9] [.s 70 (vb a1)] (by
 cases a0
 ·cases w
  exact .d [(3,.idx Zaz t),(9,.bool v)] 20
 obtain⟨a8,a2,⟨⟩⟩:=bindb (ifT w rfl)
 exact .d [(3,.idx Zaz t),(9,.bool v),(13,.idx Zaz a2)] 20)<|.i (.a<|.s 0 [] rfl)
 (.a<|.x1))
 (.u)) (fun
 |.inl ()=>(.n<|.a<|.e 0 [])
 |.inr a9=>.r λ_ _ h=>h))
 |.inr b0=>.r λ_ _ h=>h))
def Zve {j:Zb} {f:Zs} {o:Int}:KF prog glob 103 f103 [Zv j,Zbx f,i64 o] [] (Zft j f o) (λr=>slc 13 Zar r) (λ_=>[]):=Wv func103<|.a<|.a<|.a<|.z (.own 8 13 80)<|.a<|.p2 [2,3,4,7,8,9] 3 (λp q=>[.l 2 Zar p,.s 9 (i64 q)]) (λg=>.n [8] 3 [.l 2 Zar g])
 (λa7 p q=>.r [(3,.len Zaz f.Hidden)]<|.i (.m 2 (λt=>.n [2,3,4,7,8,9] 3 [.l 2 Zar t]) (.bi 4 Zaz<|.bc 7 Zjk<|.d [] 10<|.i (.k)
 (.bi 5 Zaz<|.b λa4 a5=>.d [(8,.ca Zfn a5)] 13<|.a<|.p2 [2,3,4,7,8,9,10,12] 3 (λv w=>[.l 2 Zar v,.s 12 (i64 w)]) (λx=>.n [2,3,4,7,8,9] 3 [.l 2 Zar x])
 (λa8 v w=>.r [(2,.len Zn a4.1)]<|.i (.a<|.p2 [2,3,4,7,8,9,10,12,13] 3 (λy a0=>[.l 2 Zar y,.s 13 (i64 a0)]) (λa1=>.n [2,3,4,7,8,9,10,12] 3 [.l 2 Zar a1])
 (λa9 y a0=>.r [(2,.len Zn [Za.mk (6:Int) (6:Int),Za.mk (17:Int) (17:Int),Za.mk (1:Int) (1:Int),Za.mk (0:Int) (0:Int),Za.mk (2:Int) (5:Int),Za.mk (7:Int) (16:Int),Za.mk (18:Int) (255:Int)])]<|.i (.m 2 (λa2=>.n [2,3,4,7,8,9,10,12,13] 3 [.l 2 Zar a2]) (.bc 0 Zdu<|.bi 4 Zaz<|.d0 [] 9 [] [8] []<|.bi 2 Zn<|.bi 6 Zn<|.d0 [] 12 [] [10] []<|.m 1 (λa3=>.n [2,3,4,7,8,9,10,12,13,14] 4 [.c 3 (Zar a3)]) (.a<|.i (.bi 3 Zaz<|.a<|.k)
 (.k)) (λa3=>.n<|.c λa6=>.r [(3,.app Zar (λ_=>kR) a6)]<|.k)) (λa2=>.n<|.a<|.x2))
 (.u)) (λa1=>.n<|.a<|.x2))
 (.u)) (λx=>.n<|.k))) (λt=>.n<|.a<|.x2))
 (.u)) (λg=>.n<|.a<|.e 0 [.of Zar g])
def Zs4 (r:Int):Exit→St→List Blk→Prop:=FnQ prog f98.results 0 λp K=>p=(i64 r)∧K=[]
def Z6p {d:Zb} {c:Zs}:KF prog glob 98 f98 [Zv d,Zbx c] [] (Zpn d c) (λr=>i64 r) (λ_=>[]):=Wv func98<|.a<|.bc 2 Zw3<|.a<|.a<|.i (.a<|.e 0 [])
 (.a<|.p1 [2,3,6] 2 (λf=>[.s 6 (i64 f)]) (Sum.elim (λ_=>.n [2,3] 2 []) (λr=>.q (Zs4 r)))
 (λm f=>.r [(3,.len Zaw c.Published)]<|.i (.bc 4 Z0z<|.a<|.a<|.i (.a<|.s 0 [] rfl)
 (.a<|.x1))
 (.u)) (fun
 |.inl ()=>(.n<|.a<|.p1 [2,3,8] 2 (λg=>[.s 8 (i64 g)]) (Sum.elim (λ_=>.n [2,3] 2 []) (λr=>.q (Zs4 r)))
 (λo g=>.r [(3,.len Zaz c.Hidden)]<|.i (.bc 3 Z44<|.a<|.a<|.i (.a<|.s 0 [] rfl)
 (.a<|.x1))
 (.u)) (fun
 |.inl ()=>(.n<|.a<|.p1 [2,3,10] 2 (λj=>[.s 10 (i64 j)]) (Sum.elim (λ_=>.n [] 2 []) (λr=>.q (Zs4 r)))
 (λp j=>.r [(3,.len Zk d.Edges)]<|.i (.b λk l=>.r [(3,.ca Zve l),(4,.len Zar k)]<|.i (.a<|.s 0 [] rfl)
 (.a<|.x1))
 (.u)) (fun
 |.inl ()=>(.n<|.a<|.e 0 [])
 |.inr t=>.r λ_ _ h=>h))
 |.inr v=>.r λ_ _ h=>h))
 |.inr w=>.r λ_ _ h=>h))
def Zp1 {c:ZL} {d:ZL}:KF prog glob 251 f251 [slc 10 Zd c,slc 10 Zd d] [] (Zdh c d) (λr=>vb r) (λ_=>[]):=Wv func251<|.a<|.bc 1 Zqw<|.bc 3 Zqw<|.b λf g=>.r [(4,.ca Zqx g),(5,.len Zd f)]<|.e 0 []
def Z71 {d:Zb} {g:ZL}:KF prog glob 250 f250 [Zv d,slc 10 Zd g] [] (Zqm d g) (λr=>vb r) (λ_=>[]):=Wv func250<|.a<|.a<|.z (.own 5 10 76)<|.a<|.p2 [1,2,5,6] 2 (λj o=>[.l 1 Zd j,.s 6 (i64 o)]) (λf=>.n [1,5] 2 [.l 1 Zd f])
 (λa2 j o=>.r [(3,.len Zk d.Edges)]<|.i (.a<|.p2 [1,2,5,6,7] 2 (λp q=>[.l 1 Zd p,.s 7 (i64 q)]) (λt=>.n [1,2,5,6] 2 [.l 1 Zd t])
 (λa3 p q=>.r [(3,.len Zk d.Edges)]<|.i (.m 2 (λw=>.n [1,2,5,6,7] 2 [.l 1 Zd w]) (.a<|.i (.bc 4 Zel<|.c λx=>.r [(6,.app Zd (λ_=>kR) x)]<|.k)
 (.k)) (λw=>.n<|.a<|.x2))
 (.u)) (λt=>.n<|.a<|.x2))
 (.u)) (λf=>.n<|.z (.share 1)<|.b λa4 y=>.v<|.gt λa5 a0=>.gt λa6 a1=>.gw<|.rc [(2,.cw [.of Zd f] Zp1 y)] [(5,.ca Zoq a0),(6,.ca Zp1 a1)] []<|.e 0 [])
def Zmr {b:ZB} {f:ZB}:KF prog glob 128 f128 [Zbo b,Zbo f] [] (Zc1 b f) (λr=>.tup [Zbo r.1,vb r.2]) (λ_=>[]):=Wv func128<|.a<|.a<|.a<|.p2 [2,3,4,6,7] 4 (λj g=>[.c 3 (Zd j),.s 7 (i64 g)]) (λk=>.n [2,3,4,6] 4 [.c 3 (Zd k)])
 (λy j g=>.a<|.i (.c λl=>.c λm=>.c λo=>.c λp=>.c λq=>.d [(2,.ixd l),(4,.ldA Zn (Arr5.get b) 0 2 0 l),(6,.ixd m),(8,.ldA Zn (Arr5.get f) 0 2 0 m),(11,.ixd o),(13,.ldA Zn (Arr5.get b) 0 2 1 o),(15,.ixd p),(17,.ldA Zn (Arr5.get f) 0 2 1 p),(20,.ixd q),(21,.stA (λt=>Zd (Arr5.set j t (Za.mk (iMax ((Arr5.get b g).Lo) ((Arr5.get f g).Lo)) (iMin ((Arr5.get b g).Hi) ((Arr5.get f g).Hi))))) 0 2 0 q)] 20<|.a<|.x2)
 (.u)) (λk=>.n<|.bc 1 Zce<|.v<|.ge λz w=>.gw<|.v<|.ge λa0 x=>.gw<|.rc [] [(5,.ca Zce w),(10,.ca Zce x)] []<|.i (.a<|.e 0 [])
 (.a<|.e 0 []))
def Zui (r:Bool):Exit→St→List Blk→Prop:=FnQ prog f252.results 0 λp K=>p=(vb r)∧K=[]
def Z2j {b:ZL} {c:ZL}:KF prog glob 252 f252 [slc 10 Zd b,slc 10 Zd c] [] (Zp8 b c) (λr=>vb r) (λ_=>[]):=Wv func252<|.a<|.a<|.p1 [0,1,5] 0 (λd=>[.s 5 (i64 d)]) (Sum.elim (λ_=>.n [] 0 []) (λr=>.q (Zui r)))
 (λg d=>.r [(2,.len Zd b)]<|.i (.a<|.p1 [0,1,5,6] 0 (λf=>[.s 6 (i64 f)]) (Sum.elim (λ_=>.n [0,1,5] 0 []) (λr=>.q (Zui r)))
 (λj f=>.r [(2,.len Zd c)]<|.i (.bi 2 Zd<|.bi 6 Zd<|.bc 8 Zmr<|.d0 [] 14 [] [12,13] []<|.a<|.i (.a<|.s 0 [] rfl)
 (.a<|.x1))
 (.u)) (fun
 |.inl ()=>(.n<|.a<|.x1)
 |.inr k=>.r λ_ _ h=>Wbu ⟨rfl,h⟩))
 (.u)) (fun
 |.inl ()=>(.n<|.a<|.e 0 [])
 |.inr l=>.r λ_ _ h=>h)
def Zw5 (r:Bool):Exit→St→List Blk→Prop:=FnQ prog f173.results 0 λp K=>p=(vb r)∧K=[]
def Zw6 {a0:Zb} {y:Zac}:KF prog glob 173 f173 [Zv a0,Zg2 y] [] (Zpo a0 y) (λr=>vb r) (λ_=>[]):=Wv func173<|.a<|.bc 1 Zck<|.v<|.ge λb7 a7=>.gw<|.v<|.ge λb8 a8=>.gw<|.rc [] [(6,.ca Zjm a7),(13,.ca Z71 a8)] []<|.i (.a<|.e 0 [])
 (.a<|.p1 [3,5] 2 (λa1=>[.s 5 (i64 a1)]) (Sum.elim (λ_=>.n [] 2 []) (λr=>.q (Zw5 r)))
 (λb9 a1=>.r [(3,.len Zag y.Inspect)]<|.i (.b λo a9=>.r [(3,.idx Zag a9)]<|.b λc0 f=>.l λb0 g=>.b λc1 a2=>.l λb1 p=>.l λa3 j=>.b λc2 t=>.l λa4 k=>.b λb2 m=>.to [3,5,6] [.s 75 (vb b2)] (by
 cases b0
 ·obtain⟨b3,c,b4⟩:=bindb (ifF a2 rfl)
  replace c:=someb c
  obtain⟨c3,a5,⟨⟩⟩:=bindb b4;cases b3
  ·cases a5
   subst p;cases a3
   ·obtain⟨b5,w,⟨⟩⟩:=bindb (ifF t rfl)
    cases a4
    ·obtain⟨b6,z,⟨⟩⟩:=bindb (ifF m rfl)
     exact .d [(2,.ca Zae f),(4,.bool g),(7,.bool c),(23,.len Zd o.Set),(26,.bool j),(29,.ca Zjm w),(32,.bool k),(37,.ca Zp1 z)] 40
    cases m;exact .d [(2,.ca Zae f),(4,.bool g),(7,.bool c),(23,.len Zd o.Set),(26,.bool j),(29,.ca Zjm w),(32,.bool k)] 40
   cases t;subst k;cases m;exact .d [(2,.ca Zae f),(4,.bool g),(7,.bool c),(23,.len Zd o.Set),(26,.bool j)] 40
  obtain⟨c4,x,⟨⟩⟩:=bindb (ifT a5 rfl);cases b1
  ·cases a3
   ·obtain⟨b5,w,⟨⟩⟩:=bindb (ifF t rfl)
    cases a4
    ·obtain⟨b6,z,⟨⟩⟩:=bindb (ifF m rfl)
     exact .d [(2,.ca Zae f),(4,.bool g),(7,.bool c),(14,.idx Zag x),(20,.bool p),(23,.len Zd o.Set),(26,.bool j),(29,.ca Zjm w),(32,.bool k),(37,.ca Zp1 z)] 40
    cases m;exact .d [(2,.ca Zae f),(4,.bool g),(7,.bool c),(14,.idx Zag x),(20,.bool p),(23,.len Zd o.Set),(26,.bool j),(29,.ca Zjm w),(32,.bool k)] 40
   cases t;subst k;cases m;exact .d [(2,.ca Zae f),(4,.bool g),(7,.bool c),(14,.idx Zag x),(20,.bool p),(23,.len Zd o.Set),(26,.bool j)] 40
  subst j;cases t;subst k;cases m;exact .d [(2,.ca Zae f),(4,.bool g),(7,.bool c),(14,.idx Zag x),(20,.bool p)] 40
 cases a2;subst p;subst j;cases t;subst k;cases m
 exact .d [(2,.ca Zae f),(4,.bool g)] 40)<|.i (.a<|.s 0 [] rfl)
 (.a<|.p1 [3,5,6,7] 3 (λa6=>[.s 7 (i64 a6)]) (Sum.elim (λ_=>.n [3,5] 3 []) (λr=>.q (Zw5 r)))
 (λc5 a6=>.a<|.i (.bi 5 Zag<|.bc 8 Z2j<|.d [] 10<|.i (.a<|.s 0 [] rfl)
 (.a<|.x1))
 (.u)) (fun
 |.inl ()=>(.n<|.a<|.x1)
 |.inr c6=>.r λ_ _ h=>Wbu ⟨rfl,h⟩)))
 (.u)) (fun
 |.inl ()=>(.n<|.a<|.e 0 [])
 |.inr c7=>.r λ_ _ h=>h))
def Zye {b:Zb} {c:Zac} {f:Int} {g:Int}:KF prog glob 177 f177 [Zv b,Zg2 c,i64 f,i64 g] [] (Znk b c f g) (λr=>.tup [slc 10 Zd r.1,i64 r.2]) (λ_=>[]):=Wv func177<|.a<|.bc 1 Zck<|.a<|.i (.a<|.e 0 [])
 (.v<|.v<|.v<|.rc [(6,.len Zk b.Edges),(17,.len Zk b.Edges)] [] []<|.i (.a<|.e 0 [])
 (.a<|.i (.a<|.e 0 [])
 (.bc 5 Zel<|.bc 7 Ze8<|.d [] 10<|.e 0 [])))
def Z6q (r:Bool):Exit→St→List Blk→Prop:=FnQ prog f253.results 0 λp K=>p=(vb r)∧K=[]
def Z6r {b:ZL} {c:ZB}:KF prog glob 253 f253 [slc 10 Zd b,Zbo c] [] (Zsy b c) (λr=>vb r) (λ_=>[]):=Wv func253<|.a<|.a<|.p1 [0,3,5] 1 (λd=>[.s 5 (i64 d)]) (Sum.elim (λ_=>.n [] 1 []) (λr=>.q (Z6q r)))
 (λf d=>.r [(2,.len Zd b)]<|.i (.bi 2 Zd<|.bc 5 Zmr<|.d0 [] 11 [] [9,10] []<|.a<|.i (.a<|.s 0 [] rfl)
 (.a<|.x1))
 (.u)) (fun
 |.inl ()=>(.n<|.a<|.e 0 [])
 |.inr g=>.r λ_ _ h=>h)
def Zrf (r:(Ys×Int)):Exit→St→List Blk→Prop:=FnQ prog f174.results 0 λp K=>p=(.tup [slc 3 Zbr r.1,i64 r.2])∧K=[]
def Z3x {g:Zb} {o:Zac}:KF prog glob 174 f174 [Zv g,Zg2 o] [] (Zq8 g o) (λr=>.tup [slc 3 Zbr r.1,i64 r.2]) (λ_=>[]):=Wv func174<|.a<|.a<|.z (.own 6 3 283)<|.a<|.p2 [2,3,6,7] 3 (λw x=>[.l 2 Zbr w,.s 7 (i64 x)]) (Sum.elim (λp=>.n [6] 3 [.l 2 Zbr p]) (λr=>.q (Zrf r)))
 (λb3 w x=>.r [(3,.len Zk g.Edges)]<|.i (.a<|.p2 [2,3,6,7,8] 3 (λa0 a1=>[.l 2 Zbr a0,.s 8 (i64 a1)]) (Sum.elim (λa2=>.n [2,3,6,7] 3 [.l 2 Zbr a2]) (λr=>.q (Zrf r)))
 (λb4 a0 a1=>.r [(3,.len Zk g.Edges)]<|.i (.m 2 (Sum.elim (λa3=>.n [2,3,6,7,8] 3 [.l 2 Zbr a3]) (λr=>.q (Zrf r))) (.b λa9 b0=>.r [(4,.ca Zye b0)]<|.a<|.i (.a<|.q 0 [] rfl)
 (.r [(1,.len Zd a9.1)]<|.i (.k)
 (.bi 3 Zk<|.bi 9 Zk<|.d0 [(12,.m),(13,.m),(14,.m)] 14 [] [13] []<|.y (.gst (.ownF 3 2 1 9))<|.a<|.p4 [2,3,6,7,8,11,12] 5 (λa4 a5 a6 a7=>[.l 4 Zaj a6,.f 3 0 (.sc (.int .i64 a4)),.f 3 1 (.sc (.int .i64 a5)),.s 12 (i64 a7)]) (λ(t,v,j)=>.n [2,3,6,7,8,11] 5 [.l 4 Zaj j,.f 3 0 (.sc (.int .i64 t)),.f 3 1 (.sc (.int .i64 v))])
 (λb5 a4 a5 a6 a7=>.r [(3,.len Zag o.Inspect)]<|.i (.m 2 (λa8=>.n [2,3,6,7,8,11,12] 5 [.l 4 Zaj a8]) (.bi 3 Zag<|.bc 9 Zel<|.bc 10 Z6r<|.d [] 11<|.i (.bi 5 Zag<|.c λb1=>.d0 [(1,.q),(9,.app Zaj (λ_=>kR) b1),(11,.m)] 10 [] [9] []<|.k)
 (.k)) (λa8=>.n<|.a<|.x4))
 (.u)) (λ(t,v,j)=>.n<|.y (.share 4)<|.c λb2=>.r [(1,.wkP (Zbr (Zaq.mk t v j)) [.of Zaj j] .q),(3,.app Zbr (λ_=>kR) b2)]<|.k)))) (fun
 |.inl a3=>(.n<|.a<|.x2)
 |.inr b6=>.r λ_ _ h=>Wbu ⟨rfl,h⟩))
 (.u)) (fun
 |.inl a2=>(.n<|.a<|.x2)
 |.inr b7=>.r λ_ _ h=>Wbu ⟨rfl,h⟩))
 (.u)) (fun
 |.inl p=>(.n<|.a<|.e 0 [.of Zbr p])
 |.inr b8=>.r λ_ _ h=>h)
def Z1z {b:Zb} {j:Ya}:KF prog glob 254 f254 [Zv b,slc 1 Ze j] [] (Zsn b j) (λr=>Zbd r) (λ_=>[]):=Wv func254<|.a<|.r [(0,.m)]<|.z (.gst (.ownF 2 0 1 3))<|.z (.gst (.ownF 2 1 1 3))<|.a<|.p3 [1,2,4,5,6] 5 (λo p t=>[.l 3 Ze o,.l 4 Ze p,.s 6 (i64 t)]) (λ(f,g)=>.n [4,5] 5 [.l 3 Ze f,.l 4 Ze g])
 (λa0 o p t=>.r [(2,.len Ze j)]<|.i (.m 2 (λ(v,w)=>.n [1,2,4,5,6] 5 [.l 3 Ze v,.l 4 Ze w]) (.bi 2 Ze<|.d [(6,.len Zh b.Devices)] 8<|.i (.bi 4 Ze<|.c λx=>.d0 [(1,.q),(7,.app Ze (λ_=>kR) x),(9,.m)] 8 [] [7] []<|.k)
 (.bi 4 Ze<|.c λy=>.d0 [(1,.q),(8,.len Zh b.Devices),(11,.app Ze (λ_=>kR) y),(13,.m)] 12 [] [11] []<|.k)) (λ(v,w)=>.n<|.a<|.x3))
 (.u)) (λ(f,g)=>.n<|.z (.share 3)<|.z (.share 4)<|.r [(0,.wkP (Za1 (Zp.mk f g)) [.of Ze f,.of Ze g] .q)]<|.e 0 [])
def Z9p {b:Zb}:KF prog glob 175 f175 [Zv b] [] (Zrp b) (λr=>slc 2 Za1 r) (λ_=>[]):=Wv func175<|.a<|.bc 1 Zll<|.a<|.i (.a<|.e 0 [])
 (.r [(2,.len Zh b.Devices),(5,.len Zx b.Links)]<|.r [(1,.m)]<|.a<|.p2 [1,3,4,5] 2 (λf g=>[.l 1 Za1 f,.s 5 (i64 g)]) (λj=>.n [1,3,4] 2 [.l 1 Za1 j])
 (λy f g=>.v<|.rc [] [] []<|.i (.bc 4 Z1z<|.c λw=>.r [(6,.app Za1 (λ_=>kR) w)]<|.a<|.x2)
 (.u)) (λj=>.n<|.a<|.p2 [1,3,4,6] 2 (λk o=>[.l 1 Za1 k,.s 6 (i64 o)]) (λd=>.n [4] 2 [.l 1 Za1 d])
 (λz k o=>.v<|.rc [] [] []<|.i (.a<|.p2 [1,3,4,6,7] 2 (λp q=>[.l 1 Za1 p,.s 7 (i64 q)]) (λt=>.n [1,3,4,6] 2 [.l 1 Za1 t])
 (λa0 p q=>.a<|.i (.bc 5 Z1z<|.c λx=>.r [(7,.app Za1 (λ_=>kR) x)]<|.a<|.x2)
 (.u)) (λt=>.n<|.a<|.x2))
 (.u)) (λd=>.n<|.a<|.e 0 [.of Za1 d])))
def Z00 (r:Bool):Exit→St→List Blk→Prop:=FnQ prog f93.results 0 λp K=>p=(vb r)∧K=[]
def Zt8 {k:Ya} {p:Int}:KF prog glob 93 f93 [slc 1 Ze k,i64 p] [] (Zdi k p) (λr=>vb r) (λ_=>[]):=Wv func93<|.a<|.a<|.p1 [0,1,5] 0 (λt=>[.s 5 (i64 t)]) (Sum.elim (λ_=>.n [] 0 []) (λr=>.q (Z00 r)))
 (λa5 t=>.r [(2,.len Ze k)]<|.i (.b λa6 c=>.l λx f=>.b λa7 v=>.l λy g=>.b λz m=>.to [0,1,5] [.s 40 (vb z)] (by
 cases x
 ·obtain⟨a8,o,⟨⟩⟩:=bindb (ifF v rfl)
  cases y
  ·obtain⟨a0,j,a1⟩:=bindb (ifF m rfl)
   replace j:=someb j
   obtain⟨a9,w,⟨⟩⟩:=bindb a1;cases a0
   ·cases w
    exact .d [(2,.idx Ze c),(5,.bool f),(8,.idx Ze o),(13,.bool g),(16,.bool j)] 29
   obtain⟨b0,a2,a3⟩:=bindb (ifT w rfl);obtain⟨b1,a4,⟨⟩⟩:=bindb a3;exact .d [(2,.idx Ze c),(5,.bool f),(8,.idx Ze o),(13,.bool g),(16,.bool j),(19,.idx Ze a2),(24,.idx Ze a4)] 29
  cases m;exact .d [(2,.idx Ze c),(5,.bool f),(8,.idx Ze o),(13,.bool g)] 29
 cases v;subst g;cases m
 exact .d [(2,.idx Ze c),(5,.bool f)] 29)<|.i (.a<|.s 0 [] rfl)
 (.a<|.x1))
 (.u)) (fun
 |.inl ()=>(.n<|.a<|.e 0 [])
 |.inr b2=>.r λ_ _ h=>h)
def Zb0 {b:Zb} {c:Zp}:KF prog glob 41 f41 [Zv b,Zbd c] [] (Zbh b c) (λr=>vb r) (λ_=>[]):=Wv func41<|.a<|.bc 1 Zll<|.v<|.gt λg d=>.gw<|.v<|.gt λi f=>.gw<|.rc [(7,.len Zx b.Links),(15,.len Zh b.Devices)] [(8,.ca Zt8 d),(16,.ca Zt8 f)] []<|.e 0 []
def Z9q (r:Bool):Exit→St→List Blk→Prop:=FnQ prog f48.results 0 λp K=>p=(vb r)∧K=[]
def Zrt {b:Ya} {c:Int}:KF prog glob 48 f48 [slc 1 Ze b,i64 c] [] (Zk3 b c) (λr=>vb r) (λ_=>[]):=Wv func48<|.a<|.a<|.p1 [0,1,5] 0 (λd=>[.s 5 (i64 d)]) (Sum.elim (λ_=>.n [] 0 []) (λr=>.q (Z9q r)))
 (λf d=>.r [(2,.len Ze b)]<|.i (.bi 2 Ze<|.a<|.i (.a<|.s 0 [] rfl)
 (.a<|.x1))
 (.u)) (fun
 |.inl ()=>(.n<|.a<|.e 0 [])
 |.inr g=>.r λ_ _ h=>h)
def Zbw {b:Zb} {c:Zp} {d:Int}:KF prog glob 17 f17 [Zv b,Zbd c,i64 d] [] (Zbi b c d) (λr=>vb r) (λ_=>[]):=Wv func17<|.a<|.bc 2 Zb0<|.v<|.v<|.v<|.gt λg f=>.gw<|.rc [(11,.len Zh b.Devices)] [(18,.ca Zrt f)] []<|.e 0 []
def Zg0 {c:Zb} {t:Zp} {u:Int}:KF prog glob 161 f161 [Zv c,Zbd t,i64 u] [] (Zjz c t u) (λr=>vb r) (λ_=>[]):=Wv func161<|.a<|.b λa7 f=>.l λx g=>.l λy i=>.l λz j=>.b λa8 p=>.l λa0 k=>.b λa9 o=>.l λa1 m=>.b λa2 n=>.to [] [.s 6 (vb a2)] (by
 cases x
 ·subst i
  subst j;cases p;subst k;cases o;subst m;cases n;exact .d [(2,.ca Zb0 f),(3,.bool g)] 43
 cases y
 ·subst j
  cases p;subst k;cases o;subst m;cases n;exact .d [(2,.ca Zb0 f),(3,.bool g),(7,.bool i)] 43
 cases z
 ·cases p
  subst k;cases o;subst m;cases n;exact .d [(2,.ca Zb0 f),(3,.bool g),(7,.bool i),(11,.len Zx c.Links),(14,.bool j)] 43
 obtain⟨b0,q,⟨⟩⟩:=bindb (ifT p rfl);cases a0
 ·cases o
  subst m;cases n;exact .d [(2,.ca Zb0 f),(3,.bool g),(7,.bool i),(11,.len Zx c.Links),(14,.bool j),(18,.ca Zrt q),(21,.bool k)] 43
 obtain⟨b1,v,a3⟩:=bindb (ifT o rfl);obtain⟨b2,w,⟨⟩⟩:=bindb a3;cases a1
 ·cases n
  exact .d [(2,.ca Zb0 f),(3,.bool g),(7,.bool i),(11,.len Zx c.Links),(14,.bool j),(18,.ca Zrt q),(21,.bool k),(27,.idx Zx v),(30,.ca Zbw w),(32,.bool m)] 43
 obtain⟨b3,a4,a5⟩:=bindb (ifT n rfl);obtain⟨b4,a6,⟨⟩⟩:=bindb a5
 exact .d [(2,.ca Zb0 f),(3,.bool g),(7,.bool i),(11,.len Zx c.Links),(14,.bool j),(18,.ca Zrt q),(21,.bool k),(27,.idx Zx v),(30,.ca Zbw w),(32,.bool m),(38,.idx Zx a4),(41,.ca Zbw a6)] 43)<|.e 0 []
def Zzu {f:Zb} {q:Zp}:KF prog glob 158 f158 [Zv f,Zbd q] [] (Zi9 f q) (λr=>slc 1 Ze r) (λ_=>[]):=Wv func158<|.a<|.bc 2 Zb0<|.a<|.i (.a<|.e 0 [])
 (.a<|.z (.own 5 1 3)<|.a<|.p2 [2,3,5,6] 3 (λt v=>[.l 2 Ze t,.s 6 (i64 v)]) (λw=>.n [2,3,5] 3 [.l 2 Ze w])
 (λb7 t v=>.r [(3,.len Zh f.Devices)]<|.i (.m 2 (λx=>.n [2,3,5,6] 3 [.l 2 Ze x]) (.bc 3 Zbw<|.a<|.i (.c λb2=>.r [(3,.app Ze (λ_=>kR) b2)]<|.k)
 (.c λb3=>.r [(2,.app Ze (λ_=>kR) b3)]<|.k)) (λx=>.n<|.a<|.x2))
 (.u)) (λw=>.n<|.a<|.p2 [2,3,5,7] 3 (λa0 a1=>[.l 2 Ze a0,.s 7 (i64 a1)]) (λj=>.n [5] 3 [.l 2 Ze j])
 (λb8 a0 a1=>.r [(3,.len Zh f.Devices)]<|.i (.a<|.p2 [2,3,5,7,8] 3 (λg a2=>[.l 2 Ze g,.s 8 (i64 a2)]) (λa3=>.n [2,3,5,7] 3 [.l 2 Ze a3])
 (λb9 g a2=>.r [(3,.len Zx f.Links)]<|.i (.m 2 (λa4=>.n [2,3,5,7,8] 3 [.l 2 Ze a4]) (.bc 3 Zg0<|.a<|.i (.b λa5 b4=>.b λb5 b6=>.d [(3,.idx Zx b4),(9,.idx Zx b6)] 13<|.b λo a6=>.b λp a7=>.b λc0 a8=>.d [(4,.idx Ze a6),(5,.ldE Ze a6),(8,.idx Ze a7),(9,.ldE Ze a7),(11,.idx Ze a8),(12,.stE Ze a8 (iMin o p))] 11<|.y (.pick [2,3,5,7,8,9,10])<|.y (.ln 2 (lset g (Int.toNat a5.A) (iMin o p)))<|.b λa9 b0=>.b λc1 b1=>.r [(4,.idx Ze b0),(5,.ldE Ze b0),(6,.idx Ze b1),(7,.stE Ze b1 a9)]<|.y (.pick [2,3,5,7,8])<|.y (.ln 2 (lset (List.set g (Int.toNat a5.A) (iMin o p)) (Int.toNat b5.B) a9))<|.k)
 (.k)) (λa4=>.n<|.a<|.x2))
 (.u)) (λa3=>.n<|.a<|.x2))
 (.u)) (λj=>.n<|.a<|.e 0 [.of Ze j])))
def Zt9 {j:Zb} {k:Zp} {m:Int} {n:Int}:KF prog glob 94 f94 [Zv j,Zbd k,i64 m,i64 n] [] (Zkf j k m n) (λr=>vb r) (λ_=>[]):=Wv func94<|.a<|.bc 2 Zzu<|.a<|.b λy c=>.l λq f=>.b λz o=>.l λt g=>.b λu i=>.to [] [.s 8 (vb u)] (by
 cases q
 ·cases o
  subst g;cases i;exact .d [(3,.ca Zbw c),(4,.bool f)] 21
 obtain⟨a0,p,⟨⟩⟩:=bindb (ifT o rfl);cases t
 ·cases i
  exact .d [(3,.ca Zbw c),(4,.bool f),(8,.ca Zbw p),(10,.bool g)] 21
 obtain⟨a1,v,w⟩:=bindb (ifT i rfl);obtain⟨a2,x,⟨⟩⟩:=bindb w
 exact .d [(3,.ca Zbw c),(4,.bool f),(8,.ca Zbw p),(10,.bool g),(13,.idx Ze v),(17,.idx Ze x)] 21)<|.e 0 []
def Zr9 {b:Zb} {c:Zp} {d:Int}:KF prog glob 159 f159 [Zv b,Zbd c,i64 d] [] (Zgz b c d) (λr=>vb r) (λ_=>[]):=Wv func159<|.a<|.bc 2 Zb0<|.v<|.v<|.rc [(11,.len Zh b.Devices)] [] []<|.e 0 []
def Zw7 {p:Nat} {q:Ya} (a:List Value) {f:Int} {c:Int} {m:Int}:KF prog glob 234 f234 [.vw 0 0 p,i64 f,i64 c,i64 m] [.cells (cel Ze q a)] (Zpq p q f c m) (λ_=>.tup []) (λr=>[.cells (cel Ze r a)]):=Wv func234<|.b λx1 g=>.l λz n=>.b λa0 t=>.to [0,1,2,3] [.s 32 (vb a0)] (by
 cases z
 ·cases t
  exact .d [(2,.idxV (Zrn g)),(3,.ldV Ze (s:=1) (λ_=>rfl) a (Zpg g) (0+Int.toNat c*1) (Wbd _) []),(5,.bool n)] 25
 obtain⟨x5,j,o⟩:=bindb (ifT t rfl);obtain⟨a1,k,o⟩:=bindb o
 replace k:=someb k
 obtain⟨a4,u,⟨⟩⟩:=bindb o;cases a1
 ·obtain⟨a5,v,a2⟩:=bindb (ifF u rfl)
  obtain⟨a6,w,⟨⟩⟩:=bindb a2;exact .d [(2,.idxV (Zrn g)),(3,.ldV Ze (s:=1) (λ_=>rfl) a (Zpg g) (0+Int.toNat c*1) (Wbd _) []),(5,.bool n),(8,.idxV (Zrn j)),(9,.ldV Ze (s:=1) (λ_=>rfl) a (Zpg j) (0+Int.toNat f*1) (Wbd _) []),(11,.bool k),(14,.idxV (Zrn v)),(15,.ldV Ze (s:=1) (λ_=>rfl) a (Zpg v) (0+Int.toNat c*1) (Wbd _) []),(20,.idxV (Zrn w)),(21,.ldV Ze (s:=1) (λ_=>rfl) a (Zpg w) (0+Int.toNat f*1) (Wbd _) [])] 25
 cases u
 exact .d [(2,.idxV (Zrn g)),(3,.ldV Ze (s:=1) (λ_=>rfl) a (Zpg g) (0+Int.toNat c*1) (Wbd _) []),(5,.bool n),(8,.idxV (Zrn j)),(9,.ldV Ze (s:=1) (λ_=>rfl) a (Zpg j) (0+Int.toNat f*1) (Wbd _) []),(11,.bool k)] 25)<|.i (.b λa3 x=>.b λa7 y=>.r [(4,.idxV (Zrn x)),(5,.ldV Ze (s:=1) (λ_=>rfl) a (Zpg x) (0+Int.toNat c*1) (Wbd _) []),(8,.idxV (Zrn y)),(9,.stV Ze (s:=1) (λ_=>rfl) a (Zpg y) (ZI (a3+m)) (0+Int.toNat f*1) (Wbd _) [])]<|.e 1 [])
 (.e 1 [])
def Zp2 {d:Zb} {o:Zp} {f:Int}:KF prog glob 160 f160 [Zv d,Zbd o,i64 f] [] (Zdj d o f) (λr=>slc 1 Ze r) (λ_=>[]):=Wv func160<|.a<|.bc 3 Zr9<|.a<|.i (.a<|.e 0 [])
 (.a<|.z (.own 7 1 3)<|.a<|.p2 [2,3,4,7,8] 3 (λp q=>[.l 2 Ze p,.s 8 (i64 q)]) (λg=>.n [2,3,4,7] 3 [.l 2 Ze g])
 (λb1 p q=>.r [(3,.len Zh d.Devices)]<|.i (.c λa6=>.r [(2,.app Ze (λ_=>kR) a6)]<|.a<|.x2)
 (.u)) (λg=>.n<|.m 1 (λt=>.n [3,4,7] 3 [.l 2 Ze t]) (.bc 3 Zbw<|.a<|.i (.b λb2 v=>.r [(2,.idx Ze v),(3,.stE Ze v (0:Int))]<|.y (.pick [3,4,7])<|.y (.ln 2 (lset g (Int.toNat f) (0:Int)))<|.k)
 (.k)) (λt=>.n<|.a<|.p2 [3,4,7,9] 3 (λw x=>[.l 2 Ze w,.s 9 (i64 x)]) (λj=>.n [7] 3 [.l 2 Ze j])
 (λb3 w x=>.r [(3,.len Zh d.Devices)]<|.i (.a<|.p2 [3,4,7,9,10] 3 (λa0 a1=>[.l 2 Ze a0,.s 10 (i64 a1)]) (λa2=>.n [3,4,7,9] 3 [.l 2 Ze a2])
 (λb4 a0 a1=>.r [(3,.len Zx d.Links)]<|.i (.m 2 (λa3=>.n [3,4,7,9,10] 3 [.l 2 Ze a3]) (.bc 3 Zg0<|.a<|.i (.bi 4 Zx<|.bi 10 Zx<|.bi 16 Zx<|.c λa7=>.b λb5 a8=>.c λa4=>.d0 [(19,.callB (s:=1) Ze func234 (λ_=>rfl) a7 a4 (λsp_=>(Zw7 sp_).run _ a8))] 20 [] [19] []<|.y (.pick [3,4,7,9,10])<|.y (.ln 2 a4)<|.bi 4 Zx<|.bi 10 Zx<|.bi 16 Zx<|.c λa9=>.b λb6 b0=>.c λa5=>.d0 [(19,.callB (s:=1) Ze func234 (λ_=>rfl) a9 a5 (λsp_=>(Zw7 sp_).run _ b0))] 20 [] [19] []<|.y (.pick [3,4,7,9,10])<|.y (.ln 2 a5)<|.k)
 (.k)) (λa3=>.n<|.a<|.x2))
 (.u)) (λa2=>.n<|.a<|.x2))
 (.u)) (λj=>.n<|.a<|.e 0 [.of Ze j]))))
def Z45 {c:Zb} {f:Zp} {g:ByteArray} {j:Int} {o:Int}:KF prog glob 255 f255 [Zv c,Zbd f,vstr g,i64 j,i64 o] [] (Zr3 c f g j o) (λr=>i64 r) (λ_=>[]):=Wv func255<|.a<|.a<|.b λa1 a2=>.b λa3 a4=>.d [(3,.ca Zp2 a2),(7,.ca Zp2 a4)] 9<|.a<|.p3 [2,5,11,12,13,14,15] 2 (λp q t=>[.s 11 (i64 p),.s 12 (i64 q),.s 15 (i64 t)]) (λw=>.n [11] 2 [.s 11 (i64 w)])
 (λb2 p q t=>.v<|.v<|.rc [(2,.len Ze a1),(7,.len Ze a3)] [] []<|.i (.m 2 (λ(x,y)=>.n [2,5,11,12,13,14,15] 2 [.s 11 (i64 x),.s 12 (i64 y)]) (.bi 3 Zh<|.v<|.ge λb3 a5=>.gw<|.v<|.ge λb4 a6=>.gw<|.rc [] [(11,.idx Ze a5),(18,.idx Ze a6)] []<|.i (.k)
 (.l λa7 z=>.b λa8 a0=>.to [2,5,11,12,13,14,15] [.s 76 (vb a8)] (by
 cases a7
 ·obtain⟨b5,a9,b0⟩:=bindb (ifF a0 rfl)
  obtain⟨b6,b1,⟨⟩⟩:=bindb b0;exact .d [(2,.bool z),(5,.idx Ze a9),(9,.idx Ze b1)] 15
 cases a0
 exact .d [(2,.bool z)] 15)<|.i (.bi 3 Ze<|.bi 7 Ze<|.d [] 11<|.k)
 (.k))) (λ(x,y)=>.n<|.a<|.x3))
 (.u)) (λw=>.n<|.a<|.e 0 [])
def Z3y (r:Int):Exit→St→List Blk→Prop:=FnQ prog f176.results 0 λp K=>p=(i64 r)∧K=[]
def Z3z {c:Zb} {f:Zp} {b:Zaq}:KF prog glob 176 f176 [Zv c,Zbd f,Z3n b] [] (Zq9 c f b) (λr=>i64 r) (λ_=>[]):=Wv func176<|.a<|.bc 4 Zbw<|.v<|.ge λk j=>.gw<|.rc [] [(11,.ca Zbw j)] []<|.i (.a<|.e 0 [])
 (.bc 6 Zt9<|.a<|.i (.a<|.e 0 [])
 (.a<|.p1 [3,4,5,7] 3 (λg=>[.s 7 (i64 g)]) (Sum.elim (λ_=>.n [] 3 []) (λr=>.q (Z3y r)))
 (λl g=>.r [(3,.len Zaj b.f_classes)]<|.i (.bi 5 Zaj<|.bc 11 Z45<|.d [] 13<|.i (.a<|.s 0 [] rfl)
 (.a<|.x1))
 (.u)) (fun
 |.inl ()=>(.n<|.a<|.e 0 [])
 |.inr m=>.r λ_ _ h=>h)))
def Zv1 (r:(Zp×Int)):Exit→St→List Blk→Prop:=FnQ prog f99.results 0 λp K=>p=(.tup [Zbd r.1,i64 r.2])∧K=[]
def Z46 {c:Zb} {f:Zac}:KF prog glob 99 f99 [Zv c,Zg2 f] [] (Zr4 c f) (λr=>.tup [Zbd r.1,i64 r.2]) (λ_=>[]):=Wv func99<|.a<|.bc 2 Zw6<|.a<|.i (.a<|.e 0 [])
 (.b λk l=>.r [(2,.ca Z3x l)]<|.a<|.i (.a<|.e 0 [])
 (.b λm o=>.r [(1,.ca Z9p o)]<|.a<|.p1 [2,4,6,8,9] 3 (λg=>[.s 9 (i64 g)]) (Sum.elim (λ_=>.n [4] 3 []) (λr=>.q (Zv1 r)))
 (λp g=>.r [(2,.len Za1 m)]<|.i (.a<|.p1 [2,4,6,8,9,10] 3 (λj=>[.s 10 (i64 j)]) (Sum.elim (λ_=>.n [2,4,6,8,9] 3 []) (λr=>.q (Zv1 r)))
 (λt j=>.r [(2,.len Zbr k.1)]<|.i (.bi 3 Za1<|.bi 7 Zbr<|.bc 9 Z3z<|.d [] 10<|.a<|.i (.bi 2 Za1<|.a<|.s 0 [] rfl)
 (.a<|.x1))
 (.u)) (fun
 |.inl ()=>(.n<|.a<|.x1)
 |.inr v=>.r λ_ _ h=>Wbu ⟨rfl,h⟩))
 (.u)) (fun
 |.inl ()=>(.n<|.a<|.e 0 [])
 |.inr w=>.r λ_ _ h=>h)))
def Z6s {o:Za} {p:Int}:KF prog glob 342 f342 [Zk8 o,i64 p] [] (Zdk o p) (λr=>slc 2 Zn r) (λ_=>[]):=Wv func342<|.a<|.l λy f=>.l λa0 g=>.l λa1 j=>.b λa2 k=>.to [2] [.s 30 (vb a2)] (by
 cases y
 ·cases a0
  ·cases a1
   ·obtain⟨a3,⟨⟩⟩:=chkb (ifF k rfl)
    exact .r [(2,.bool f),(6,.bool g),(13,.bool j),(19,.sh a3)]
   cases k;exact .r [(2,.bool f),(6,.bool g),(13,.bool j)]
  subst j;cases k;exact .r [(2,.bool f),(6,.bool g)]
 subst g;subst j;cases k
 exact .r [(2,.bool f)])<|.i (.a<|.e 0 [])
 (.a<|.z (.own 5 2 74)<|.d [] 8<|.p2 [5,6,7] 2 (λq t=>[.l 1 Zn q,.s 6 (u64 t)]) (λm=>.n [5] 2 [.l 1 Zn m])
 (λa6 q t=>.a<|.i (.a<|.p1 [5,6,7,8] 2 (λw=>[.s 8 (u64 w)]) (λx=>.n [5,6,7,8] 2 [.s 8 (u64 x)])
 (λa7 w=>.c λa4=>.v<|.rc [(3,.rem a4)] [] []<|.i (.a<|.x1)
 (.u)) (λx=>.n<|.c λa5=>.r [(10,.app Zn (λ_=>kR) a5)]<|.a<|.x2))
 (.u)) (λm=>.n<|.a<|.e 0 [.of Zn m]))
def Z6t {b:ZB} {f:Int}:KF prog glob 311 f311 [Zbo b,i64 f] [] (Zsz b f) (λr=>slc 2 Zn r) (λ_=>[]):=Wv func311<|.a<|.a<|.c λg=>.c λi=>.bc 6 Z6s<|.d [(1,.ixd g),(2,.ldA Zn (Arr5.get b) 0 2 0 g),(4,.ixd i),(5,.ldA Ze (Arr5.get (Arr5.mk (32:Int) (32:Int) (8:Int) (16:Int) (16:Int))) 0 1 0 i)] 7<|.e 0 []
def Zzv {c:ZB} {d:Bool}:KF prog glob 257 f257 [Zbo c,vb d] [] (Zrq c d) (λr=>i64 r) (λ_=>[]):=Wv func257<|.a<|.bc 1 Zce<|.a<|.i (.a<|.e 0 [])
 (.a<|.a<|.p2 [1,2,5,6] 1 (λf g=>[.s 5 (i64 f),.s 6 (i64 g)]) (λj=>.n [5] 1 [.s 5 (i64 j)])
 (λm f g=>.v<|.rc [] [] []<|.i (.b λk l=>.r [(3,.ca Z6t l),(4,.len Zn k)]<|.a<|.x2)
 (.u)) (λj=>.n<|.a<|.e 0 []))
def Zabj {b:ZL} {c:Bool}:KF prog glob 256 f256 [slc 10 Zd b,vb c] [] (Zso b c) (λr=>i64 r) (λ_=>[]):=Wv func256<|.a<|.a<|.a<|.p2 [0,1,5,6] 0 (λd f=>[.s 5 (i64 d),.s 6 (i64 f)]) (λg=>.n [5] 0 [.s 5 (i64 g)])
 (λj d f=>.r [(2,.len Zd b)]<|.i (.bi 3 Zd<|.bc 6 Zzv<|.a<|.a<|.x2)
 (.u)) (λg=>.n<|.a<|.e 0 [])
def Zyf {t:Zb} {f:Ya} {u:Zal}:KF prog glob 178 f178 [Zv t,slc 1 Ze f,Zabd u] [] (Znl t f u) (λr=>slc 1 Ze r) (λ_=>[]):=Wv func178<|.a<|.c λa0=>.r [(0,.m),(2,.app Ze (λ_=>kR) a0)]<|.bi 4 Zk<|.bi 11 Zk<|.d [] 15<|.m 1 (λ(g,j)=>.n [3,5,7,8,9] 3 [.s 8 (i64 g),.s 9 (i64 j)]) (.a<|.i (.a<|.k)
 (.k)) (λ(g,j)=>.n<|.b λl v=>.bi 9 Zh<|.b λo a1=>.b λa3 w=>.d [(2,.idx Ze v),(3,.ldE Ze v),(12,.ca Zabj a1),(14,.idx Ze w),(15,.stE Ze w (ZI (l+o)))] 14<|.z (.pick [3,5,7,9])<|.z (.ln 2 (lset (([]:Ya)++f) (Int.toNat g) (ZI (l+o))))<|.b λp x=>.bc 9 Zel<|.bi 13 Zh<|.b λq a2=>.b λa4 y=>.d [(2,.idx Ze x),(3,.ldE Ze x),(16,.ca Zzv a2),(18,.idx Ze y),(19,.stE Ze y (ZI (p+q)))] 18<|.z (.pick [7])<|.z (.ln 2 (lset (List.set (([]:Ya)++f) (Int.toNat g) (ZI (l+o))) (Int.toNat j) (ZI (p+q))))<|.a<|.e 0 [.of Ze (List.set (List.set (([]:Ya)++f) (Int.toNat g) (ZI (l+o))) (Int.toNat j) (ZI (p+q)))])
def Z72 (r:Bool):Exit→St→List Blk→Prop:=FnQ prog f179.results 0 λp K=>p=(vb r)∧K=[]
def Zyg {c:Zb} {b:Ya}:KF prog glob 179 f179 [Zv c,slc 1 Ze b] [] (Zqn c b) (λr=>vb r) (λ_=>[]):=Wv func179<|.a<|.a<|.p1 [1,2,5] 1 (λf=>[.s 5 (i64 f)]) (Sum.elim (λ_=>.n [] 1 []) (λr=>.q (Z72 r)))
 (λg f=>.r [(2,.len Ze b)]<|.i (.bi 2 Ze<|.bi 7 Zh<|.d [] 11<|.i (.a<|.s 0 [] rfl)
 (.a<|.x1))
 (.u)) (fun
 |.inl ()=>(.n<|.a<|.e 0 [])
 |.inr j=>.r λ_ _ h=>h)
def Zs5 (r:(Yp×Int)):Exit→St→List Blk→Prop:=FnQ prog f100.results 0 λp K=>p=(.tup [slc 4 Zbm r.1,i64 r.2])∧K=[]
def Z6u {d:Zb} {g:Zac}:KF prog glob 100 f100 [Zv d,Zg2 g] [] (Zs0 d g) (λr=>.tup [slc 4 Zbm r.1,i64 r.2]) (λ_=>[]):=Wv func100<|.a<|.bc 2 Zw6<|.a<|.i (.a<|.e 0 [])
 (.a<|.z (.own 6 4 286)<|.a<|.c λb2=>.r [(2,.len Zh d.Devices),(3,.mkN Ze (0:Int) b2)]<|.a<|.z (.share 3)<|.z (.wo 8 Ze (List.replicate (Int.toNat (d.Devices.length:Int)) (0:Int)))<|.p5 [2,3,6,7,8,9] 4 (λj o p t w=>[.l 2 Zbm j,.l 3 Ze o,.s 7 (i64 p),.s 8 (slc 1 Ze t),.s 9 (i64 w)]) (Sum.elim (λ(f,x,y)=>.n [6,7] 4 [.l 2 Zbm f,.l 3 Ze x,.s 7 (i64 y)]) (λr=>.q (Zs5 r)))
 (λb6 j o p t w=>.r [(3,.len Zk d.Edges)]<|.i (.a<|.p4 [2,3,6,7,8,9,10] 4 (λa0 a1 a2 a3=>[.l 2 Zbm a0,.s 7 (i64 a1),.s 8 (slc 1 Ze a2),.s 10 (i64 a3)]) (Sum.elim (λ(a4,a5,a6)=>.n [2,3,6,7,8,9] 4 [.l 2 Zbm a4,.s 7 (i64 a5),.s 8 (slc 1 Ze a6)]) (λr=>.q (Zs5 r)))
 (λb7 a0 a1 a2 a3=>.r [(3,.len Zk d.Edges)]<|.i (.m 2 (Sum.elim (λ(a7,a8,a9)=>.n [2,3,6,7,8,9,10] 4 [.l 2 Zbm a7,.s 7 (i64 a8),.s 8 (slc 1 Ze a9)]) (λr=>.q (Zs5 r))) (.b λb3 b4=>.r [(4,.ca Zye b4)]<|.a<|.i (.a<|.q 0 [] rfl)
 (.v<|.rc [(1,.len Zd b3.1)] [] []<|.i (.k)
 (.a<|.bc 3 Zyf<|.a<|.m 1 (λ(b0,b1)=>.n [2,3,6,7,8,9,10,13,14] 5 [.c 4 (Zbm b0),.s 14 (slc 1 Ze b1)]) (.bc 2 Zyg<|.a<|.i (.a<|.bc 3 Zyf<|.a<|.k)
 (.k)) (λ(b0,b1)=>.n<|.bc 2 Zyg<|.a<|.i (.a<|.k)
 (.c λb5=>.r [(3,.app Zbm (λ_=>kR) b5)]<|.k))))) (fun
 |.inl (a7,a8,a9)=>(.n<|.a<|.x4)
 |.inr b8=>.r λ_ _ h=>Wbu ⟨rfl,h⟩))
 (.u)) (fun
 |.inl (a4,a5,a6)=>(.n<|.a<|.x5)
 |.inr b9=>.r λ_ _ h=>Wbu ⟨rfl,h⟩))
 (.u)) (fun
 |.inl (f,x,y)=>(.n<|.a<|.i (.a<|.e 0 [])
 (.a<|.e 0 [.of Zbm f]))
 |.inr c0=>.r λ_ _ h=>h))
def Zact {b:ZL}:KF prog glob 180 f180 [slc 10 Zd b] [] (Zwt b) (λr=>slc 11 Zak r) (λ_=>[]):=Wv func180<|.a<|.a<|.z (.own 3 11 164)<|.a<|.p2 [0,3,4] 1 (λf g=>[.l 0 Zak f,.s 4 (i64 g)]) (λd=>.n [3] 1 [.l 0 Zak d])
 (λk f g=>.r [(2,.len Zd b)]<|.i (.bi 3 Zd<|.c λj=>.r [(7,.app Zak (λ_=>kR) j)]<|.a<|.x2)
 (.u)) (λd=>.n<|.a<|.e 0 [.of Zak d])
def Zw8 {f:Zb} {b:Yp} {g:Int} {j:Bool}:KF prog glob 101 f101 [Zv f,slc 4 Zbm b,i64 g,vb j] [] (Zps f b g j) (λr=>slc 11 Zak r) (λ_=>[]):=Wv func101<|.a<|.a<|.z (.own 9 11 164)<|.a<|.p2 [1,2,3,4,9,10] 2 (λo p=>[.l 1 Zak o,.s 10 (i64 p)]) (λd=>.n [9] 2 [.l 1 Zak d])
 (λx o p=>.r [(2,.len Zbm b)]<|.i (.m 2 (λq=>.n [1,2,3,4,9,10] 2 [.l 1 Zak q]) (.bi 2 Zbm<|.a<|.m 1 (λt=>.n [1,2,3,4,9,10,11] 2 [.s 11 (i64 t)]) (.a<|.i (.bi 2 Zbm<|.a<|.k)
 (.k)) (λt=>.n<|.a<|.i (.k)
 (.bi 2 Zbm<|.a<|.i (.bi 3 Zbm<|.bc 6 Zact<|.c λv=>.r [(7,.app Zak (λ_=>kR) v)]<|.k)
 (.bi 4 Zbm<|.bi 9 Zbm<|.bc 12 Zel<|.c λw=>.d0 [(15,.app Zak (λ_=>kR) w)] 16 [] [15] []<|.k)))) (λq=>.n<|.a<|.x2))
 (.u)) (λd=>.n<|.a<|.e 0 [.of Zak d])
def Zv2 {b:Int} {c:Int} {d:Int}:KF prog glob 182 f182 [u32 b,i64 c,i64 d] [] (Zoc b c d) (λr=>Zbo r) (λ_=>[]):=Wv func182<|.a<|.bc 0 Zdu<|.a<|.a<|.a<|.a<|.a<|.e 0 []
def Z30 {f:Zb} {b:Zs} {g:Int}:KF prog glob 102 f102 [Zv f,Zbx b,i64 g] [] (Zra f b g) (λr=>slc 20 Zap r) (λ_=>[]):=Wv func102<|.a<|.a<|.z (.own 7 20 167)<|.a<|.p2 [2,3,4,7,8] 3 (λj o=>[.l 2 Zap j,.s 8 (i64 o)]) (λd=>.n [7] 3 [.l 2 Zap d])
 (λt j o=>.r [(3,.len Zaw b.Published)]<|.i (.m 2 (λp=>.n [2,3,4,7,8] 3 [.l 2 Zap p]) (.bi 3 Zaw<|.a<|.bc 3 Zjk<|.a<|.i (.bc 7 Zv2<|.bc 14 Zv2<|.c λq=>.d0 [(17,.app Zap (λ_=>kR) q)] 18 [] [17] []<|.k)
 (.k)) (λp=>.n<|.a<|.x2))
 (.u)) (λd=>.n<|.a<|.e 0 [.of Zap d])
def Z47 (r:(Yi×Int)):Exit→St→List Blk→Prop:=FnQ prog f104.results 0 λp K=>p=(.tup [slc 11 Zas r.1,i64 r.2])∧K=[]
def Z48 {j:Zb} {g:Zac} {k:Int}:KF prog glob 104 f104 [Zv j,Zg2 g,i64 k] [] (Zod j g k) (λr=>.tup [slc 11 Zas r.1,i64 r.2]) (λ_=>[]):=Wv func104<|.a<|.a<|.z (.own 8 11 152)<|.bc 0 Zdu<|.a<|.bc 3 Zel<|.a<|.a<|.p3 [4,8,9,10] 4 (λm o p=>[.l 2 Zas m,.c 3 (Zd o),.s 10 (i64 p)]) (Sum.elim (λ(f,t)=>.n [8] 4 [.l 2 Zas f,.c 3 (Zd t)]) (λr=>.q (Z47 r)))
 (λa2 m o p=>.r [(3,.len Zag g.Inspect)]<|.i (.bi 3 Zag<|.b λy a0=>.d [(8,.ca Ze8 a0)] 13<|.a<|.i (.a<|.s 0 [] rfl)
 (.a<|.p2 [4,8,9,10,11,13] 4 (λv w=>[.l 2 Zas v,.s 13 (i64 w)]) (λx=>.n [4,8,9,10] 4 [.l 2 Zas x])
 (λa3 v w=>.r [(2,.len Zd y.1)]<|.i (.bi 3 Zd<|.bi 8 Zag<|.c λa1=>.d0 [(13,.app Zas (λ_=>kR) a1)] 14 [] [13] []<|.a<|.x2)
 (.u)) (λx=>.n<|.a<|.x3)))
 (.u)) (fun
 |.inl (f,t)=>(.n<|.r [(1,.len Zas f)]<|.i (.a<|.e 0 [])
 (.a<|.e 0 [.of Zas f]))
 |.inr a4=>.r λ_ _ h=>h)
def Z6v (r:(Yh×Int)):Exit→St→List Blk→Prop:=FnQ prog f44.results 0 λp K=>p=(.tup [slc 1 Z7 r.1,i64 r.2])∧K=[]
def Z6w {g:Zb} {y:Zs} {a0:Int}:KF prog glob 44 f44 [Zv g,Zbx y,i64 a0] [] (Zs1 g y a0) (λr=>.tup [slc 1 Z7 r.1,i64 r.2]) (λ_=>[]):=Wv func44<|.a<|.bc 3 Zabh<|.a<|.a<|.i (.a<|.e 0 [])
 (.bc 2 Z6p<|.a<|.a<|.i (.a<|.e 0 [])
 (.bc 2 Z46<|.a<|.a<|.i (.a<|.e 0 [])
 (.bc 2 Z6u<|.a<|.a<|.i (.a<|.e 0 [])
 (.c λa1=>.r [(2,.len Zh g.Devices),(3,.post (.ownAs (List.length (List.replicate (Int.toNat (g.Devices.length:Int)) ([.sc (.slice none 0 0)]:List PV))) (List.length (List.replicate (Int.toNat (g.Devices.length:Int)) Zee)) (by simp only[Wc1]) (.mkN (λ(x_:List PV)=>x_) [.sc (.slice none 0 0)] a1)) (.toTz 4 Zq Zee (Int.toNat (g.Devices.length:Int)) (.own .nil)))]<|.a<|.z (.kpt [3,4,8,13,14,15] 5 [(4,.of Zq (List.replicate (Int.toNat (g.Devices.length:Int)) Zee) (λz_=>Wbb (Zbq (row:=Zy) (λ_=>rfl) _) Wbc))])<|.p2 [3,4,8,13,14,15] 5 (λj f=>[.k 4 (.tr 71 1 (j.length) (cellsO Zq j)),.s 14 (.own 4 (j.length)),.s 15 (i64 f)]) (Sum.elim (λl=>.n [14] 5 [.k 4 (.tr 71 1 (l.length) (cellsO Zq l)),.s 14 (.own 4 (l.length))]) (λr=>.q (Z6v r)))
 (λa9 j f=>.r [(3,.len Zk g.Edges)]<|.i (.b λm a2=>.b λo a3=>.d0 [(4,.ca Zw8 a2),(8,.ca Zw8 a3)] 11 [] [10] []<|.b λp a4=>.b λt a5=>.d0 [(3,.ca Z30 a4),(7,.ca Zve a5)] 10 [] [9] []<|.b λu a6=>.r [(3,.ca Z48 a6)]<|.a<|.i (.a<|.s 0 [] rfl)
 (.b λx a7=>.r [(3,.idx Zk a7)]<|.b λd v=>.w (.gst (.takeB 4 Zq (λ_=>rfl) v (off:=0) dC Zy (λ_=>rfl) (λ_=>rfl) d.Ports 87 rfl))<|.c λa8=>.d0 [(4,.idxT v),(5,.fdT),(6,.ldH Zq (λ_=>rfl) v (.own 6 (d.Ports.length))),(9,.app Zy (λ_=>kR) a8),(10,.idxT v),(11,.fdT),(12,.stO Zq (λ_=>rfl) v 0 (some (.own 6 (d.Ports.length))))] 10 [] [9] []<|.a<|.w (.gst (.giveB 4 6 Zq (λ_=>rfl) v (off:=0) dC Zy 6 (d.Ports++[({({({(Zw.mk f m o ([]:Yj) ([]:Ym) ([]:Yi))with Moves:=p}:Zw)with Hides:=t}:Zw)with Steers:=u.1}:Zw)]) 87 (List.length (d.Ports++[({({({(Zw.mk f m o ([]:Yj) ([]:Ym) ([]:Yi))with Moves:=p}:Zw)with Hides:=t}:Zw)with Steers:=u.1}:Zw)])) rfl ({d with Ports:=(d.Ports++[({({({(Zw.mk f m o ([]:Yj) ([]:Ym) ([]:Yi))with Moves:=p}:Zw)with Hides:=t}:Zw)with Steers:=u.1}:Zw)])}:Zo) rfl))<|.w (.pick [3,4,8,13,14,15])<|.w (.ln 4 (lset j (Int.toNat x.Device) ({d with Ports:=(d.Ports++[({({({(Zw.mk f m o ([]:Yj) ([]:Ym) ([]:Yi))with Moves:=p}:Zw)with Hides:=t}:Zw)with Steers:=u.1}:Zw)])}:Zo)))<|.w (.kpt [3,4,8,13,14,15] 5 [(4,.of Zq (List.set j (Int.toNat x.Device) ({d with Ports:=(d.Ports++[({({({(Zw.mk f m o ([]:Yj) ([]:Ym) ([]:Yi))with Moves:=p}:Zw)with Hides:=t}:Zw)with Steers:=u.1}:Zw)])}:Zo)) (λz_=>Wbb (Zbq (row:=Zy) (λ_=>rfl) _) Wbc))])<|.xo ((List.set j (Int.toNat x.Device) ({d with Ports:=(d.Ports++[({({({(Zw.mk f m o ([]:Yj) ([]:Ym) ([]:Yi))with Moves:=p}:Zw)with Hides:=t}:Zw)with Steers:=u.1}:Zw)])}:Zo)),ZI (f+(1:Int)))))
 (.w (.kpt [14] 5 [(4,.of Zq j (λz_=>Wbb (Zbq (row:=Zy) (λ_=>rfl) _) Wbc))])<|.u0)) (fun
 |.inl l=>(.n<|.a<|.z (.gst (.toBuf 4 Zq Z7 (λ_=>rfl) (λz_=>FZs.c (FZ.owB (row:=Zy) (s:=6) (λ_=>rfl) (λ_=>rfl) _) FZs.n) l))<|.e 0 [.of Z7 l])
 |.inr b0=>.r λ_ _ h=>h)))))
def Zjt {j:Yh}:KF prog glob 21 f21 [slc 1 Z7 j] [] (Zcr j) (λr=>.own 0 (r.length)) (λr=>[.tr 71 1 (r.length) (cellsO Zq r)]):=Wv func21<|.a<|.a<|.z (.own 3 1 71)<|.z (.gst (.toTr 0 Zq Z7 ([]:Yh) rfl))<|.a<|.z (.kpt [0,3,4] 1 [(0,.of Zq ([]:Yh) (λz_=>Wbb (Zbq (row:=Zy) (λ_=>rfl) _) Wbc))])<|.p2 [0,3,4] 1 (λd l=>[.k 0 (.tr 71 1 (d.length) (cellsO Zq d)),.s 3 (.own 0 (d.length)),.s 4 (i64 l)]) (λg=>.n [3] 1 [.k 0 (.tr 71 1 (g.length) (cellsO Zq g)),.s 3 (.own 0 (g.length))])
 (λt d l=>.r [(2,.len Z7 j)]<|.i (.b λf o=>.c λp=>.c λq=>.r [(1,.m),(4,.idx Z7 o),(7,.app Zy (λ_=>kR) p),(8,.m),(9,.litFb),(10,.post (.post (.appT Zq d [Zo.mk (([]:Yo)++f.Ports)] [.pv (.own 1 (List.length (([]:Yo)++f.Ports)))] q) (.giveA 0 1 Zq d [.pv (.own 1 (List.length (([]:Yo)++f.Ports)))] 0 Zy 6 (([]:Yo)++f.Ports) 87 (List.length (([]:Yo)++f.Ports)) rfl rfl)) (.eqC 0 (ca:=cellsO Zq d++[owB 87 6 Zy (([]:Yo)++f.Ports)]) (cb:=cellsO Zq (d++[Zo.mk (([]:Yo)++f.Ports)])) (Zaaj (m:=[Zo.mk (([]:Yo)++f.Ports)]))))]<|.a<|.w (.kpt [0,3,4] 1 [(0,.of Zq (d++[Zo.mk (([]:Yo)++f.Ports)]) (λz_=>Wbb (Zbq (row:=Zy) (λ_=>rfl) _) Wbc))])<|.xo ((d++[Zo.mk (([]:Yo)++f.Ports)]),ZI (l+(1:Int))))
 (.w (.kpt [3] 1 [(0,.of Zq d (λz_=>Wbb (Zbq (row:=Zy) (λ_=>rfl) _) Wbc))])<|.u0)) (λg=>.n<|.a<|.z (.kpt [2] 1 [(0,.of Zq g (λz_=>Wbb (Zbq (row:=Zy) (λ_=>rfl) _) Wbc))])<|.o3 1 [] (retT (λz_=>Wbb (Zbq (row:=Zy) (λ_=>rfl) _) Wbc) retN))
def Zr0 {b:Zc}:KF prog glob 262 f262 [.ptr 0 0] [.cells (Zf b)] (Zet b) (λr=>Zk8 r.1) (λr=>[.cells (Zf r.2)]):=Wv func262<|.a<|.bc 1 Zj<|.a<|.a<|.i (.bc 1 Zj<|.bc 2 Zqr<|.bc 3 Zek<|.a<|.a<|.e 1 [])
 (.a<|.i (.bc 1 Zin<|.bc 3 Zin<|.a<|.a<|.e 1 [])
 (.a<|.i (.bc 1 Zin<|.a<|.a<|.e 1 [])
 (.a<|.e 1 [])))
def Z49 {b:Zc}:KF prog glob 184 f184 [.ptr 0 0] [.cells (Zf b)] (Zoe b) (λr=>Zbo r.1) (λr=>[.cells (Zf r.2)]):=Wv func184<|.a<|.bc 0 Zdu<|.a<|.bc 1 Zj<|.a<|.p3 [0,2,3,4] 3 (λd f g=>[.c 0 (Zf d),.c 2 (Zd f),.s 4 (i64 g)]) (λ(j,l)=>.n [2,3] 3 [.c 0 (Zf j),.c 2 (Zd l)])
 (λq d f g=>.a<|.i (.m 2 (λ(o,p)=>.n [0,2,3,4] 3 [.c 0 (Zf o),.c 2 (Zd p)]) (.bc 1 Zj<|.a<|.a<|.i (.bc 1 Zr0<|.a<|.k)
 (.a<|.i (.bc 1 Zr0<|.a<|.k)
 (.a<|.i (.bc 2 Zj<|.bi 3 Ziv<|.a<|.a<|.k)
 (.a<|.i (.bc 1 Zqb<|.a<|.k)
 (.bc 1 Zqb<|.a<|.k))))) (λ(o,p)=>.n<|.a<|.x3))
 (.u)) (λ(j,l)=>.n<|.a<|.e 1 [])
def Zeb {f:Zc} {d:Zb}:KF prog glob 107 f107 [.ptr 0 0,Zv d] [.cells (Zf f)] (Zcl f d) (λr=>Zbo r.1) (λr=>[.cells (Zf r.2)]):=Wv func107<|.a<|.bc 1 Z49<|.a<|.m 1 (λ(g,j)=>.n [0,4,5] 4 [.c 0 (Zf g),.c 3 (Zd j)]) (.l λv o=>.b λp q=>.to [0,3,4,5] [.c 0 (Zf p.2),.s 17 (vb p.1)] (by
 cases v
 ·cases q
  exact .r [(2,.len Zk d.Edges),(4,.bool o)]
 obtain⟨x,w,⟨⟩⟩:=bindb (ifT q rfl)
 exact .r [(2,.len Zk d.Edges),(4,.bool o),(6,.ca Zj w)])<|.i (.bc 6 Zj<|.bi 7 Zk<|.bc 10 Zek<|.d0 [(5,.len Zk d.Edges)] 16 [] [6,15] []<|.bc 6 Zj<|.bi 7 Zk<|.bc 10 Zek<|.d0 [(5,.len Zk d.Edges)] 16 [] [6,15] []<|.k)
 (.k)) (λ(g,j)=>.n<|.m 1 (λ(t,u)=>.n [4,5] 4 [.c 0 (Zf t),.c 3 (Zd u)]) (.bc 1 Zj<|.a<|.i (.bc 2 Zj<|.bi 3 Ziv<|.a<|.a<|.k)
 (.k)) (λ(t,u)=>.n<|.a<|.e 1 []))
def Zrg {b:Zc} {d:Zb} {f:Int}:KF prog glob 106 f106 [.ptr 0 0,Zv d,i64 f] [.cells (Zf b)] (Zeh b d f) (λr=>.own 1 (r.1.length)) (λr=>[.cells (Zf r.2),bf 11 164 Zak r.1 false]):=Wv func106<|.a<|.a<|.z (.own 7 11 164)<|.bc 3 Zj<|.a<|.p3 [0,4,7,8] 3 (λg j k=>[.l 2 Zak j,.c 0 (Zf g),.s 8 (i64 k)]) (λ(m,p)=>.n [7] 3 [.l 2 Zak p,.c 0 (Zf m)])
 (λt g j k=>.a<|.i (.bc 3 Zeb<|.bc 5 Zj<|.c λq=>.r [(9,.app Zak (λ_=>kR) q)]<|.a<|.x3)
 (.u)) (λ(m,p)=>.n<|.a<|.z (.kp [6] 3)<|.z (.swap 2 1)<|.o 2 [])
def Zjn {d:Zc} {f:Zb} {g:Int}:KF prog glob 106 f106 [.ptr 0 0,Zv f,i64 g] [.cells (Zf d)] (Zc5 d f g) (λr=>slc 11 Zak r.1) (λr=>[.cells (Zf r.2)]):=Wv func106<|.a<|.a<|.z (.own 7 11 164)<|.bc 3 Zj<|.a<|.p3 [0,4,7,8] 3 (λj k m=>[.l 2 Zak k,.c 0 (Zf j),.s 8 (i64 m)]) (λ(o,b)=>.n [7] 3 [.l 2 Zak b,.c 0 (Zf o)])
 (λq j k m=>.a<|.i (.bc 3 Zeb<|.bc 5 Zj<|.c λp=>.r [(9,.app Zak (λ_=>kR) p)]<|.a<|.x3)
 (.u)) (λ(o,b)=>.n<|.a<|.e 1 [.of Zak b])
def Z01 {f:Zc} {g:Zb} {d:Zw}:KF prog glob 105 f105 [.ptr 0 0,Zv g,Zsc d] [.cells (Zf f)] (Zpt f g d) (λr=>Zsc r.1) (λr=>[.cells (Zf r.2)]):=Wv func105<|.a<|.m 1 (λ(j,l)=>.n [5,6] 4 [.c 0 (Zf j),.c 2 (Zy l)]) (.bc 1 Zj<|.a<|.a<|.i (.b λo p=>.c λq=>.d0 [(2,.ca Zrg p),(5,.app Zak (λ_=>kR) q),(7,.stShA Zak (o.1++d.Ingress))] 6 [] [2,5] []<|.k)
 (.a<|.i (.b λs t=>.c λu=>.d0 [(2,.ca Zrg t),(5,.app Zak (λ_=>kR) u),(7,.stShA Zak (s.1++d.Egress))] 6 [] [2,5] []<|.k)
 (.a<|.i (.r [(2,.len Zak d.Ingress)]<|.i (.c λv=>.r [(2,.slice Zak d.Ingress v)]<|.k)
 (.k))
 (.a<|.i (.r [(2,.len Zak d.Egress)]<|.i (.c λw=>.r [(2,.slice Zak d.Egress w)]<|.k)
 (.k))
 (.a<|.i (.bc 2 Zeb<|.a<|.k)
 (.a<|.i (.b λx y=>.bc 5 Zj<|.b λz a0=>.c λa1=>.d0 [(2,.ca Zeb y),(6,.idx Zaj a0),(9,.m),(12,.app Zas (λ_=>kR) a1),(14,.stShA Zas ([Zaf.mk x.1 z]++d.Steers))] 13 [] [2,5,6,7,8,9,12] []<|.k)
 (.a<|.i (.a<|.k)
 (.bc 2 Zjn<|.bc 5 Zjn<|.d0 [] 8 [] [2,5,7] []<|.k)))))))) (λ(j,l)=>.n<|.a<|.e 1 [])
def Z02 {a1:Zc} {u:Zb} {a2:Yh}:KF prog glob 45 f45 [.ptr 0 0,Zv u,slc 1 Z7 a2] [.cells (Zf a1)] (Zkj a1 u a2) (λr=>slc 1 Z7 r.1) (λr=>[.cells (Zf r.2)]):=Wv func45<|.a<|.b λb1 b2=>.r [(1,.callC func21 [] We8 (closedH.t (Ztp (λz_=>Wbb (Zbq (row:=Zy) (λ_=>rfl) _) Wbc)) We8) ((Zjt).run _ b2))]<|.bc 1 Zj<|.a<|.z (.kpt [0,4,7,8] 3 [(2,.of Zq b1 (λz_=>Wbb (Zbq (row:=Zy) (λ_=>rfl) _) Wbc))])<|.p3 [0,4,7,8] 3 (λa3 d v=>[.c 0 (Zf a3),.k 2 (.tr 71 1 (d.length) (cellsO Zq d)),.s 7 (.own 2 (d.length)),.s 8 (i64 v)]) (λ(a4,o)=>.n [7] 3 [.c 0 (Zf a4),.k 2 (.tr 71 1 (o.length) (cellsO Zq o)),.s 7 (.own 2 (o.length))])
 (λb8 a3 d v=>.a<|.i (.m 2 (λ(a0,p)=>.n [0,4,7,8] 3 [.c 0 (Zf a0),.k 2 (.tr 71 1 (p.length) (cellsO Zq p)),.s 7 (.own 2 (p.length))]) (.b λx b3=>.r [(2,.lenT d),(3,.ca Zj b3)]<|.l λb4 a5=>.b λb5 a6=>.to [0,4,7,8,9] [.s 36 (vb b5)] (by
 cases b4
 ·cases a6
  exact .r [(2,.lenT d),(4,.bool a5)]
 obtain⟨b9,a7,⟨⟩⟩:=bindb (ifT a6 rfl)
 exact .r [(2,.lenT d),(4,.bool a5),(7,.idxT a7),(8,.fdT),(9,.ldT Zq (λ_=>rfl) a7),(10,.lenL)])<|.i (.b λc0 a8=>.b λj b6=>.r [(3,.idxT a8),(4,.fdT),(5,.ldT Zq (λ_=>rfl) a8),(6,.lenL),(7,.ca Zj b6)]<|.b λf q=>.y (.gst (.takeB 2 Zq (λ_=>rfl) q (off:=0) dC Zy (λ_=>rfl) (λ_=>rfl) f.Ports 87 rfl))<|.b λc1 a9=>.b λg b7=>.b λc2 b0=>.d0 [(2,.idxT q),(3,.fdT),(4,.ldH Zq (λ_=>rfl) q (.own 3 (f.Ports.length))),(10,.idxT q),(11,.fdT),(12,.ldH Zq (λ_=>rfl) q (.own 3 (f.Ports.length))),(14,.idx Zy a9),(15,.ldE Zy a9),(16,.ca Z01 b7),(17,.idx Zy b0),(18,.stE Zy b0 g.1)] 17 [] [16] []<|.y (.pick [0,4,7,8])<|.y (.re (S:=[(0,.ptr 0 0),(4,.ptr 1 0),(7,.own 2 (d.length)),(8,i64 v)]) (K:=[.cells (Zf g.2),.cells (Z3 u),.tr 71 1 (d.length) (List.set (cellsO Zq d) (Int.toNat x.1*1+0) (.pv (.own 3 (f.Ports.length)))),bf 6 87 Zy (List.set f.Ports (Int.toNat j.1) g.1) false]) (K':=[.cells (Zf g.2),.cells (Z3 u),.tr 71 1 (d.length) (List.set (cellsO Zq d) (Int.toNat x.1*1+0) (.pv (.own 3 (List.length (List.set f.Ports (Int.toNat j.1) g.1))))),bf 6 87 Zy (List.set f.Ports (Int.toNat j.1) g.1) false]) rfl (by simp only[Wa6]))<|.y (.gst (.giveB 2 3 Zq (λ_=>rfl) q (off:=0) dC Zy 6 (List.set f.Ports (Int.toNat j.1) g.1) 87 (List.length (List.set f.Ports (Int.toNat j.1) g.1)) rfl ({f with Ports:=(List.set f.Ports (Int.toNat j.1) g.1)}:Zo) rfl))<|.y (.pick [0,4,7,8])<|.y (.ln 2 (lset d (Int.toNat x.1) ({f with Ports:=(List.set f.Ports (Int.toNat j.1) g.1)}:Zo)))<|.y (.kpt [0,4,7,8] 3 [(2,.of Zq (List.set d (Int.toNat x.1) ({f with Ports:=(List.set f.Ports (Int.toNat j.1) g.1)}:Zo)) (λz_=>Wbb (Zbq (row:=Zy) (λ_=>rfl) _) Wbc))])<|.k0)
 (.y (.kpt [0,4,7,8] 3 [(2,.of Zq d (λz_=>Wbb (Zbq (row:=Zy) (λ_=>rfl) _) Wbc))])<|.k0)) (λ(a0,p)=>.n<|.a<|.w (.kpt [0,4,7,8] 3 [(2,.of Zq p (λz_=>Wbb (Zbq (row:=Zy) (λ_=>rfl) _) Wbc))])<|.xo (a0,p,ZI (v-(1:Int)))))
 (.w (.kpt [7] 3 [(2,.of Zq d (λz_=>Wbb (Zbq (row:=Zy) (λ_=>rfl) _) Wbc))])<|.u0)) (λ(a4,o)=>.n<|.a<|.z (.gst (.toBuf 2 Zq Z7 (λ_=>rfl) (λz_=>FZs.c (FZ.owB (row:=Zy) (s:=6) (λ_=>rfl) (λ_=>rfl) _) FZs.n) o))<|.e 1 [.of Z7 o])
def Zw9 {b:Zb} {f:Int}:KF prog glob 90 f90 [Zv b,i64 f] [] (Zcz b f) (λr=>slc 1 Ze r) (λ_=>[]):=Wv func90<|.a<|.a<|.z (.own 5 1 3)<|.a<|.p2 [1,2,5,6] 2 (λg j=>[.l 1 Ze g,.s 6 (i64 j)]) (λd=>.n [5] 2 [.l 1 Ze d])
 (λq g j=>.r [(3,.len Zk b.Edges)]<|.i (.m 2 (λo=>.n [1,2,5,6] 2 [.l 1 Ze o]) (.bi 3 Zk<|.a<|.i (.c λp=>.r [(3,.app Ze (λ_=>kR) p)]<|.k)
 (.k)) (λo=>.n<|.a<|.x2))
 (.u)) (λd=>.n<|.a<|.e 0 [.of Ze d])
def Zsr:KF prog glob 22 f22 [] [] (Zm0) (λr=>Zbo r) (λ_=>[]):=Wv func22<|.a<|.a<|.e 0 []
def Zxz {d:Zc} {b:Zb}:KF prog glob 108 f108 [.ptr 0 0,Zv b] [.cells (Zf d)] (Zhj d b) (λr=>Zsb r.1) (λr=>[.cells (Zf r.2)]):=Wv func108<|.a<|.bc 0 Zsr<|.bc 1 Zsr<|.a<|.bc 2 Zj<|.bi 3 Ziv<|.a<|.a<|.m 1 (λ(f,g)=>.n [0,4,5,6,7] 4 [.c 0 (Zf f),.s 7 (u32 g)]) (.r [(2,.len Zk b.Edges)]<|.i (.bc 6 Zj<|.bi 7 Zk<|.d0 [(5,.len Zk b.Edges)] 11 [] [6] []<|.k)
 (.k)) (λ(f,g)=>.n<|.bc 1 Zj<|.a<|.a<|.a<|.a<|.a<|.e 1 [])
def Z31 {a3:Zc} {l:Zb}:KF prog glob 46 f46 [.ptr 0 0,Zv l] [.cells (Zf a3)] (Znn a3 l) (λr=>slc 1 Z7 r.1) (λr=>[.cells (Zf r.2)]):=Wv func46<|.a<|.c λb5=>.r [(2,.len Zh l.Devices),(3,.post (.ownAs (List.length (List.replicate (Int.toNat (l.Devices.length:Int)) ([.sc (.slice none 0 0)]:List PV))) (List.length (List.replicate (Int.toNat (l.Devices.length:Int)) Zee)) (by simp only[Wc1]) (.mkN (λ(x_:List PV)=>x_) [.sc (.slice none 0 0)] b5)) (.toTz 2 Zq Zee (Int.toNat (l.Devices.length:Int)) (.own .nil)))]<|.a<|.z (.kpt [0,3,5,6] 3 [(2,.of Zq (List.replicate (Int.toNat (l.Devices.length:Int)) Zee) (λz_=>Wbb (Zbq (row:=Zy) (λ_=>rfl) _) Wbc))])<|.p3 [0,3,5,6] 3 (λa4 p x=>[.c 0 (Zf a4),.k 2 (.tr 71 1 (p.length) (cellsO Zq p)),.s 5 (.own 2 (p.length)),.s 6 (i64 x)]) (λ(a5,q)=>.n [5] 3 [.c 0 (Zf a5),.k 2 (.tr 71 1 (q.length) (cellsO Zq q)),.s 5 (.own 2 (q.length))])
 (λc4 a4 p x=>.r [(3,.len Zh l.Devices)]<|.i (.b λb6 b7=>.r [(2,.ca Zw9 b7)]<|.a<|.w (.kpt [0,3,5,6,7,8] 3 [(2,.of Zq p (λz_=>Wbb (Zbq (row:=Zy) (λ_=>rfl) _) Wbc))])<|.p3 [0,3,5,6,7,8] 3 (λa6 f a0=>[.c 0 (Zf a6),.k 2 (.tr 71 1 (f.length) (cellsO Zq f)),.s 5 (.own 2 (f.length)),.s 8 (i64 a0)]) (λ(a1,t)=>.n [0,3,5,6] 3 [.c 0 (Zf a1),.k 2 (.tr 71 1 (t.length) (cellsO Zq t)),.s 5 (.own 2 (t.length))])
 (λc5 a6 f a0=>.r [(2,.len Ze b6)]<|.i (.m 2 (λ(a2,u)=>.n [0,3,5,6,7,8] 3 [.c 0 (Zf a2),.k 2 (.tr 71 1 (u.length) (cellsO Zq u)),.s 5 (.own 2 (u.length))]) (.b λb8 b9=>.b λc0 c1=>.b λa7 c2=>.to [0,3,5,6,7,8] [.c 0 (Zf a7.2),.k 3 (.cells (Zy (Zw.mk b8 c0.1 a7.1 ([]:Yj) ([]:Ym) ([]:Yi)))),.s 9 (.ptr 3 0)] (by
 exact .g [(2,.idx Ze b9),(6,.ca Zjn c1),(9,.ca Zjn c2)] 12 (.e 11 6 (.e 11 9 (.d [] [6,9,11] []) (.d [0,1,2,3,4,5,6,7,8,11,9,10] [6,11,9] [])) (.d [0,1,2,3,4,5,7,8,11,6,9,10] [11,6,9] [])))<|.m 1 (λ(a8,a9)=>.n [0,3,5,6,7,8,9] 4 [.c 0 (Zf a8),.c 3 (Zy a9)]) (.bc 1 Zj<|.a<|.i (.bc 0 Zsr<|.a<|.y (.kpt [0,3,5,6,7,8,9] 4 [(2,.of Zq f (λz_=>Wbb (Zbq (row:=Zy) (λ_=>rfl) _) Wbc))])<|.k0)
 (.y (.kpt [0,3,5,6,7,8,9] 4 [(2,.of Zq f (λz_=>Wbb (Zbq (row:=Zy) (λ_=>rfl) _) Wbc))])<|.k0)) (λ(a8,a9)=>.n<|.m 1 (λ(b0,b1)=>.n [0,3,5,6,7,8,9] 4 [.c 0 (Zf b0),.c 3 (Zy b1)]) (.bc 1 Zj<|.a<|.i (.bc 2 Zeb<|.bc 5 Zj<|.bi 6 Zaj<|.a<|.y (.kpt [0,3,5,6,7,8,9] 4 [(2,.of Zq f (λz_=>Wbb (Zbq (row:=Zy) (λ_=>rfl) _) Wbc))])<|.k0)
 (.y (.kpt [0,3,5,6,7,8,9] 4 [(2,.of Zq f (λz_=>Wbb (Zbq (row:=Zy) (λ_=>rfl) _) Wbc))])<|.k0)) (λ(b0,b1)=>.n<|.m 1 (λ(b2,b3)=>.n [0,3,5,6,7,8,9] 4 [.c 0 (Zf b2),.c 3 (Zy b3)]) (.bc 1 Zj<|.a<|.i (.bc 2 Zeb<|.bc 4 Zj<|.a<|.y (.kpt [0,3,5,6,7,8,9] 4 [(2,.of Zq f (λz_=>Wbb (Zbq (row:=Zy) (λ_=>rfl) _) Wbc))])<|.k0)
 (.y (.kpt [0,3,5,6,7,8,9] 4 [(2,.of Zq f (λz_=>Wbb (Zbq (row:=Zy) (λ_=>rfl) _) Wbc))])<|.k0)) (λ(b2,b3)=>.n<|.m 1 (λ(b4,o)=>.n [0,3,5,6,7,8,9] 4 [.c 0 (Zf b4),.c 3 (Zy o)]) (.bc 1 Zj<|.a<|.i (.bc 2 Zxz<|.a<|.y (.kpt [0,3,5,6,7,8,9] 4 [(2,.of Zq f (λz_=>Wbb (Zbq (row:=Zy) (λ_=>rfl) _) Wbc))])<|.k0)
 (.y (.kpt [0,3,5,6,7,8,9] 4 [(2,.of Zq f (λz_=>Wbb (Zbq (row:=Zy) (λ_=>rfl) _) Wbc))])<|.k0)) (λ(b4,o)=>.n<|.b λj v=>.y (.gst (.takeB 2 Zq (λ_=>rfl) v (off:=0) dC Zy (λ_=>rfl) (λ_=>rfl) j.Ports 87 rfl))<|.c λc3=>.d0 [(4,.idxT v),(5,.fdT),(6,.ldH Zq (λ_=>rfl) v (.own 4 (j.Ports.length))),(9,.app Zy (λ_=>kR) c3),(10,.idxT v),(11,.fdT),(12,.stO Zq (λ_=>rfl) v 0 (some (.own 4 (j.Ports.length))))] 10 [] [9] []<|.y (.gst (.giveB 2 4 Zq (λ_=>rfl) v (off:=0) dC Zy 6 (j.Ports++[o]) 87 (List.length (j.Ports++[o])) rfl ({j with Ports:=(j.Ports++[o])}:Zo) rfl))<|.y (.pick [0,3,5,6,7,8])<|.y (.ln 2 (lset f (Int.toNat x) ({j with Ports:=(j.Ports++[o])}:Zo)))<|.y (.kpt [0,3,5,6,7,8] 3 [(2,.of Zq (List.set f (Int.toNat x) ({j with Ports:=(j.Ports++[o])}:Zo)) (λz_=>Wbb (Zbq (row:=Zy) (λ_=>rfl) _) Wbc))])<|.k0))))) (λ(a2,u)=>.n<|.a<|.w (.kpt [0,3,5,6,7,8] 3 [(2,.of Zq u (λz_=>Wbb (Zbq (row:=Zy) (λ_=>rfl) _) Wbc))])<|.xo (a2,u,ZI (a0+(1:Int)))))
 (.w (.kpt [0,3,5,6] 3 [(2,.of Zq f (λz_=>Wbb (Zbq (row:=Zy) (λ_=>rfl) _) Wbc))])<|.u0)) (λ(a1,t)=>.n<|.a<|.w (.kpt [0,3,5,6] 3 [(2,.of Zq t (λz_=>Wbb (Zbq (row:=Zy) (λ_=>rfl) _) Wbc))])<|.xo (a1,t,ZI (x+(1:Int)))))
 (.w (.kpt [5] 3 [(2,.of Zq p (λz_=>Wbb (Zbq (row:=Zy) (λ_=>rfl) _) Wbc))])<|.u0)) (λ(a5,q)=>.n<|.a<|.z (.gst (.toBuf 2 Zq Z7 (λ_=>rfl) (λz_=>FZs.c (FZ.owB (row:=Zy) (s:=6) (λ_=>rfl) (λ_=>rfl) _) FZs.n) q))<|.e 1 [.of Z7 q])
def Zzw (r:(Yh×Zc)):Exit→St→List Blk→Prop:=FnQ prog f15.results 1 λp K=>p=(slc 1 Z7 r.1)∧K=[.cells (Zf r.2)]
def Zzx {b:Zc} {d:Zb} {f:Zs} {g:Int}:KF prog glob 15 f15 [.ptr 0 0,Zv d,Zbx f,i64 g] [.cells (Zf b)] (Zo0 b d f g) (λr=>slc 1 Z7 r.1) (λr=>[.cells (Zf r.2)]):=Wv func15<|.a<|.m 1 (Sum.elim (λj=>.n [0,5] 3 [.c 0 (Zf j)]) (λr=>.q (Zzw r))) (.bc 1 Zj<|.a<|.i (.bc 3 Z6w<|.a<|.a<|.i (.bc 1 Zj<|.a<|.i (.bc 3 Z02<|.a<|.q 1 [] rfl)
 (.a<|.q 1 [] rfl))
 (.k))
 (.k)) (fun
 |.inl j=>(.n<|.bc 2 Z31<|.a<|.e 1 [])
 |.inr l=>.r λ_ _ h=>h)
def Z73 (r:Bool):Exit→St→List Blk→Prop:=FnQ prog f60.results 0 λp K=>p=(vb r)∧K=[]
def Zqy {b:Yn}:KF prog glob 60 f60 [slc 11 Zak b] [] (Zgn b) (λr=>vb r) (λ_=>[]):=Wv func60<|.a<|.a<|.p1 [0,3] 0 (λc=>[.s 3 (i64 c)]) (Sum.elim (λ_=>.n [0] 0 []) (λr=>.q (Z73 r)))
 (λd c=>.r [(2,.len Zak b)]<|.i (.bi 2 Zak<|.bc 5 Zce<|.a<|.i (.a<|.s 0 [] rfl)
 (.a<|.x1))
 (.u)) (fun
 |.inl ()=>(.n<|.r [(1,.len Zak b)]<|.e 0 [])
 |.inr f=>.r λ_ _ h=>h)
def Z2k (r:Bool):Exit→St→List Blk→Prop:=FnQ prog f127.results 0 λp K=>p=(vb r)∧K=[]
def Z2l {b:Zaa}:KF prog glob 127 f127 [Zsb b] [] (Zhq b) (λr=>vb r) (λ_=>[]):=Wv func127<|.a<|.a<|.p1 [1,3] 1 (λf=>[.s 3 (i64 f)]) (Sum.elim (λ_=>.n [1] 1 []) (λr=>.q (Z2k r)))
 (λo f=>.a<|.i (.c λg=>.c λj=>.c λk=>.c λl=>.d [(2,.ixd g),(4,.ldA Zn (Arr5.get b.From) 0 2 1 g),(7,.ixd j),(9,.ldA Zn (Arr5.get b.From) 0 2 0 j),(13,.ixd k),(15,.ldA Zn (Arr5.get b.To) 10 2 1 k),(18,.ixd l),(20,.ldA Zn (Arr5.get b.To) 10 2 0 l)] 23<|.i (.a<|.s 0 [] rfl)
 (.a<|.x1))
 (.u)) (fun
 |.inl ()=>(.n<|.bc 2 Zce<|.v<|.gt λp m=>.gw<|.rc [] [(6,.ca Zce m)] []<|.e 0 [])
 |.inr t=>.r λ_ _ h=>h)
def Zyh (r:Bool):Exit→St→List Blk→Prop:=FnQ prog f61.results 0 λp K=>p=(vb r)∧K=[]
def Zyi {b:Yj}:KF prog glob 61 f61 [slc 20 Zap b] [] (Zgo b) (λr=>vb r) (λ_=>[]):=Wv func61<|.a<|.r [(1,.len Zap b)]<|.i (.a<|.e 0 [])
 (.a<|.p1 [0,3] 0 (λc=>[.s 3 (i64 c)]) (Sum.elim (λ_=>.n [] 0 []) (λr=>.q (Zyh r)))
 (λf c=>.r [(2,.len Zap b)]<|.i (.bi 2 Zap<|.bc 4 Z2l<|.a<|.i (.a<|.s 0 [] rfl)
 (.a<|.p1 [0,3,4] 0 (λd=>[.s 4 (i64 d)]) (Sum.elim (λ_=>.n [0,3] 0 []) (λr=>.q (Zyh r)))
 (λg d=>.a<|.i (.bi 2 Zap<|.bi 7 Zap<|.bc 10 Zmr<|.d0 [] 16 [] [14,15] []<|.a<|.i (.a<|.s 0 [] rfl)
 (.a<|.x1))
 (.u)) (fun
 |.inl ()=>(.n<|.a<|.x1)
 |.inr j=>.r λ_ _ h=>Wbu ⟨rfl,h⟩)))
 (.u)) (fun
 |.inl ()=>(.n<|.a<|.e 0 [])
 |.inr k=>.r λ_ _ h=>h))
def Z2m {b:Zab}:KF prog glob 129 f129 [Z5s b] [] (Zmg b) (λr=>vb r) (λ_=>[]):=Wv func129<|.a<|.bc 2 Zce<|.v<|.v<|.rc [] [] []<|.e 0 []
def Z03 (r:Bool):Exit→St→List Blk→Prop:=FnQ prog f62.results 0 λp K=>p=(vb r)∧K=[]
def Zua {b:Ym}:KF prog glob 62 f62 [slc 13 Zar b] [] (Zgp b) (λr=>vb r) (λ_=>[]):=Wv func62<|.a<|.a<|.p1 [0,3] 0 (λc=>[.s 3 (i64 c)]) (Sum.elim (λ_=>.n [0] 0 []) (λr=>.q (Z03 r)))
 (λd c=>.r [(2,.len Zar b)]<|.i (.bi 2 Zar<|.bc 4 Z2m<|.a<|.i (.a<|.s 0 [] rfl)
 (.a<|.x1))
 (.u)) (fun
 |.inl ()=>(.n<|.r [(1,.len Zar b)]<|.e 0 [])
 |.inr f=>.r λ_ _ h=>h)
def Zv3 {b:Zaa}:KF prog glob 151 f151 [Zsb b] [] (Zj0 b) (λr=>vb r) (λ_=>[]):=Wv func151<|.a<|.a<|.v<|.gm λd c=>.gw<|.rc [(9,.bool c)] [] []<|.i (.a<|.e 0 [])
 (.v<|.v<|.rc [] [] []<|.e 0 [])
def Z32 (r:Bool):Exit→St→List Blk→Prop:=FnQ prog f152.results 0 λp K=>p=(vb r)∧K=[]
def Z33 {b:Zb} {c:Za}:KF prog glob 152 f152 [Zv b,Zk8 c] [] (Zij b c) (λr=>vb r) (λ_=>[]):=Wv func152<|.a<|.a<|.p1 [2,3,5] 2 (λd=>[.s 5 (i64 d)]) (Sum.elim (λ_=>.n [] 2 []) (λr=>.q (Z32 r)))
 (λf d=>.r [(3,.len Zk b.Edges)]<|.i (.bc 3 Zel<|.a<|.v<|.rc [] [] []<|.i (.a<|.s 0 [] rfl)
 (.a<|.x1))
 (.u)) (fun
 |.inl ()=>(.n<|.a<|.e 0 [])
 |.inr g=>.r λ_ _ h=>h)
def Zkw (r:Bool):Exit→St→List Blk→Prop:=FnQ prog f91.results 0 λp K=>p=(vb r)∧K=[]
def Z04 {f:Zb} {c:Zw}:KF prog glob 91 f91 [Zv f,Zsc c] [] (Zgq f c) (λr=>vb r) (λ_=>[]):=Wv func91<|.a<|.bc 2 Zqy<|.v<|.ge λa7 x=>.gw<|.v<|.ge λa8 y=>.gw<|.v<|.ge λa9 z=>.gw<|.v<|.rc [(25,.len Zas c.Steers)] [(7,.ca Zqy x),(13,.ca Zyi y),(19,.ca Zua z)] []<|.i (.a<|.e 0 [])
 (.a<|.p1 [2,3,5] 2 (λg=>[.s 5 (i64 g)]) (Sum.elim (λ_=>.n [2,3] 2 []) (λr=>.q (Zkw r)))
 (λb0 g=>.r [(3,.len Zap c.Moves)]<|.i (.b λb1 j=>.b λb2 k=>.l λa0 m=>.b λa1 o=>.to [2,3,5] [.s 64 (vb a1)] (by
 cases a0
 ·obtain⟨b3,a2,a3⟩:=bindb (ifF o rfl)
  obtain⟨b4,a4,⟨⟩⟩:=bindb a3;exact .d [(3,.idx Zap j),(5,.ca Zv3 k),(7,.bool m),(12,.idx Zap a2),(16,.ca Z33 a4)] 19
 cases o
 exact .d [(3,.idx Zap j),(5,.ca Zv3 k),(7,.bool m)] 19)<|.i (.a<|.s 0 [] rfl)
 (.a<|.p1 [2,3,5,6] 2 (λp=>[.s 6 (i64 p)]) (Sum.elim (λ_=>.n [2,3,5] 2 []) (λr=>.q (Zkw r)))
 (λb5 p=>.a<|.i (.bi 3 Zap<|.bi 9 Zap<|.bc 12 Zmr<|.d0 [] 18 [] [16,17] []<|.a<|.i (.a<|.s 0 [] rfl)
 (.a<|.x1))
 (.u)) (fun
 |.inl ()=>(.n<|.a<|.x1)
 |.inr r88=>.r λ_ _ h=>Wbu ⟨rfl,h⟩)))
 (.u)) (fun
 |.inl ()=>(.n<|.a<|.p1 [2,3,9] 2 (λt=>[.s 9 (i64 t)]) (Sum.elim (λ_=>.n [3] 2 []) (λr=>.q (Zkw r)))
 (λb6 t=>.r [(3,.len Zar c.Hides)]<|.i (.bi 4 Zar<|.bc 7 Zsq<|.d [] 9<|.i (.a<|.s 0 [] rfl)
 (.a<|.x1))
 (.u)) (fun
 |.inl ()=>(.n<|.a<|.p1 [3,10] 2 (λw=>[.s 10 (i64 w)]) (Sum.elim (λ_=>.n [] 2 []) (λr=>.q (Zkw r)))
 (λb7 w=>.r [(3,.len Zas c.Steers)]<|.i (.bi 3 Zas<|.bc 6 Zce<|.v<|.ge λb8 a5=>.ge λb9 a6=>.gw<|.rc [] [(12,.idx Zas a5),(15,.ca Zae a6)] []<|.i (.a<|.s 0 [] rfl)
 (.a<|.x1))
 (.u)) (fun
 |.inl ()=>(.n<|.a<|.e 0 [])
 |.inr c0=>.r λ_ _ h=>h))
 |.inr c1=>.r λ_ _ h=>h))
 |.inr c2=>.r λ_ _ h=>h))
def Zxa (r:Bool):Exit→St→List Blk→Prop:=FnQ prog f40.results 0 λp K=>p=(vb r)∧K=[]
def Zxb {f:Zb} {c:Yh}:KF prog glob 40 f40 [Zv f,slc 1 Z7 c] [] (Zfm f c) (λr=>vb r) (λ_=>[]):=Wv func40<|.a<|.bc 1 Zck<|.v<|.rc [(5,.len Z7 c),(8,.len Zh f.Devices)] [] []<|.i (.a<|.e 0 [])
 (.a<|.p1 [1,2,5] 1 (λj=>[.s 5 (i64 j)]) (Sum.elim (λ_=>.n [] 1 []) (λr=>.q (Zxa r)))
 (λa6 j=>.r [(2,.len Z7 c)]<|.i (.b λk y=>.r [(2,.ca Zw9 y)]<|.b λz a0=>.r [(2,.idx Z7 a0),(5,.len Zy z.Ports),(7,.len Ze k)]<|.i (.a<|.s 0 [] rfl)
 (.a<|.p1 [1,2,5,6,7] 1 (λm=>[.s 7 (i64 m)]) (Sum.elim (λ_=>.n [1,2,5] 1 []) (λr=>.q (Zxa r)))
 (λa7 m=>.r [(2,.len Ze k)]<|.i (.b λa8 o=>.b λa9 p=>.b λb0 t=>.l λa1 w=>.b λa2 x=>.to [1,2,5,6,7] [.s 69 (vb a2)] (by
 cases a1
 ·obtain⟨b1,a3,g⟩:=bindb (ifF x rfl)
  obtain⟨b2,a4,g⟩:=bindb g;obtain⟨b3,a5,⟨⟩⟩:=bindb g;exact .d [(2,.idx Z7 o),(6,.idx Zy p),(11,.idx Ze t),(14,.bool w),(18,.idx Z7 a3),(22,.idx Zy a4),(24,.ca Z04 a5)] 27
 cases x
 exact .d [(2,.idx Z7 o),(6,.idx Zy p),(11,.idx Ze t),(14,.bool w)] 27)<|.i (.a<|.s 0 [] rfl)
 (.a<|.x1))
 (.u)) (fun
 |.inl ()=>(.n<|.a<|.x1)
 |.inr b4=>.r λ_ _ h=>Wbu ⟨rfl,h⟩)))
 (.u)) (fun
 |.inl ()=>(.n<|.a<|.e 0 [])
 |.inr b5=>.r λ_ _ h=>h))
def Zyj {b:Zl} {c:Zl}:KF prog glob 125 f125 [Za4 b,Za4 c] [] (Zje b c) (λr=>vb r) (λ_=>[]):=Wv func125<|.a<|.v<|.gm λf d=>.gw<|.rc [(11,.bool d)] [] []<|.e 0 []
def Zzy {f:Yd} {j:Zi}:KF prog glob 95 f95 [slc 4 Zz f,Zacr j] [] (Zrr f j) (λr=>slc 4 Zz r) (λ_=>[]):=Wv func95<|.a<|.a<|.p1 [0,3,5] 1 (λk=>[.s 5 (i64 k)]) (λg=>.n [0,3,5] 1 [.s 5 (i64 g)])
 (λa3 k=>.l λq o=>.b λt p=>.to [0,3,5] [.s 19 (vb t)] (by
 cases q
 ·cases p
  exact .d [(2,.len Zz f),(4,.bool o)] 14
 obtain⟨a4,v,w⟩:=bindb (ifT p rfl);obtain⟨a5,x,⟨⟩⟩:=bindb w
 exact .d [(2,.len Zz f),(4,.bool o),(7,.idx Zz v),(12,.ca Zyj x)] 14)<|.i (.a<|.x1)
 (.u)) (λg=>.n<|.c λy=>.c λz=>.c λa0=>.c λa1=>.c λa2=>.d0 [(0,.m),(3,.slice Zz f y),(4,.app Zz (λ_=>kR) z),(7,.app Zz (λ_=>kR) a0),(10,.slice Zz f a1),(11,.app Zz (λ_=>kR) a2)] 12 [] [0,4,7,11] []<|.e 0 [.of Zz (((([]:Yd)++(List.drop (Int.toNat (0:Int)) (List.take (Int.toNat g) f)))++[j])++(List.drop (Int.toNat g) (List.take (Int.toNat (f.length:Int)) f)))])
def Zxc {b:Zah} {c:Int}:KF prog glob 126 f126 [Zad4 b,i64 c] [] (Zpu b c) (λr=>i64 r) (λ_=>[]):=Wv func126<|.a<|.a<|.a<|.i (.a<|.e 0 [])
 (.a<|.i (.a<|.e 0 [])
 (.a<|.e 0 []))
def Z74 (r:Int):Exit→St→List Blk→Prop:=FnQ prog f96.results 0 λp K=>p=(i64 r)∧K=[]
def Zyk {m:Zb} {t:Zp} {w:Int} {x:Int}:KF prog glob 96 f96 [Zv m,Zbd t,i64 w,i64 x] [] (Znp m t w x) (λr=>i64 r) (λ_=>[]):=Wv func96<|.a<|.bc 3 Zr9<|.v<|.ge λa8 a0=>.gw<|.v<|.rc [] [(9,.ca Zr9 a0)] []<|.i (.a<|.e 0 [])
 (.bc 3 Zp2<|.a<|.a<|.p1 [2,4,5,9,10] 2 (λy=>[.s 10 (i64 y)]) (Sum.elim (λ_=>.n [] 2 []) (λr=>.q (Z74 r)))
 (λa9 y=>.r [(3,.len Zx m.Links)]<|.i (.bi 3 Zx<|.bc 6 Zxc<|.a<|.b λb0 c=>.l λa1 f=>.l λa2 g=>.b λb1 o=>.l λa3 j=>.b λa4 k=>.to [2,4,5,9,10] [.s 79 (vb a4)] (by
 cases a1
 ·subst g
  cases o;subst j;cases k;exact .d [(3,.ca Zg0 c),(4,.bool f)] 33
 cases a2
 ·cases o
  subst j;cases k;exact .d [(3,.ca Zg0 c),(4,.bool f),(8,.bool g)] 33
 obtain⟨b2,z,⟨⟩⟩:=bindb (ifT o rfl);cases a3
 ·cases k
  exact .d [(3,.ca Zg0 c),(4,.bool f),(8,.bool g),(11,.idx Ze z),(15,.bool j)] 33
 obtain⟨b3,a5,p⟩:=bindb (ifT k rfl);obtain⟨b4,a6,p⟩:=bindb p;obtain⟨b5,a7,⟨⟩⟩:=bindb p
 exact .d [(3,.ca Zg0 c),(4,.bool f),(8,.bool g),(11,.idx Ze z),(15,.bool j),(18,.idx Ze a5),(23,.idx Zx a6),(29,.idx Ze a7)] 33)<|.i (.a<|.s 0 [] rfl)
 (.a<|.x1))
 (.u)) (fun
 |.inl ()=>(.n<|.a<|.e 0 [])
 |.inr b6=>.r λ_ _ h=>h))
def Z5a {b:Zb} {g:Zp}:KF prog glob 42 f42 [Zv b,Zbd g] [] (Zog b g) (λr=>slc 1 Z6 r) (λ_=>[]):=Wv func42<|.a<|.bc 1 Zck<|.v<|.ge λa1 y=>.gw<|.rc [] [(6,.ca Zb0 y)] []<|.i (.a<|.e 0 [])
 (.a<|.z (.own 5 1 88)<|.a<|.p2 [2,3,5,6] 3 (λj o=>[.l 2 Z6 j,.s 6 (i64 o)]) (λf=>.n [5] 3 [.l 2 Z6 f])
 (λa2 j o=>.r [(3,.len Zh b.Devices)]<|.i (.a<|.a<|.w (.wn 7 4)<|.p2 [2,3,5,6,7,8] 3 (λp q=>[.s 7 (slc 4 Zz p),.s 8 (i64 q)]) (λt=>.n [2,3,5,6,7] 3 [.s 7 (slc 4 Zz t)])
 (λa3 p q=>.r [(3,.len Zk b.Edges)]<|.i (.m 2 (λx=>.n [2,3,5,6,7,8] 3 [.s 7 (slc 4 Zz x)]) (.bi 3 Zk<|.a<|.bc 5 Zt9<|.a<|.i (.k)
 (.a<|.i (.bc 5 Zzy<|.a<|.k)
 (.bc 8 Zyk<|.bc 10 Zzy<|.d [] 11<|.k))) (λx=>.n<|.a<|.x2))
 (.u)) (λt=>.n<|.c λa0=>.r [(3,.app Z6 (λ_=>kR) a0)]<|.a<|.x2))
 (.u)) (λf=>.n<|.a<|.e 0 [.of Z6 f]))
def Z5b {b:Zb} {g:Zp}:KF prog glob 43 f43 [Zv b,Zbd g] [] (Zoh b g) (λr=>slc 1 Zan r) (λ_=>[]):=Wv func43<|.a<|.bc 2 Zb0<|.a<|.i (.a<|.e 0 [])
 (.a<|.z (.own 5 1 22)<|.a<|.p2 [2,3,5,6] 3 (λj k=>[.l 2 Zan j,.s 6 (i64 k)]) (λd=>.n [5] 3 [.l 2 Zan d])
 (λt j k=>.r [(3,.len Zh b.Devices)]<|.i (.a<|.w (.own 7 1 3)<|.a<|.p2 [2,3,5,6,7,8] 4 (λm o=>[.l 3 Ze m,.s 8 (i64 o)]) (λf=>.n [2,3,5,6,7] 4 [.l 3 Ze f])
 (λv m o=>.r [(3,.len Zh b.Devices)]<|.i (.bc 5 Zyk<|.c λp=>.r [(7,.app Ze (λ_=>kR) p)]<|.a<|.x2)
 (.u)) (λf=>.n<|.c λq=>.r [(2,.rd (.pre (.share 3) (.wkO 3 Ze f (.s)))),(3,.app Zan (λ_=>kR) q)]<|.a<|.x2))
 (.u)) (λd=>.n<|.a<|.e 0 [.of Zan d]))
def Z2n {b:Zb} {c:Zp} {f:Yh}:KF prog glob 13 f13 [Zv b,Zbd c,slc 1 Z7 f] [] (Zmh b c f) (λr=>.tup [Zbt r.1,i64 r.2]) (λ_=>[]):=Wv func13<|.a<|.bc 2 Zxb<|.v<|.ge λj g=>.gw<|.rc [] [(7,.ca Zb0 g)] []<|.i (.a<|.e 0 [])
 (.bc 5 Z5a<|.bc 8 Z5b<|.d [] 10<|.e 0 [])
def Z2o {b:Zb} {d:Int}:KF prog glob 49 f49 [Zv b,i64 d] [] (Zmi b d) (λr=>.own 0 (r.length)) (λr=>[bf 1 3 Ze r false]):=Wv func49<|.a<|.a<|.z (.own 5 1 3)<|.a<|.p2 [1,2,5,6] 2 (λf g=>[.l 1 Ze f,.s 6 (i64 g)]) (λj=>.n [5] 2 [.l 1 Ze j])
 (λw f g=>.r [(3,.len Zx b.Links)]<|.i (.m 2 (λp=>.n [1,2,5,6] 2 [.l 1 Ze p]) (.bi 3 Zx<|.v<|.ge λx q=>.gw<|.rc [] [(12,.idx Zx q)] []<|.i (.c λt=>.r [(3,.app Ze (λ_=>kR) t)]<|.k)
 (.k)) (λp=>.n<|.a<|.x2))
 (.u)) (λj=>.n<|.a<|.z (.kp [4] 2)<|.z (.swap 1 0)<|.o 1 [])
def Zzz {a4:Zc} {g:Z0} {j:Int}:KF prog glob 18 f18 [.ptr 0 0,Zbt g,i64 j] [.cells (Zf a4)] (Zjf a4 g j) (λr=>Zbt r.1) (λr=>[.cells (Zf r.2)]):=Wv func18<|.a<|.z (.toFar 1)<|.b λp c5=>.r [(1,.q),(3,.ca Z2o c5)]<|.c λc6=>.r [(0,.m),(2,.q),(3,.app Z6 (λ_=>kR) c6),(5,.m)]<|.c λc7=>.r [(0,.m),(2,.q),(3,.app Zan (λ_=>kR) c7),(5,.m)]<|.b λx5 a5=>.c λc8=>.r [(0,.m),(2,.q),(4,.idx Z6 a5),(5,.ldE Z6 a5),(6,.app Zz (λ_=>kR) c8)]<|.b λx8 a6=>.c λc9=>.r [(0,.m),(2,.q),(4,.idx Zan a6),(5,.ldE Zan a6),(6,.app Ze (λ_=>kR) c9)]<|.b λf d1=>.r [(2,.len Zz (([]:Yd)++x5)),(3,.ca Zj d1)]<|.m 1 (λ(a7,a8,a9,o,t)=>.n [2,4,6,8,9] 8 [.l 3 Ze a8,.l 7 Ze o,.c 0 (Zf a7),.k 6 (bf 4 93 Zz a9 true),.s 8 (slc 4 Zz t)]) (.bc 1 Zj<|.a<|.v<|.rc [(4,.len Zz (([]:Yd)++x5))] [] []<|.i (.y (.share 6)<|.c λd2=>.c λd3=>.c λd4=>.c λd5=>.d0 [(0,.m),(3,.slice Zz (([]:Yd)++x5) d2),(4,.app Zz (λ_=>kR) d3),(8,.slice Zz (([]:Yd)++x5) d4),(9,.app Zz (λ_=>kR) d5)] 10 [] [0,4,9] []<|.y (.share 8)<|.y (.wo 8 Zz ((([]:Yd)++(List.drop (Int.toNat (0:Int)) (List.take (Int.toNat f.1) (([]:Yd)++x5))))++(List.drop (Int.toNat (ZI (f.1+(1:Int)))) (List.take (Int.toNat (List.length (([]:Yd)++x5):Int)) (([]:Yd)++x5)))))<|.k)
 (.v<|.v<|.rc [(4,.len Zz (([]:Yd)++x5)),(9,.len Ze p)] [] []<|.i (.bc 8 Zj<|.b λa2 b0=>.b λu b1=>.b λa3 b2=>.r [(7,.len Ze p),(9,.idx Ze b0),(10,.ldE Ze b0),(11,.idx Zz b1),(12,.fdE Zz (([]:Yd)++x5) f.1),(13,.stE Zz b1 ({u with Edge:=false}:Zi)),(14,.idx Zz b2 (m0:=List.length (([]:Yd)++x5)) (hm:=by simp only[Wa6])),(15,.fdE Zz (List.set (([]:Yd)++x5) (Int.toNat f.1) ({u with Edge:=false}:Zi)) f.1 (m0:=List.length (([]:Yd)++x5)) (hm:=by simp only[Wa6])),(16,.stE Zz b2 ({a3 with Port:=a2}:Zi) (m0:=List.length (([]:Yd)++x5)) (hm:=by simp only[Wa6]))]<|.y (.pick [2,4,6,8,9])<|.y (.ln 6 ((lset (List.set (([]:Yd)++x5) (Int.toNat f.1) ({u with Edge:=false}:Zi)) (Int.toNat f.1) ({a3 with Port:=a2}:Zi)).trans (lset (([]:Yd)++x5) (Int.toNat f.1) ({u with Edge:=false}:Zi))))<|.y (.share 6)<|.y (.wo 8 Zz (List.set (List.set (([]:Yd)++x5) (Int.toNat f.1) ({u with Edge:=false}:Zi)) (Int.toNat f.1) ({a3 with Port:=a2}:Zi)))<|.k)
 (.l λd6 w=>.l λd7 x=>.l λd8 a0=>.b λd9 a1=>.to [0,2,4,6,7,8,9,10] [.s 95 (vb d9)] (by
 cases d6
 ·subst x
  subst a0;cases a1;exact .r [(2,.bool w)]
 cases d7
 ·subst a0
  cases a1;exact .r [(2,.bool w),(4,.len Zz (([]:Yd)++x5)),(7,.bool x)]
 cases d8
 ·cases a1
  exact .r [(2,.bool w),(4,.len Zz (([]:Yd)++x5)),(7,.bool x),(9,.len Ze p),(12,.bool a0)]
 obtain⟨f1,b3,⟨⟩⟩:=bindb (ifT a1 rfl)
 exact .r [(2,.bool w),(4,.len Zz (([]:Yd)++x5)),(7,.bool x),(9,.len Ze p),(12,.bool a0),(15,.idx Zz b3),(16,.fdE Zz (([]:Yd)++x5) f.1),(17,.fdE Zz (([]:Yd)++x5) f.1),(18,.ldE Zz b3)])<|.i (.b λb4 b5=>.r [(2,.idx Zz b5),(3,.fdE Zz (([]:Yd)++x5) f.1),(4,.ldE Zz b5)]<|.a<|.l λe0 b6=>.b λe1 b7=>.to [0,2,4,6,7,8,9,10,12] [.s 140 (vb e1)] (by
 cases e0
 ·cases b7
  exact .d [(3,.len Zz (([]:Yd)++x5)),(5,.bool b6)] 15
 obtain⟨f2,b8,⟨⟩⟩:=bindb (ifT b7 rfl)
 exact .d [(3,.len Zz (([]:Yd)++x5)),(5,.bool b6),(9,.idx Zz b8),(10,.fdE Zz (([]:Yd)++x5) (ZI (f.1+(1:Int)))),(11,.ldE Zz b8)] 15)<|.i (.y (.share 6)<|.y (.wo 8 Zz (([]:Yd)++x5))<|.k)
 (.y (.share 6)<|.c λe2=>.c λe3=>.bc 11 Zj<|.b λe4 b9=>.c λe5=>.d0 [(0,.m),(4,.slice Zz (([]:Yd)++x5) e2),(5,.app Zz (λ_=>kR) e3),(10,.len Ze p),(12,.idx Ze b9),(13,.ldE Ze b9),(16,.app Zz (λ_=>kR) e5)] 17 [] [0,5,11,16] []<|.c λe6=>.c λe7=>.r [(4,.slice Zz (([]:Yd)++x5) e6),(5,.app Zz (λ_=>kR) e7)]<|.y (.share 9)<|.y (.wo 8 Zz (((([]:Yd)++(List.drop (Int.toNat (0:Int)) (List.take (Int.toNat (ZI (f.1+(1:Int)))) (([]:Yd)++x5))))++[Zi.mk ({b4.Prefix with Bits:=(ZI (b4.Prefix.Bits+(1:Int)))}:Zl) false e4])++(List.drop (Int.toNat (ZI (f.1+(1:Int)))) (List.take (Int.toNat (List.length (([]:Yd)++x5):Int)) (([]:Yd)++x5)))))<|.k))
 (.v<|.rc [(1,.len Ze (([]:Ya)++x8)),(5,.len Ze p)] [] []<|.i (.b λe8 e9=>.r [(2,.len Ze (([]:Ya)++x8)),(3,.ca Zj e9)]<|.a<|.i (.c λf0=>.bc 9 Zj<|.b λc0 c1=>.b λf3 c2=>.r [(4,.app Ze (λ_=>kR) f0),(7,.lenO),(10,.idx Ze c1),(11,.ldE Ze c1),(12,.idx Ze c2),(13,.stE Ze c2 c0)]<|.y (.pick [2,4,6,8,9])<|.y (.ln 7 (lset (([]:Ya)++x8) (Int.toNat e8.1) c0))<|.y (.share 6)<|.y (.wo 8 Zz (([]:Yd)++x5))<|.k)
 (.y (.share 6)<|.y (.wo 8 Zz (([]:Yd)++x5))<|.k))
 (.y (.share 6)<|.y (.wo 8 Zz (([]:Yd)++x5))<|.k))))) (λ(a7,a8,a9,o,t)=>.n<|.z (.share 7)<|.b λf4 c3=>.b λf5 c4=>.d0 [(1,.q),(4,.q),(8,.idx Z6 c3),(9,.stE Z6 c3 t),(10,.idx Zan c4),(11,.rd (.wkO 7 Ze o (.stE Zan c4 o)))] 10 [] [9] []<|.z (.pick [4,6])<|.z (.ln 4 (lset (([]:(List Yd))++g.Routes) (Int.toNat j) t))<|.z (.ln 5 (lset (([]:(List Ya))++g.Labels) (Int.toNat j) o))<|.z (.share 4)<|.z (.share 5)<|.r [(0,.wkP (Zbj (Z0.mk g.Topology g.Failure g.Configs (List.set (([]:(List Yd))++g.Routes) (Int.toNat j) t) (List.set (([]:(List Ya))++g.Labels) (Int.toNat j) o))) [.of Z6 (List.set (([]:(List Yd))++g.Routes) (Int.toNat j) t),.of Zan (List.set (([]:(List Ya))++g.Labels) (Int.toNat j) o)] .q)]<|.e 1 [])
def Zz0 {f:Zc} {j:Int} {l:Int} {o:Bool}:KF prog glob 5 f5 [.ptr 0 0,i64 j,i64 l,vb o] [.cells (Zf f)] (Zo1 f j l o) (λr=>Zbt r.1) (λr=>[.cells (Zf r.2)]):=Wv func5<|.a<|.b λa0 a1=>.r [(3,.ca Z40 a1)]<|.b λa7 a2=>.b λa3 a4=>.b λa5 a6=>.to [0,3,8,9] [.c 0 (Zf a3.2),.k 4 (.cells (Zbj a5.1)),.s 12 (.ptr 4 0)] (by
 exact .g [(3,.ca Zzp a2),(8,.ca Zzx a4),(9,.ca Z2n a6)] 15 (.e 13 3 (.e 13 8 (.d [] [3,8,13,14] []) (.d [0,1,2,3,4,5,6,7,13,8,9,10,11,12,14] [3,13,8,14] [])) (.d [0,1,2,4,5,6,7,13,3,8,9,10,11,12,14] [13,3,8,14] [])))<|.bc 1 Zj<|.a<|.p3 [0,3,8,9,12,14] 5 (λp q t=>[.c 0 (Zf p),.c 4 (Zbj q),.s 14 (i64 t)]) (λ(w,x)=>.n [8,12] 5 [.c 0 (Zf w),.c 4 (Zbj x)])
 (λa8 p q t=>.v<|.rc [] [] []<|.i (.m 2 (λ(y,z)=>.n [0,3,8,9,12,14] 5 [.c 0 (Zf y),.c 4 (Zbj z)]) (.bc 4 Zj<|.r [(3,.len Zh a0.1.Devices)]<|.bc 4 Zbw<|.a<|.i (.bc 3 Zzz<|.a<|.k)
 (.k)) (λ(y,z)=>.n<|.a<|.x3))
 (.u)) (λ(w,x)=>.n<|.a<|.e 1 [])
def Zxd {a:Zc} {b:Zb} {d:Zb} {f:Zb}:KI prog glob f50 [Zv f] [.cells (Zf a),.cells (Z3 b),.cells (Z3 d)] (Zlf a b d f) (λr=>.agg [.own 3 (r.1.length),.own 4 (r.2.1.length),.own 5 (r.2.2.1.length),.own 6 (r.2.2.2.1.length),.sc (.int .i64 r.2.2.2.2)]) (λr=>[.cells (Zf a),.cells (Z3 b),.cells (Z3 d),bf 5 132 Zh r.1 false,bf 3 134 Zx r.2.1 false,bf 6 136 Zk r.2.2.1 false,bf 2 90 Zu r.2.2.2.1 false]):=KI.mk1<|.r [(1,.m)]<|.z (.toFar 3)<|.z (.gst (.ownF 4 0 5 132))<|.z (.gst (.ownF 4 1 3 134))<|.z (.gst (.ownF 4 2 6 136))<|.z (.gst (.ownF 4 3 2 90))<|.c λi=>.r [(0,.m),(2,.q),(3,.app Zh (λ_=>kR) i),(5,.m)]<|.c λj=>.r [(0,.m),(2,.q),(3,.app Zx (λ_=>kR) j),(5,.m)]<|.c λk=>.r [(0,.m),(2,.q),(3,.app Zk (λ_=>kR) k),(5,.m)]<|.c λl=>.r [(0,.m),(2,.q),(3,.app Zu (λ_=>kR) l),(5,.m)]<|.r [(0,.q),(1,.m)]<|.z (.kp [2] 13)<|.z (.swap 9 3)<|.z (.swap 10 4)<|.z (.swap 11 5)<|.z (.swap 12 6)<|.g 7
def Zwc {b:Zc} {d:Zl}:KF prog glob 51 f51 [.ptr 0 0,Za4 d] [.cells (Zf b)] (Zko b d) (λr=>Za4 r.1) (λr=>[.cells (Zf r.2)]):=Wv func51<|.a<|.m 1 (λ(f,g)=>.n [3,4] 3 [.c 0 (Zf f),.c 1 (Zu g)]) (.bc 1 Zj<|.a<|.a<|.i (.bc 2 Zj<|.bi 3 Ze<|.a<|.k)
 (.a<|.i (.a<|.k)
 (.a<|.i (.a<|.k)
 (.bc 3 Zj<|.c λj=>.d0 [(5,.sh j)] 7 [] [3] []<|.k)))) (λ(f,g)=>.n<|.a<|.e 1 [])
end
section
open Go.Proofs
def Zvf {a0:Zc} {a1:Zb}:KF prog glob 19 f19 [.ptr 0 0,Zv a1] [.cells (Zf a0)] (Ze1 a0 a1) (λr=>Zv r.1) (λr=>[.cells (Zf r.2)]):=Wv func19<|.a<|.b λf b9=>.r [(1,.inl func50 (KI.run Zxd _ b9)),(2,.m),(3,.m)]<|.z (.toFar 7)<|.bc 1 Zj<|.a<|.a<|.i (.bc 4 Zj<|.b λa2 c0=>.b λa3 c1=>.c λc2=>.d0 [(1,.q),(5,.idx Zaj c0),(8,.ca Zj c1),(12,.app Zh (λ_=>kR) c2),(14,.m)] 13 [] [4,8,12] []<|.z (.share 3)<|.z (.share 4)<|.z (.share 5)<|.z (.share 6)<|.r [(0,.wkP (Z3 (Zb.mk (f.1++[Z5.mk a2 (ZI (a3.1-(1:Int))) false false ByteArray.empty]) f.2.1 f.2.2.1 f.2.2.2.1 f.2.2.2.2)) [.of Zh (f.1++[Z5.mk a2 (ZI (a3.1-(1:Int))) false false ByteArray.empty]),.of Zx f.2.1,.of Zk f.2.2.1,.of Zu f.2.2.2.1] .q)]<|.e 1 [])
 (.a<|.i (.r [(1,.q),(2,.len Zh f.1)]<|.i (.bc 4 Zj<|.b λg c3=>.b λj a4=>.d0 [(1,.q),(5,.idx Zaj c3),(7,.idx Zh a4),(8,.fdE Zh f.1 (0:Int)),(9,.stE Zh a4 ({j with Class:=g}:Z5))] 7 [] [4] []<|.z (.pick [4,5])<|.z (.ln 3 (lset f.1 (Int.toNat (0:Int)) ({j with Class:=g}:Z5)))<|.z (.share 3)<|.z (.share 4)<|.z (.share 5)<|.z (.share 6)<|.r [(0,.wkP (Z3 (Zb.mk (List.set f.1 (Int.toNat (0:Int)) ({j with Class:=g}:Z5)) f.2.1 f.2.2.1 f.2.2.2.1 f.2.2.2.2)) [.of Zh (List.set f.1 (Int.toNat (0:Int)) ({j with Class:=g}:Z5)),.of Zx f.2.1,.of Zk f.2.2.1,.of Zu f.2.2.2.1] .q)]<|.e 1 [])
 (.z (.share 3)<|.z (.share 4)<|.z (.share 5)<|.z (.share 6)<|.r [(0,.wkP (Z3 (Zb.mk f.1 f.2.1 f.2.2.1 f.2.2.2.1 f.2.2.2.2)) [.of Zh f.1,.of Zx f.2.1,.of Zk f.2.2.1,.of Zu f.2.2.2.1] .q)]<|.e 1 []))
 (.a<|.i (.b λa5 c4=>.b λa6 c5=>.b λa7 c6=>.c λc7=>.d0 [(1,.q),(3,.ca Zj c4),(6,.ca Zj c5),(8,.ca Zj c6),(11,.app Zx (λ_=>kR) c7),(13,.m)] 12 [] [3,6,8,11] []<|.z (.share 3)<|.z (.share 4)<|.z (.share 5)<|.z (.share 6)<|.r [(0,.wkP (Z3 (Zb.mk f.1 (f.2.1++[Zah.mk (ZI (a5.1-(1:Int))) a6.1 a7.1]) f.2.2.1 f.2.2.2.1 f.2.2.2.2)) [.of Zh f.1,.of Zx (f.2.1++[Zah.mk (ZI (a5.1-(1:Int))) a6.1 a7.1]),.of Zk f.2.2.1,.of Zu f.2.2.2.1] .q)]<|.e 1 [])
 (.a<|.i (.r [(1,.q),(2,.len Zx f.2.1)]<|.i (.bc 4 Zj<|.b λk c8=>.b λl a8=>.d0 [(1,.q),(5,.idx Ze c8),(7,.idx Zx a8),(8,.fdE Zx f.2.1 (0:Int)),(9,.stE Zx a8 ({l with Cost:=k}:Zah))] 7 [] [4] []<|.z (.pick [4,5])<|.z (.ln 4 (lset f.2.1 (Int.toNat (0:Int)) ({l with Cost:=k}:Zah)))<|.z (.share 3)<|.z (.share 4)<|.z (.share 5)<|.z (.share 6)<|.r [(0,.wkP (Z3 (Zb.mk f.1 (List.set f.2.1 (Int.toNat (0:Int)) ({l with Cost:=k}:Zah)) f.2.2.1 f.2.2.2.1 f.2.2.2.2)) [.of Zh f.1,.of Zx (List.set f.2.1 (Int.toNat (0:Int)) ({l with Cost:=k}:Zah)),.of Zk f.2.2.1,.of Zu f.2.2.2.1] .q)]<|.e 1 [])
 (.z (.share 3)<|.z (.share 4)<|.z (.share 5)<|.z (.share 6)<|.r [(0,.wkP (Z3 (Zb.mk f.1 f.2.1 f.2.2.1 f.2.2.2.1 f.2.2.2.2)) [.of Zh f.1,.of Zx f.2.1,.of Zk f.2.2.1,.of Zu f.2.2.2.1] .q)]<|.e 1 []))
 (.a<|.i (.r [(1,.q),(2,.len Zk f.2.2.1)]<|.i (.b λn c9=>.b λo a9=>.d0 [(1,.q),(3,.ca Zj c9),(5,.idx Zk a9),(6,.fdE Zk f.2.2.1 (0:Int)),(7,.stE Zk a9 ({o with Device:=(ZI (n.1-(1:Int)))}:Z1))] 5 [] [3] []<|.z (.pick [4,5])<|.z (.ln 5 (lset f.2.2.1 (Int.toNat (0:Int)) ({o with Device:=(ZI (n.1-(1:Int)))}:Z1)))<|.z (.share 3)<|.z (.share 4)<|.z (.share 5)<|.z (.share 6)<|.r [(0,.wkP (Z3 (Zb.mk f.1 f.2.1 (List.set f.2.2.1 (Int.toNat (0:Int)) ({o with Device:=(ZI (n.1-(1:Int)))}:Z1)) f.2.2.2.1 f.2.2.2.2)) [.of Zh f.1,.of Zx f.2.1,.of Zk (List.set f.2.2.1 (Int.toNat (0:Int)) ({o with Device:=(ZI (n.1-(1:Int)))}:Z1)),.of Zu f.2.2.2.1] .q)]<|.e 1 [])
 (.z (.share 3)<|.z (.share 4)<|.z (.share 5)<|.z (.share 6)<|.r [(0,.wkP (Z3 (Zb.mk f.1 f.2.1 f.2.2.1 f.2.2.2.1 f.2.2.2.2)) [.of Zh f.1,.of Zx f.2.1,.of Zk f.2.2.1,.of Zu f.2.2.2.1] .q)]<|.e 1 []))
 (.a<|.i (.r [(1,.q),(2,.len Zk f.2.2.1)]<|.i (.b λe1 b0=>.b λp d1=>.b λs b1=>.d0 [(1,.q),(3,.q),(4,.len Zk f.2.2.1),(8,.q),(10,.q),(11,.len Zk f.2.2.1),(13,.idx Zk b0),(14,.fdE Zk f.2.2.1 (ZI ((f.2.2.1.length:Int)-(1:Int)))),(15,.ldE Zk b0),(16,.ca Zwc d1),(17,.idx Zk b1),(18,.fdE Zk f.2.2.1 (ZI ((f.2.2.1.length:Int)-(1:Int)))),(19,.stE Zk b1 ({s with Prefix:=p.1}:Z1))] 17 [] [16] []<|.z (.pick [4,5])<|.z (.ln 5 (lset f.2.2.1 (Int.toNat (ZI ((f.2.2.1.length:Int)-(1:Int)))) ({s with Prefix:=p.1}:Z1)))<|.z (.share 3)<|.z (.share 4)<|.z (.share 5)<|.z (.share 6)<|.r [(0,.wkP (Z3 (Zb.mk f.1 f.2.1 (List.set f.2.2.1 (Int.toNat (ZI ((f.2.2.1.length:Int)-(1:Int)))) ({s with Prefix:=p.1}:Z1)) f.2.2.2.1 f.2.2.2.2)) [.of Zh f.1,.of Zx f.2.1,.of Zk (List.set f.2.2.1 (Int.toNat (ZI ((f.2.2.1.length:Int)-(1:Int)))) ({s with Prefix:=p.1}:Z1)),.of Zu f.2.2.2.1] .q)]<|.e 1 [])
 (.z (.share 3)<|.z (.share 4)<|.z (.share 5)<|.z (.share 6)<|.r [(0,.wkP (Z3 (Zb.mk f.1 f.2.1 f.2.2.1 f.2.2.2.1 f.2.2.2.2)) [.of Zh f.1,.of Zx f.2.1,.of Zk f.2.2.1,.of Zu f.2.2.2.1] .q)]<|.e 1 []))
 (.a<|.i (.r [(1,.q),(2,.len Zk f.2.2.1)]<|.i (.b λt b2=>.b λu b3=>.d [(1,.q),(3,.q),(4,.idx Zk b2),(5,.fdE Zk f.2.2.1 (0:Int)),(6,.ldE Zk b2),(8,.idx Zk b3),(9,.fdE Zk f.2.2.1 (0:Int)),(10,.stE Zk b3 ({u with Planned:=(!t.Planned)}:Z1))] 8<|.z (.pick [4,5])<|.z (.ln 5 (lset f.2.2.1 (Int.toNat (0:Int)) ({u with Planned:=(!t.Planned)}:Z1)))<|.z (.share 3)<|.z (.share 4)<|.z (.share 5)<|.z (.share 6)<|.r [(0,.wkP (Z3 (Zb.mk f.1 f.2.1 (List.set f.2.2.1 (Int.toNat (0:Int)) ({u with Planned:=(!t.Planned)}:Z1)) f.2.2.2.1 f.2.2.2.2)) [.of Zh f.1,.of Zx f.2.1,.of Zk (List.set f.2.2.1 (Int.toNat (0:Int)) ({u with Planned:=(!t.Planned)}:Z1)),.of Zu f.2.2.2.1] .q)]<|.e 1 [])
 (.z (.share 3)<|.z (.share 4)<|.z (.share 5)<|.z (.share 6)<|.r [(0,.wkP (Z3 (Zb.mk f.1 f.2.1 f.2.2.1 f.2.2.2.1 f.2.2.2.2)) [.of Zh f.1,.of Zx f.2.1,.of Zk f.2.2.1,.of Zu f.2.2.2.1] .q)]<|.e 1 []))
 (.a<|.i (.r [(1,.q),(2,.len Zk f.2.2.1)]<|.i (.b λb4 b5=>.c λd2=>.d0 [(1,.q),(3,.q),(4,.idx Zk b5),(5,.ldE Zk b5),(7,.app Zk (λ_=>kR) d2),(9,.m)] 8 [] [5,6,7] []<|.z (.share 3)<|.z (.share 4)<|.z (.share 5)<|.z (.share 6)<|.r [(0,.wkP (Z3 (Zb.mk f.1 f.2.1 (f.2.2.1++[b4]) f.2.2.2.1 f.2.2.2.2)) [.of Zh f.1,.of Zx f.2.1,.of Zk (f.2.2.1++[b4]),.of Zu f.2.2.2.1] .q)]<|.e 1 [])
 (.z (.share 3)<|.z (.share 4)<|.z (.share 5)<|.z (.share 6)<|.r [(0,.wkP (Z3 (Zb.mk f.1 f.2.1 f.2.2.1 f.2.2.2.1 f.2.2.2.2)) [.of Zh f.1,.of Zx f.2.1,.of Zk f.2.2.1,.of Zu f.2.2.2.1] .q)]<|.e 1 []))
 (.a<|.i (.r [(1,.q),(2,.len Zk f.2.2.1)]<|.i (.bc 4 Zj<|.b λv d3=>.b λw b6=>.d0 [(1,.q),(5,.idx Zaj d3),(7,.idx Zk b6),(8,.fdE Zk f.2.2.1 (0:Int)),(9,.stE Zk b6 ({w with Zone:=v}:Z1))] 7 [] [4] []<|.z (.pick [4,5])<|.z (.ln 5 (lset f.2.2.1 (Int.toNat (0:Int)) ({w with Zone:=v}:Z1)))<|.z (.share 3)<|.z (.share 4)<|.z (.share 5)<|.z (.share 6)<|.r [(0,.wkP (Z3 (Zb.mk f.1 f.2.1 (List.set f.2.2.1 (Int.toNat (0:Int)) ({w with Zone:=v}:Z1)) f.2.2.2.1 f.2.2.2.2)) [.of Zh f.1,.of Zx f.2.1,.of Zk (List.set f.2.2.1 (Int.toNat (0:Int)) ({w with Zone:=v}:Z1)),.of Zu f.2.2.2.1] .q)]<|.e 1 [])
 (.z (.share 3)<|.z (.share 4)<|.z (.share 5)<|.z (.share 6)<|.r [(0,.wkP (Z3 (Zb.mk f.1 f.2.1 f.2.2.1 f.2.2.2.1 f.2.2.2.2)) [.of Zh f.1,.of Zx f.2.1,.of Zk f.2.2.1,.of Zu f.2.2.2.1] .q)]<|.e 1 []))
 (.a<|.i (.b λb7 d4=>.c λd5=>.d0 [(1,.q),(3,.ca Zpy d4),(5,.app Zu (λ_=>kR) d5),(7,.m)] 6 [] [3,5] []<|.z (.share 3)<|.z (.share 4)<|.z (.share 5)<|.z (.share 6)<|.r [(0,.wkP (Z3 (Zb.mk f.1 f.2.1 f.2.2.1 (f.2.2.2.1++[b7.1]) f.2.2.2.2)) [.of Zh f.1,.of Zx f.2.1,.of Zk f.2.2.1,.of Zu (f.2.2.2.1++[b7.1])] .q)]<|.e 1 [])
 (.a<|.i (.bc 2 Zj<|.b λd6 d7=>.r [(3,.idx Ze d7),(6,.m)]<|.z (.share 3)<|.z (.share 4)<|.z (.share 5)<|.z (.share 6)<|.r [(0,.wkP (Z3 (Zb.mk f.1 f.2.1 f.2.2.1 f.2.2.2.1 d6)) [.of Zh f.1,.of Zx f.2.1,.of Zk f.2.2.1,.of Zu f.2.2.2.1] .q)]<|.e 1 [])
 (.a<|.i (.r [(1,.q),(2,.len Zh f.1)]<|.i (.z (.share 3)<|.c λd8=>.r [(1,.q),(2,.slice Zh f.1 d8),(4,.m)]<|.z (.share 4)<|.z (.share 5)<|.z (.share 6)<|.r [(0,.wkP (Z3 (Zb.mk (List.drop (Int.toNat (1:Int)) (List.take (Int.toNat (f.1.length:Int)) f.1)) f.2.1 f.2.2.1 f.2.2.2.1 f.2.2.2.2)) [.of Zx f.2.1,.of Zk f.2.2.1,.of Zu f.2.2.2.1] .q)]<|.e 1 [])
 (.z (.share 3)<|.z (.share 4)<|.z (.share 5)<|.z (.share 6)<|.r [(0,.wkP (Z3 (Zb.mk f.1 f.2.1 f.2.2.1 f.2.2.2.1 f.2.2.2.2)) [.of Zh f.1,.of Zx f.2.1,.of Zk f.2.2.1,.of Zu f.2.2.2.1] .q)]<|.e 1 []))
 (.a<|.i (.r [(1,.q),(2,.len Zh f.1)]<|.i (.bc 4 Zj<|.b λx d9=>.b λy b8=>.d0 [(1,.q),(5,.idx Ze d9),(7,.idx Zh b8),(8,.fdE Zh f.1 (0:Int)),(9,.stE Zh b8 ({y with Capacity:=x}:Z5))] 7 [] [4] []<|.z (.pick [4,5])<|.z (.ln 3 (lset f.1 (Int.toNat (0:Int)) ({y with Capacity:=x}:Z5)))<|.z (.share 3)<|.z (.share 4)<|.z (.share 5)<|.z (.share 6)<|.r [(0,.wkP (Z3 (Zb.mk (List.set f.1 (Int.toNat (0:Int)) ({y with Capacity:=x}:Z5)) f.2.1 f.2.2.1 f.2.2.2.1 f.2.2.2.2)) [.of Zh (List.set f.1 (Int.toNat (0:Int)) ({y with Capacity:=x}:Z5)),.of Zx f.2.1,.of Zk f.2.2.1,.of Zu f.2.2.2.1] .q)]<|.e 1 [])
 (.z (.share 3)<|.z (.share 4)<|.z (.share 5)<|.z (.share 6)<|.r [(0,.wkP (Z3 (Zb.mk f.1 f.2.1 f.2.2.1 f.2.2.2.1 f.2.2.2.2)) [.of Zh f.1,.of Zx f.2.1,.of Zk f.2.2.1,.of Zu f.2.2.2.1] .q)]<|.e 1 []))
 (.r [(1,.q),(2,.len Zk f.2.2.1)]<|.i (.z (.share 5)<|.c λe0=>.r [(1,.q),(2,.slice Zk f.2.2.1 e0),(4,.m)]<|.z (.share 3)<|.z (.share 4)<|.z (.share 6)<|.r [(0,.wkP (Z3 (Zb.mk f.1 f.2.1 (List.drop (Int.toNat (1:Int)) (List.take (Int.toNat (f.2.2.1.length:Int)) f.2.2.1)) f.2.2.2.1 f.2.2.2.2)) [.of Zh f.1,.of Zx f.2.1,.of Zu f.2.2.2.1] .q)]<|.e 1 [])
 (.z (.share 3)<|.z (.share 4)<|.z (.share 5)<|.z (.share 6)<|.r [(0,.wkP (Z3 (Zb.mk f.1 f.2.1 f.2.2.1 f.2.2.2.1 f.2.2.2.2)) [.of Zh f.1,.of Zx f.2.1,.of Zk f.2.2.1,.of Zu f.2.2.2.1] .q)]<|.e 1 []))))))))))))))
def Zvo {j:Zc} {f:Zp}:KF prog glob 20 f20 [.ptr 0 0,Zbd f] [.cells (Zf j)] (Zfg j f) (λr=>Zbd r.1) (λr=>[.cells (Zf r.2)]):=Wv func20<|.a<|.c λo=>.c λp=>.to [0,4] [.k 3 (bf 1 3 Ze (([]:Ya)++f.Links) false),.k 4 (bf 1 3 Ze (([]:Ya)++f.Devices) false),.k 5 (.cells [.own 3 (List.length (([]:Ya)++f.Links)),.own 4 (List.length (([]:Ya)++f.Devices))]),.s 5 (.ptr 5 0)] (by
 exact .g [(0,.m),(3,.app Ze (λ_=>kR) o),(4,.m),(7,.app Ze (λ_=>kR) p),(8,.m),(9,.m),(10,.m)] 10 (.e 4 0 (.e 9 0 (.e 4 3 (.e 9 3 (.e 9 4 (.e 9 7 (.d [] [0,3,4,7,9] []) (.d [0,1,2,3,4,5,6,9,7,8] [0,3,4,9,7] [])) (.x [0,1,2,3,5,6,9,4,7,8] [0,3,9,4,7] [(4,5)] 5)) (.x [0,1,2,5,6,9,3,4,7,8] [0,9,3,4,7] [(4,5)] 5)) (.e 9 4 (.e 9 3 (.e 9 7 (.d [0,1,2,4,3,5,6,7,8,9] [0,4,3,7,9] []) (.d [0,1,2,4,3,5,6,9,7,8] [0,4,3,9,7] [])) (.d [0,1,2,4,5,6,9,3,7,8] [0,4,9,3,7] [])) (.x [0,1,2,5,6,9,4,3,7,8] [0,9,4,3,7] [(4,5)] 5))) (.e 4 3 (.x [1,2,5,6,9,0,3,4,7,8] [9,0,3,4,7] [(3,5),(3,4)] 5) (.x [1,2,5,6,9,0,4,3,7,8] [9,0,4,3,7] [(3,5),(3,4)] 5))) (.e 9 4 (.e 9 0 (.e 9 3 (.e 9 7 (.d [1,2,4,0,3,5,6,7,8,9] [4,0,3,7,9] [(3,4)]) (.d [1,2,4,0,3,5,6,9,7,8] [4,0,3,9,7] [(3,4)])) (.d [1,2,4,0,5,6,9,3,7,8] [4,0,9,3,7] [(3,4)])) (.x [1,2,4,5,6,9,0,3,7,8] [4,9,0,3,7] [(3,4),(3,5)] 5)) (.x [1,2,5,6,9,4,0,3,7,8] [9,4,0,3,7] [(3,5)] 5))))<|.z (.toFar 5)<|.bc 1 Zj<|.a<|.a<|.i (.b λl t=>.c λu=>.d0 [(1,.q),(3,.ca Zj t),(6,.app Ze (λ_=>kR) u),(8,.m)] 7 [] [3,6] []<|.z (.share 3)<|.z (.share 4)<|.r [(0,.wkP (Za1 (Zp.mk ((([]:Ya)++f.Links)++[ZI (l.1-(1:Int))]) (([]:Ya)++f.Devices))) [.of Ze ((([]:Ya)++f.Links)++[ZI (l.1-(1:Int))]),.of Ze (([]:Ya)++f.Devices)] .q)]<|.e 1 [])
 (.a<|.i (.b λn v=>.c λw=>.d0 [(1,.q),(3,.ca Zj v),(6,.app Ze (λ_=>kR) w),(8,.m)] 7 [] [3,6] []<|.z (.share 3)<|.z (.share 4)<|.r [(0,.wkP (Za1 (Zp.mk (([]:Ya)++f.Links) ((([]:Ya)++f.Devices)++[ZI (n.1-(1:Int))]))) [.of Ze (([]:Ya)++f.Links),.of Ze ((([]:Ya)++f.Devices)++[ZI (n.1-(1:Int))])] .q)]<|.e 1 [])
 (.a<|.i (.c λy=>.r [(0,.m),(2,.q),(3,.app Ze (λ_=>kR) y),(5,.m)]<|.z (.share 6)<|.z (.share 4)<|.r [(0,.wkP (Za1 (Zp.mk ([(99:Int)]++(([]:Ya)++f.Links)) (([]:Ya)++f.Devices))) [.of Ze ([(99:Int)]++(([]:Ya)++f.Links)),.of Ze (([]:Ya)++f.Devices)] .q)]<|.e 1 [])
 (.c λa0=>.r [(0,.m),(2,.q),(3,.app Ze (λ_=>kR) a0),(5,.m)]<|.z (.share 3)<|.z (.share 6)<|.r [(0,.wkP (Za1 (Zp.mk (([]:Ya)++f.Links) ([(0:Int)]++(([]:Ya)++f.Devices)))) [.of Ze (([]:Ya)++f.Links),.of Ze ([(0:Int)]++(([]:Ya)++f.Devices))] .q)]<|.e 1 [])))
def Zvp {e4:Zc} {d:Z0}:KF prog glob 6 f6 [.ptr 0 0,Zbt d] [.cells (Zf e4)] (Zjq e4 d) (λr=>Zbt r.1) (λr=>[.cells (Zf r.2)]):=Wv func6<|.a<|.z (.toFar 1)<|.bc 1 Zj<|.a<|.a<|.i (.b λg3 g4=>.r [(2,.q),(3,.ca Zvf g4),(5,.m)]<|.r [(0,.wkP (Zbj (Z0.mk g3.1 d.Failure d.Configs d.Routes d.Labels)) [] .q)]<|.e 1 [])
 (.a<|.i (.b λg5 g6=>.r [(2,.q),(3,.ca Zvo g6),(5,.m)]<|.r [(0,.wkP (Zbj (Z0.mk d.Topology g5.1 d.Configs d.Routes d.Labels)) [] .q)]<|.e 1 [])
 (.a<|.i (.b λa2 g7=>.c λg8=>.r [(1,.q),(2,.callC func21 [] We8 (closedH.t (Ztp (λz_=>Wbb (Zbq (row:=Zy) (λ_=>rfl) _) Wbc)) We8) ((Zjt).run _ g7)),(3,.m),(4,.litFb),(5,.post (.post (.appT Zq a2 [Zo.mk ([]:Yo)] [.pv (nils)] g8) (.nilA 3 Zq a2 [.pv (nils)] 0 87 6 rfl)) (.eqC 3 (ca:=cellsO Zq a2++[owB 87 6 Zy ([]:Yo)]) (cb:=cellsO Zq (a2++[Zo.mk ([]:Yo)])) (Zaaj (m:=[Zo.mk ([]:Yo)])))),(7,.m)]<|.z (.gst (.toBuf 3 Zq Z7 (λ_=>rfl) (λz_=>FZs.c (FZ.owB (row:=Zy) (s:=6) (λ_=>rfl) (λ_=>rfl) _) FZs.n) (a2++[Zo.mk ([]:Yo)])))<|.z (.share 3)<|.z (.wkc 1 (Zbj (Z0.mk d.Topology d.Failure (a2++[Zo.mk ([]:Yo)]) d.Routes d.Labels)) [.of Z7 (a2++[Zo.mk ([]:Yo)])])<|.a<|.e 1 [])
 (.a<|.i (.b λg9 h0=>.r [(1,.q),(2,.callC func21 [] We8 (closedH.t (Ztp (λz_=>Wbb (Zbq (row:=Zy) (λ_=>rfl) _) Wbc)) We8) ((Zjt).run _ h0)),(4,.m)]<|.a<|.z (.kpt [0,3,4,5] 4 [(3,.of Zq g9 (λz_=>Wbb (Zbq (row:=Zy) (λ_=>rfl) _) Wbc))])<|.p7 [0,3,4,5] 4 (λe5 a9 c4 e6 e7 a3 a0=>[.c 0 (Zf e5),.k 1 (.far [.sl 5 (List.map Zh a9.Devices),.sl 3 (List.map Zx a9.Links),.sl 6 (List.map Zk a9.Edges),.sl 2 (List.map Zu a9.Pools),.sc (.int .i64 a9.Tolerate),.sl 1 (List.map Ze c4.Links),.sl 1 (List.map Ze c4.Devices),.own 3 (a3.length),.sl 1 (List.map Z6 e6),.sl 1 (List.map Zan e7)]),.k 3 (.tr 71 1 (a3.length) (cellsO Zq a3)),.s 5 (i64 a0)]) (λ(e8,a4,b9,c5,c6,a5)=>.n [3,4] 4 [.c 0 (Zf e8),.k 1 (.far [.sl 5 (List.map Zh a4.Devices),.sl 3 (List.map Zx a4.Links),.sl 6 (List.map Zk a4.Edges),.sl 2 (List.map Zu a4.Pools),.sc (.int .i64 a4.Tolerate),.sl 1 (List.map Ze b9.Links),.sl 1 (List.map Ze b9.Devices),.own 3 (a5.length),.sl 1 (List.map Z6 c5),.sl 1 (List.map Zan c6)]),.k 3 (.tr 71 1 (a5.length) (cellsO Zq a5))])
 (λi4 e5 a9 c4 e6 e7 a3 a0=>.r [(2,.q),(3,.lenT a3)]<|.i (.a<|.w (.kpt [0,3,4,5,6] 4 [(3,.of Zq a3 (λz_=>Wbb (Zbq (row:=Zy) (λ_=>rfl) _) Wbc))])<|.p7 [0,3,4,5,6] 4 (λe9 f a1 b3 b4 j o=>[.c 0 (Zf e9),.k 1 (.far [.sl 5 (List.map Zh f.Devices),.sl 3 (List.map Zx f.Links),.sl 6 (List.map Zk f.Edges),.sl 2 (List.map Zu f.Pools),.sc (.int .i64 f.Tolerate),.sl 1 (List.map Ze a1.Links),.sl 1 (List.map Ze a1.Devices),.own 3 (j.length),.sl 1 (List.map Z6 b3),.sl 1 (List.map Zan b4)]),.k 3 (.tr 71 1 (j.length) (cellsO Zq j)),.s 6 (i64 o)]) (λ(c7,a6,c0,c8,c9,b0)=>.n [0,3,4,5] 4 [.c 0 (Zf c7),.k 1 (.far [.sl 5 (List.map Zh a6.Devices),.sl 3 (List.map Zx a6.Links),.sl 6 (List.map Zk a6.Edges),.sl 2 (List.map Zu a6.Pools),.sc (.int .i64 a6.Tolerate),.sl 1 (List.map Ze c0.Links),.sl 1 (List.map Ze c0.Devices),.own 3 (b0.length),.sl 1 (List.map Z6 c8),.sl 1 (List.map Zan c9)]),.k 3 (.tr 71 1 (b0.length) (cellsO Zq b0))])
 (λi5 e9 f a1 b3 b4 j o=>.b λi6 f0=>.r [(2,.q),(4,.idxT f0),(5,.fdT),(6,.ldT Zq (λ_=>rfl) f0),(7,.lenL)]<|.i (.b λg c1=>.w (.gst (.takeB 3 Zq (λ_=>rfl) c1 (off:=0) dC Zy (λ_=>rfl) (λ_=>rfl) g.Ports 87 rfl))<|.b λv h1=>.b λx h2=>.b λp h3=>.b λy f1=>.d0 [(1,.q),(3,.idxT c1),(4,.fdT),(5,.ldH Zq (λ_=>rfl) c1 (.own 4 (g.Ports.length))),(7,.ca Zsr h1),(9,.ca Zin h2),(11,.ca Zj h3),(17,.idx Zy f1),(18,.fdE Zy g.Ports o),(19,.stE Zy f1 ({y with Hides:=[Zab.mk v x.1 (Za.mk (8:Int) (wrap .u32 ((8:Int)+(wrap .u32 p.1))))]}:Zw))] 17 [] [9,11] []<|.w (.pick [0,3,4,5,6])<|.w (.re (S:=[(0,.ptr 0 0),(3,.ptr 1 0),(4,.ptr 2 0),(5,i64 a0),(6,i64 o)]) (K:=[.cells (Zf p.2),.far [.sl 5 (List.map Zh f.Devices),.sl 3 (List.map Zx f.Links),.sl 6 (List.map Zk f.Edges),.sl 2 (List.map Zu f.Pools),.sc (.int .i64 f.Tolerate),.sl 1 (List.map Ze a1.Links),.sl 1 (List.map Ze a1.Devices),.own 3 (j.length),.sl 1 (List.map Z6 b3),.sl 1 (List.map Zan b4)],.cells (Zbj Z1t),.tr 71 1 (j.length) (List.set (cellsO Zq j) (Int.toNat a0*1+0) (.pv (.own 4 (g.Ports.length)))),bf 6 87 Zy (List.set g.Ports (Int.toNat o) ({y with Hides:=[Zab.mk v x.1 (Za.mk (8:Int) (wrap .u32 ((8:Int)+(wrap .u32 p.1))))]}:Zw)) false]) (K':=[.cells (Zf p.2),.far [.sl 5 (List.map Zh f.Devices),.sl 3 (List.map Zx f.Links),.sl 6 (List.map Zk f.Edges),.sl 2 (List.map Zu f.Pools),.sc (.int .i64 f.Tolerate),.sl 1 (List.map Ze a1.Links),.sl 1 (List.map Ze a1.Devices),.own 3 (j.length),.sl 1 (List.map Z6 b3),.sl 1 (List.map Zan b4)],.cells (Zbj Z1t),.tr 71 1 (j.length) (List.set (cellsO Zq j) (Int.toNat a0*1+0) (.pv (.own 4 (List.length (List.set g.Ports (Int.toNat o) ({y with Hides:=[Zab.mk v x.1 (Za.mk (8:Int) (wrap .u32 ((8:Int)+(wrap .u32 p.1))))]}:Zw)))))),bf 6 87 Zy (List.set g.Ports (Int.toNat o) ({y with Hides:=[Zab.mk v x.1 (Za.mk (8:Int) (wrap .u32 ((8:Int)+(wrap .u32 p.1))))]}:Zw)) false]) rfl (by simp only[Wa6]))<|.a<|.w (.gst (.giveB 3 4 Zq (λ_=>rfl) c1 (off:=0) dC Zy 6 (List.set g.Ports (Int.toNat o) ({y with Hides:=[Zab.mk v x.1 (Za.mk (8:Int) (wrap .u32 ((8:Int)+(wrap .u32 p.1))))]}:Zw)) 87 (List.length (List.set g.Ports (Int.toNat o) ({y with Hides:=[Zab.mk v x.1 (Za.mk (8:Int) (wrap .u32 ((8:Int)+(wrap .u32 p.1))))]}:Zw))) rfl ({g with Ports:=(List.set g.Ports (Int.toNat o) ({y with Hides:=[Zab.mk v x.1 (Za.mk (8:Int) (wrap .u32 ((8:Int)+(wrap .u32 p.1))))]}:Zw))}:Zo) rfl))<|.w (.pick [0,3,4,5,6])<|.w (.ln 3 (lset j (Int.toNat a0) ({g with Ports:=(List.set g.Ports (Int.toNat o) ({y with Hides:=[Zab.mk v x.1 (Za.mk (8:Int) (wrap .u32 ((8:Int)+(wrap .u32 p.1))))]}:Zw))}:Zo)))<|.w (.kpt [0,3,4,5,6] 4 [(3,.of Zq (List.set j (Int.toNat a0) ({g with Ports:=(List.set g.Ports (Int.toNat o) ({y with Hides:=[Zab.mk v x.1 (Za.mk (8:Int) (wrap .u32 ((8:Int)+(wrap .u32 p.1))))]}:Zw))}:Zo)) (λz_=>Wbb (Zbq (row:=Zy) (λ_=>rfl) _) Wbc))])<|.xo (p.2,f,a1,b3,b4,List.set j (Int.toNat a0) ({g with Ports:=(List.set g.Ports (Int.toNat o) ({y with Hides:=[Zab.mk v x.1 (Za.mk (8:Int) (wrap .u32 ((8:Int)+(wrap .u32 p.1))))]}:Zw))}:Zo),ZI (o+(1:Int))))
 (.w (.kpt [0,3,4,5] 4 [(3,.of Zq j (λz_=>Wbb (Zbq (row:=Zy) (λ_=>rfl) _) Wbc))])<|.u0)) (λ(c7,a6,c0,c8,c9,b0)=>.n<|.a<|.w (.kpt [0,3,4,5] 4 [(3,.of Zq b0 (λz_=>Wbb (Zbq (row:=Zy) (λ_=>rfl) _) Wbc))])<|.xo (c7,a6,c0,c8,c9,b0,ZI (a0+(1:Int)))))
 (.w (.kpt [3,4] 4 [(3,.of Zq a3 (λz_=>Wbb (Zbq (row:=Zy) (λ_=>rfl) _) Wbc))])<|.u0)) (λ(e8,a4,b9,c5,c6,a5)=>.n<|.z (.gst (.toBuf 3 Zq Z7 (λ_=>rfl) (λz_=>FZs.c (FZ.owB (row:=Zy) (s:=6) (λ_=>rfl) (λ_=>rfl) _) FZs.n) a5))<|.z (.share 3)<|.z (.wkc 1 (Zbj (Z0.mk a4 b9 a5 c5 c6)) [.of Z7 a5])<|.a<|.e 1 []))
 (.a<|.i (.c λh4=>.r [(0,.m),(2,.q),(3,.app Z6 (λ_=>kR) h4),(5,.m)]<|.a<|.p7 [0,3,4,7] 4 (λf2 b1 d1 f3 f4 b5 d2=>[.l 3 Z6 b5,.c 0 (Zf f2),.k 1 (.far [.sl 5 (List.map Zh b1.Devices),.sl 3 (List.map Zx b1.Links),.sl 6 (List.map Zk b1.Edges),.sl 2 (List.map Zu b1.Pools),.sc (.int .i64 b1.Tolerate),.sl 1 (List.map Ze d1.Links),.sl 1 (List.map Ze d1.Devices),.sl 1 (List.map Z7 f3),.own 3 (b5.length),.sl 1 (List.map Zan f4)]),.s 7 (i64 d2)]) (λ(f5,a7,c2,d3,d4,b6)=>.n [3,4] 4 [.l 3 Z6 b6,.c 0 (Zf f5),.k 1 (.far [.sl 5 (List.map Zh a7.Devices),.sl 3 (List.map Zx a7.Links),.sl 6 (List.map Zk a7.Edges),.sl 2 (List.map Zu a7.Pools),.sc (.int .i64 a7.Tolerate),.sl 1 (List.map Ze c2.Links),.sl 1 (List.map Ze c2.Devices),.sl 1 (List.map Z7 d3),.own 3 (b6.length),.sl 1 (List.map Zan d4)])])
 (λi7 f2 b1 d1 f3 f4 b5 d2=>.r [(2,.q),(3,.len Z6 b5)]<|.i (.b λd5 f7=>.c λh5=>.b λd6 h6=>.b λd7 h7=>.b λd8 h8=>.c λh9=>.b λi8 f8=>.d0 [(1,.q),(3,.m),(5,.q),(7,.idx Z6 f7),(8,.ldE Z6 f7),(9,.app Zz (λ_=>kR) h5),(11,.ca Zpy h6),(13,.ca Zj h7),(16,.ca Zj h8),(20,.app Zz (λ_=>kR) h9),(21,.idx Z6 f8),(22,.rd (.pre (.share 4) (.wkO 4 Zz ((([]:Yd)++d5)++[Zi.mk d6.1 (d7.1==(0:Int)) (ZI (d8.1-(1:Int)))]) (.stE Z6 f8 ((([]:Yd)++d5)++[Zi.mk d6.1 (d7.1==(0:Int)) (ZI (d8.1-(1:Int)))])))))] 21 [] [3,9,11,13,16,20] []<|.w (.pick [0,3,4,7])<|.w (.ln 3 (lset b5 (Int.toNat d2) ((([]:Yd)++d5)++[Zi.mk d6.1 (d7.1==(0:Int)) (ZI (d8.1-(1:Int)))])))<|.a<|.x7)
 (.u)) (λ(f5,a7,c2,d3,d4,b6)=>.n<|.z (.share 3)<|.r [(0,.wkP (Zbj (Z0.mk a7 c2 d3 b6 d4)) [.of Z6 b6] .q)]<|.e 1 []))
 (.a<|.i (.c λi0=>.r [(0,.m),(2,.q),(3,.app Zan (λ_=>kR) i0),(5,.m)]<|.a<|.p6 [3,4,8] 4 (λb2 d9 f9 g0 b7 e0=>[.l 3 Zan b7,.k 1 (.far [.sl 5 (List.map Zh b2.Devices),.sl 3 (List.map Zx b2.Links),.sl 6 (List.map Zk b2.Edges),.sl 2 (List.map Zu b2.Pools),.sc (.int .i64 b2.Tolerate),.sl 1 (List.map Ze d9.Links),.sl 1 (List.map Ze d9.Devices),.sl 1 (List.map Z7 f9),.sl 1 (List.map Z6 g0),.own 3 (b7.length)]),.s 8 (i64 e0)]) (λ(a8,c3,e1,e2,b8)=>.n [3,4] 4 [.l 3 Zan b8,.k 1 (.far [.sl 5 (List.map Zh a8.Devices),.sl 3 (List.map Zx a8.Links),.sl 6 (List.map Zk a8.Edges),.sl 2 (List.map Zu a8.Pools),.sc (.int .i64 a8.Tolerate),.sl 1 (List.map Ze c3.Links),.sl 1 (List.map Ze c3.Devices),.sl 1 (List.map Z7 e1),.sl 1 (List.map Z6 e2),.own 3 (b8.length)])])
 (λi9 b2 d9 f9 g0 b7 e0=>.r [(2,.q),(3,.len Zan b7)]<|.i (.b λe3 g1=>.c λi1=>.c λi2=>.b λj0 g2=>.d0 [(1,.q),(3,.m),(5,.q),(7,.idx Zan g1),(8,.ldE Zan g1),(9,.app Ze (λ_=>kR) i1),(11,.app Ze (λ_=>kR) i2),(12,.idx Zan g2),(13,.rd (.pre (.share 4) (.wkO 4 Ze ((([]:Ya)++e3)++[(-1:Int)]) (.stE Zan g2 ((([]:Ya)++e3)++[(-1:Int)])))))] 12 [] [3,9,11] []<|.w (.pick [3,4,8])<|.w (.ln 3 (lset b7 (Int.toNat e0) ((([]:Ya)++e3)++[(-1:Int)])))<|.a<|.x6)
 (.u)) (λ(a8,c3,e1,e2,b8)=>.n<|.z (.share 3)<|.r [(0,.wkP (Zbj (Z0.mk a8 c3 e1 e2 b8)) [.of Zan b8] .q)]<|.e 1 []))
 (.r [(1,.q),(2,.len Zan d.Labels)]<|.i (.c λi3=>.r [(1,.q),(2,.slice Zan d.Labels i3),(4,.m)]<|.r [(0,.wkP (Zbj (Z0.mk d.Topology d.Failure d.Configs d.Routes (List.drop (Int.toNat (1:Int)) (List.take (Int.toNat (d.Labels.length:Int)) d.Labels)))) [] .q)]<|.e 1 [])
 (.r [(0,.wkP (Zbj (Z0.mk d.Topology d.Failure d.Configs d.Routes d.Labels)) [] .q)]<|.e 1 [])))))))
def Z34 (r:Bool):Exit→St→List Blk→Prop:=FnQ prog f124.results 0 λp K=>p=(vb r)∧K=[]
def Zcb {c:ByteArray}:KF prog glob 124 f124 [vstr c] [] (Zb1 c) (λr=>vb r) (λ_=>[]):=Wv func124<|.a<|.v<|.v<|.v<|.ge λx7 f=>.gw<|.v<|.ge λt g=>.gw<|.rc [] [(13,.str f),(18,.str g)] []<|.i (.a<|.e 0 [])
 (.a<|.p1 [0,3] 0 (λd=>[.s 3 (i64 d)]) (Sum.elim (λ_=>.n [] 0 []) (λr=>.q (Z34 r)))
 (λw d=>.a<|.i (.b λx j=>.v<|.gt λy k=>.gw<|.rc [(2,.str j)] [(7,.str k)] []<|.b λz l=>.v<|.gt λa0 m=>.gw<|.rc [(2,.str l)] [(7,.str m)] []<|.v<|.v<|.gt λa1 o=>.gw<|.v<|.gt λa2 p=>.gw<|.rc [] [(9,.str o),(15,.str p)] []<|.i (.a<|.s 0 [] rfl)
 (.a<|.x1))
 (.u)) (fun
 |.inl ()=>(.n<|.a<|.e 0 [])
 |.inr a3=>.r λ_ _ h=>h))
def Zy8 {k:Z5}:KF prog glob 193 f193 [Z1p k] [] (Zh9 k) (λr=>vb r) (λ_=>[]):=Wv func193<|.a<|.b λw c=>.l λn d=>.l λo f=>.l λp g=>.b λq i=>.to [] [.s 2 (vb q)] (by
 cases n
 ·subst f
  subst g;cases i;exact .r [(2,.ca Zcb c),(3,.bool d)]
 cases o
 ·subst g
  cases i;exact .r [(2,.ca Zcb c),(3,.bool d),(8,.bool f)]
 cases p
 ·cases i
  exact .r [(2,.ca Zcb c),(3,.bool d),(8,.bool f),(13,.bool g)]
 obtain⟨t,j,u⟩:=bindb (ifT i rfl)
 replace j:=someb j
 obtain⟨x,m,⟨⟩⟩:=bindb u;cases t
 ·obtain⟨y,v,⟨⟩⟩:=bindb (ifF m rfl)
  exact .r [(2,.ca Zcb c),(3,.bool d),(8,.bool f),(13,.bool g),(17,.bool j),(20,.ca Zcb v)]
 cases m
 exact .r [(2,.ca Zcb c),(3,.bool d),(8,.bool f),(13,.bool g),(17,.bool j)])<|.e 0 []
def Z2p {c:Z5} {b:ByteArray}:KF prog glob 268 f268 [Z1p c,.ptr 0 0] [.cells (Zaj b)] (Zuh c b) (λr=>vb r) (λ_=>[.cells (Zaj b)]):=Wv func268<|.a<|.a<|.e 1 []
def Zju (a:ByteArray) (r:Int):Exit→St→List Blk→Prop:=FnQ prog f267.results 1 λp K=>p=(i64 r)∧K=[.cells (Zaj a)]
def Zjv {d:Yr} {c:ByteArray}:KF prog glob 267 f267 [slc 5 Zh d,.fn 268 [.ptr 0 0]] [.cells (Zaj c)] (Zdq d c) (λr=>i64 r) (λ_=>[.cells (Zaj c)]):=Wv func267<|.a<|.r [(1,.len Zh d)]<|.p1 [0,1,7,8] 1 (λf=>[.s 8 (i64 f)]) (Sum.elim (λ_=>.n [] 1 []) (λr=>.q (Zju c r)))
 (λj f=>.a<|.i (.a<|.bi 3 Zh<|.b λk g=>.r [(5,.callF func268 [] ((Z2p).run _ g))]<|.i (.a<|.s 1 [] rfl)
 (.a<|.x1))
 (.u)) (fun
 |.inl ()=>(.n<|.a<|.e 1 [])
 |.inr l=>.r λ_ _ h=>h)
def Z5c {b:Zb} {c:ByteArray}:KF prog glob 194 f194 [Zv b,vstr c] [] (Zr6 b c) (λr=>i64 r) (λ_=>[]):=Wv func194<|.a<|.bc 3 Zjv<|.r [(2,.q)]<|.e 0 []
def Zvq {b:Int}:KF prog glob 271 f271 [i64 b] [] (Zm1 b) (λr=>u32 r) (λ_=>[]):=Wv func271<|.a<|.c λd=>.r [(3,.sh d)]<|.e 0 []
def Zdv {i:Zl}:KF prog glob 198 f198 [Za4 i] [] (Zer i) (λr=>vb r) (λ_=>[]):=Wv func198<|.a<|.l λj c=>.l λk f=>.b λm g=>.to [] [.s 2 (vb m)] (by
 cases j
 ·subst f
  cases g;exact .d [(3,.bool c)] 17
 cases k
 ·cases g
  exact .d [(3,.bool c),(8,.bool f)] 17
 obtain⟨o,n,⟨⟩⟩:=bindb (ifT g rfl)
 exact .d [(3,.bool c),(8,.bool f),(13,.ca Zvq n)] 17)<|.e 0 []
def Z05 {b:Zb} {c:Z1}:KF prog glob 195 f195 [Zv b,Zn0 c] [] (Zkp b c) (λr=>vb r) (λ_=>[]):=Wv func195<|.a<|.v<|.rc [(8,.len Zh b.Devices)] [] []<|.bc 2 Zcb<|.v<|.gt λi d=>.gw<|.rc [] [(6,.ca Zcb d)] []<|.v<|.v<|.gt λj f=>.gw<|.v<|.v<|.gl λk g=>.gw<|.rc [(19,.bool g)] [(7,.ca Zdv f)] []<|.e 0 []
def Z5d {c:Z1} {b:ByteArray}:KF prog glob 269 f269 [Zn0 c,.ptr 0 0] [.cells (Zaj b)] (Zvy c b) (λr=>vb r) (λ_=>[.cells (Zaj b)]):=Wv func269<|.a<|.a<|.e 1 []
def Zmv (a:ByteArray) (r:Int):Exit→St→List Blk→Prop:=FnQ prog f263.results 1 λp K=>p=(i64 r)∧K=[.cells (Zaj a)]
def Zmw {d:Yk} {c:ByteArray}:KF prog glob 263 f263 [slc 6 Zk d,.fn 269 [.ptr 0 0]] [.cells (Zaj c)] (Zeu d c) (λr=>i64 r) (λ_=>[.cells (Zaj c)]):=Wv func263<|.a<|.r [(1,.len Zk d)]<|.p1 [0,1,7,8] 1 (λf=>[.s 8 (i64 f)]) (Sum.elim (λ_=>.n [] 1 []) (λr=>.q (Zmv c r)))
 (λj f=>.a<|.i (.a<|.bi 3 Zk<|.b λk g=>.r [(5,.callF func269 [] ((Z5d).run _ g))]<|.i (.a<|.s 1 [] rfl)
 (.a<|.x1))
 (.u)) (fun
 |.inl ()=>(.n<|.a<|.e 1 [])
 |.inr l=>.r λ_ _ h=>h)
def Z75 {b:Zb} {c:ByteArray}:KF prog glob 196 f196 [Zv b,vstr c] [] (Ztx b c) (λr=>i64 r) (λ_=>[]):=Wv func196<|.a<|.bc 3 Zmw<|.r [(2,.q)]<|.e 0 []
def Zv4 {c:Zl} {f:Int}:KF prog glob 212 f212 [Za4 c,u32 f] [] (Zj1 c f) (λr=>vb r) (λ_=>[]):=Wv func212<|.a<|.b λo g=>.l λk i=>.b λm j=>.to [] [.s 4 (vb m)] (by
 cases k
 ·cases j
  exact .d [(1,.ca Zdv g),(2,.bool i)] 12
 obtain⟨p,n,⟨⟩⟩:=bindb (ifT j rfl)
 exact .d [(1,.ca Zdv g),(2,.bool i),(6,.ca Zvq n)] 12)<|.e 0 []
def Zyl {b:Zl} {c:Zl}:KF prog glob 270 f270 [Za4 b,Za4 c] [] (Znq b c) (λr=>vb r) (λ_=>[]):=Wv func270<|.a<|.bc 1 Zdv<|.v<|.v<|.gt λf d=>.gw<|.rc [] [(13,.ca Zv4 d)] []<|.e 0 []
def Zvg {b:Zl} {c:Zl}:KF prog glob 197 f197 [Za4 b,Za4 c] [] (Zik b c) (λr=>vb r) (λ_=>[]):=Wv func197<|.a<|.bc 2 Zyl<|.v<|.ge λf d=>.gw<|.rc [] [(6,.ca Zyl d)] []<|.e 0 []
def Z35 {c:Zl} {b:Zl}:KF prog glob 200 f200 [Za4 c,.ptr 0 0] [.cells (Zu b)] (Zrb c b) (λr=>vb r) (λ_=>[.cells (Zu b)]):=Wv func200<|.a<|.bc 2 Zvg<|.a<|.e 1 []
def Zj4 (a:Zl) (r:Int):Exit→St→List Blk→Prop:=FnQ prog f272.results 1 λp K=>p=(i64 r)∧K=[.cells (Zu a)]
def Zj5 {d:Yl} {c:Zl}:KF prog glob 272 f272 [slc 2 Zu d,.fn 200 [.ptr 0 0]] [.cells (Zu c)] (Zdx d c) (λr=>i64 r) (λ_=>[.cells (Zu c)]):=Wv func272<|.a<|.r [(1,.len Zu d)]<|.p1 [0,1,7,8] 1 (λf=>[.s 8 (i64 f)]) (Sum.elim (λ_=>.n [] 1 []) (λr=>.q (Zj4 c r)))
 (λj f=>.a<|.i (.a<|.bi 3 Zu<|.b λk g=>.r [(5,.callF func200 [] ((Z35).run _ g))]<|.i (.a<|.s 1 [] rfl)
 (.a<|.x1))
 (.u)) (fun
 |.inl ()=>(.n<|.a<|.e 1 [])
 |.inr l=>.r λ_ _ h=>h)
def Zip {c:Yl} {b:Zl}:KF prog glob 199 f199 [slc 2 Zu c,.fn 200 [.ptr 0 0]] [.cells (Zu b)] (Zb2 c b) (λr=>vb r) (λ_=>[.cells (Zu b)]):=Wv func199<|.a<|.bc 2 Zj5<|.a<|.e 1 []
def Zln (r:Bool):Exit→St→List Blk→Prop:=FnQ prog f115.results 0 λp K=>p=(vb r)∧K=[]
def Zs6 {d:Zb}:KF prog glob 115 f115 [Zv d] [] (Zlg d) (λr=>vb r) (λ_=>[]):=Wv func115<|.a<|.v<|.v<|.v<|.v<|.v<|.v<|.rc [(2,.len Zh d.Devices),(7,.len Zh d.Devices),(13,.len Zx d.Links),(19,.len Zk d.Edges),(25,.len Zu d.Pools)] [] []<|.i (.a<|.e 0 [])
 (.r [(2,.len Zh d.Devices)]<|.p1 [1,52,53,54] 1 (λg=>[.s 54 (i64 g)]) (Sum.elim (λ_=>.n [1] 1 []) (λr=>.q (Zln r)))
 (λa5 g=>.a<|.i (.bi 1 Zh<|.a<|.bc 1 Zy8<|.v<|.ge λa6 w=>.gw<|.rc [] [(7,.ca Z5c w)] []<|.i (.a<|.s 0 [] rfl)
 (.a<|.x1))
 (.u)) (fun
 |.inl ()=>(.n<|.r [(2,.len Zx d.Links)]<|.p1 [1,72,73,74] 1 (λj=>[.s 74 (i64 j)]) (Sum.elim (λ_=>.n [1] 1 []) (λr=>.q (Zln r)))
 (λa7 j=>.a<|.i (.bi 0 Zx<|.a<|.v<|.v<|.v<|.v<|.rc [(15,.len Zh d.Devices)] [] []<|.i (.a<|.s 0 [] rfl)
 (.a<|.x1))
 (.u)) (fun
 |.inl ()=>(.n<|.r [(2,.len Zk d.Edges)]<|.p1 [1,108,109,110] 1 (λf=>[.s 110 (i64 f)]) (Sum.elim (λ_=>.n [1] 1 []) (λr=>.q (Zln r)))
 (λa8 f=>.a<|.i (.bi 1 Zk<|.a<|.bc 2 Z05<|.v<|.ge λa9 x=>.gw<|.rc [] [(8,.ca Z75 x)] []<|.i (.a<|.s 0 [] rfl)
 (.c λy=>.r [(3,.slice Zk d.Edges y),(4,.len Zk (List.drop (Int.toNat (0:Int)) (List.take (Int.toNat f) d.Edges)))]<|.p1 [1,8,108,109,110,130,131,132] 2 (λk=>[.s 132 (i64 k)]) (Sum.elim (λ_=>.n [1,108,109,110] 2 []) (λr=>.q (Zln r)))
 (λb0 k=>.a<|.i (.bi 0 Zk<|.a<|.v<|.v<|.gt λb1 z=>.gw<|.rc [] [(13,.ca Zvg z)] []<|.i (.a<|.s 0 [] rfl)
 (.a<|.x1))
 (.u)) (fun
 |.inl ()=>(.n<|.a<|.x1)
 |.inr b2=>.r λ_ _ h=>Wbu ⟨rfl,h⟩)))
 (.u)) (fun
 |.inl ()=>(.n<|.r [(2,.len Zu d.Pools)]<|.p1 [1,154,155,156] 1 (λm=>[.s 156 (i64 m)]) (Sum.elim (λ_=>.n [] 1 []) (λr=>.q (Zln r)))
 (λb3 m=>.a<|.i (.bi 1 Zu<|.a<|.b λb4 o=>.l λa0 p=>.b λa1 t=>.to [1,154,155,156] [.s 171 (vb a1)] (by
 cases a0
 ·obtain⟨a2,a3⟩:=chkb (ifF t rfl)
  obtain⟨b5,a4,⟨⟩⟩:=bindb a3;exact .r [(1,.ca Zdv o),(3,.bool p),(7,.slice Zu d.Pools a2),(8,.q),(9,.ca Zip a4)]
 cases t
 exact .r [(1,.ca Zdv o),(3,.bool p)])<|.i (.a<|.s 0 [] rfl)
 (.a<|.x1))
 (.u)) (fun
 |.inl ()=>(.n<|.a<|.e 0 [])
 |.inr b6=>.r λ_ _ h=>h))
 |.inr b7=>.r λ_ _ h=>h))
 |.inr b8=>.r λ_ _ h=>h))
 |.inr b9=>.r λ_ _ h=>h))
def Zz1 {b:Z1}:KF prog glob 186 f186 [Zn0 b] [] (Ztk b) (λr=>vb r) (λ_=>[]):=Wv func186<|.a<|.a<|.e 0 []
def Zkx (r:Int):Exit→St→List Blk→Prop:=FnQ prog f263.results 0 λp K=>p=(i64 r)∧K=[]
def Zky {b:Yk}:KF prog glob 263 f263 [slc 6 Zk b,.sc (.func (.func 186) #[] #[])] [] (Zd7 b) (λr=>i64 r) (λ_=>[]):=Wv func263<|.a<|.r [(1,.len Zk b)]<|.p1 [0,1,7,8] 0 (λc=>[.s 8 (i64 c)]) (Sum.elim (λ_=>.n [] 0 []) (λr=>.q (Zkx r)))
 (λd c=>.a<|.i (.a<|.bi 3 Zk<|.bc 5 Zz1<|.a<|.i (.a<|.s 0 [] rfl)
 (.a<|.x1))
 (.u)) (fun
 |.inl ()=>(.n<|.a<|.e 0 [])
 |.inr f=>.r λ_ _ h=>h)
def Zis {b:Yk}:KF prog glob 185 f185 [slc 6 Zk b,.sc (.func (.func 186) #[] #[])] [] (Zdo b) (λr=>vb r) (λ_=>[]):=Wv func185<|.a<|.bc 2 Zky<|.a<|.e 0 []
def Z2q {b:Zb}:KF prog glob 111 f111 [Zv b] [] (Zmk b) (λr=>vb r) (λ_=>[]):=Wv func111<|.a<|.bc 1 Zs6<|.v<|.gt λd c=>.gw<|.rc [] [(5,.ca Zis c)] []<|.e 0 []
def Zaeb (r:Bool):Exit→St→List Blk→Prop:=FnQ prog f123.results 0 λp K=>p=(vb r)∧K=[]
def Zfe {f:ZB}:KF prog glob 123 f123 [Zbo f] [] (Zem f) (λr=>vb r) (λ_=>[]):=Wv func123<|.a<|.a<|.p1 [5,6] 1 (λg=>[.s 6 (i64 g)]) (Sum.elim (λ_=>.n [] 1 []) (λr=>.q (Zaeb r)))
 (λv g=>.a<|.i (.c λo=>.r [(1,.ixA Zn (Arr5.get f) o)]<|.l λp j=>.b λt k=>.to [5,6] [.s 22 (vb t)] (by
 cases p
 ·obtain⟨m,⟨⟩⟩:=chkb (ifF k rfl)
  exact .d [(5,.bool j),(9,.ixd m),(10,.ldA Ziv (Arr5.get Zmy) 0 1 0 m)] 13
 cases k
 exact .d [(5,.bool j)] 13)<|.i (.a<|.s 0 [] rfl)
 (.a<|.x1))
 (.u)) (fun
 |.inl ()=>(.n<|.a<|.e 0 [])
 |.inr w=>.r λ_ _ h=>h)
def Z9r (r:Bool):Exit→St→List Blk→Prop:=FnQ prog f120.results 0 λp K=>p=(vb r)∧K=[]
def Zru {b:Yn}:KF prog glob 120 f120 [slc 11 Zak b] [] (Zk4 b) (λr=>vb r) (λ_=>[]):=Wv func120<|.a<|.r [(1,.len Zak b)]<|.p1 [0,5,6,7] 0 (λc=>[.s 7 (i64 c)]) (Sum.elim (λ_=>.n [0] 0 []) (λr=>.q (Z9r r)))
 (λd c=>.a<|.i (.bi 0 Zak<|.a<|.bc 2 Zfe<|.a<|.i (.a<|.s 0 [] rfl)
 (.a<|.x1))
 (.u)) (fun
 |.inl ()=>(.n<|.r [(1,.len Zak b)]<|.e 0 [])
 |.inr f=>.r λ_ _ h=>h)
def Zaec {b:Zl}:KF prog glob 314 f314 [Za4 b] [] (Zu6 b) (λr=>.tup [Zk8 r.1,vb r.2]) (λ_=>[]):=Wv func314<|.a<|.bc 1 Zdv<|.a<|.i (.a<|.e 0 [])
 (.bc 6 Zvq<|.d [] 10<|.e 0 [])
def Zz2 {c:Z1} {b:ZB}:KF prog glob 313 f313 [Zn0 c,.ptr 0 0] [.cells (Zd b)] (Zo2 c b) (λr=>vb r) (λ_=>[.cells (Zd b)]):=Wv func313<|.a<|.bc 2 Zaec<|.a<|.v<|.rc [] [] []<|.e 1 []
def Zj6 (a:ZB) (r:Int):Exit→St→List Blk→Prop:=FnQ prog f263.results 1 λp K=>p=(i64 r)∧K=[.cells (Zd a)]
def Zj7 {d:Yk} {c:ZB}:KF prog glob 263 f263 [slc 6 Zk d,.fn 313 [.ptr 0 0]] [.cells (Zd c)] (Zdy d c) (λr=>i64 r) (λ_=>[.cells (Zd c)]):=Wv func263<|.a<|.r [(1,.len Zk d)]<|.p1 [0,1,7,8] 1 (λf=>[.s 8 (i64 f)]) (Sum.elim (λ_=>.n [] 1 []) (λr=>.q (Zj6 c r)))
 (λj f=>.a<|.i (.a<|.bi 3 Zk<|.b λk g=>.r [(5,.callF func313 [] ((Zz2).run _ g))]<|.i (.a<|.s 1 [] rfl)
 (.a<|.x1))
 (.u)) (fun
 |.inl ()=>(.n<|.a<|.e 1 [])
 |.inr l=>.r λ_ _ h=>h)
def Ziq {c:Yk} {b:ZB}:KF prog glob 185 f185 [slc 6 Zk c,.fn 313 [.ptr 0 0]] [.cells (Zd b)] (Zb3 c b) (λr=>vb r) (λ_=>[.cells (Zd b)]):=Wv func185<|.a<|.bc 2 Zj7<|.a<|.e 1 []
def Z2r {c:Zb} {b:Zaa}:KF prog glob 264 f264 [Zv c,Zsb b] [] (Zml c b) (λr=>vb r) (λ_=>[]):=Wv func264<|.a<|.to [2] [.k 2 (.cells (Zd b.From)),.k 3 (.cells (Zd b.To)),.s 5 (.ptr 2 0),.s 6 (.ptr 3 0)] (by
 exact .g [] 7 (.e 5 4 (.d [] [4,5,6] []) (.d [0,1,2,3,5,4,6] [5,4,6] [(2,3)])))<|.a<|.v<|.gm λj f=>.gw<|.rc [(9,.bool f)] [] []<|.i (.a<|.e 0 [])
 (.v<|.v<|.rc [] [] []<|.i (.a<|.e 0 [])
 (.bc 3 Ziq<|.r [(2,.q)]<|.e 0 []))
def Zym {b:ZB} {f:ZB}:KF prog glob 204 f204 [Zbo b,Zbo f] [] (Znr b f) (λr=>.tup [Zbo r.1,vb r.2]) (λ_=>[]):=Wv func204<|.a<|.bc 1 Zfe<|.v<|.ge λx t=>.gw<|.rc [] [(5,.ca Zfe t)] []<|.i (.a<|.e 0 [])
 (.a<|.a<|.p2 [2,3,4,6,17] 4 (λj g=>[.c 3 (Zd j),.s 17 (i64 g)]) (λk=>.n [4,6] 4 [.c 3 (Zd k)])
 (λy j g=>.a<|.i (.a<|.c λl=>.c λm=>.c λo=>.c λp=>.c λq=>.d [(2,.ixd l),(4,.ldA Zn (Arr5.get b) 0 2 0 l),(6,.ixd m),(8,.ldA Zn (Arr5.get f) 0 2 0 m),(11,.ixd o),(13,.ldA Zn (Arr5.get b) 0 2 1 o),(15,.ixd p),(17,.ldA Zn (Arr5.get f) 0 2 1 p),(20,.ixd q),(21,.stA (λw=>Zd (Arr5.set j w (Za.mk (iMax ((Arr5.get b g).Lo) ((Arr5.get f g).Lo)) (iMin ((Arr5.get b g).Hi) ((Arr5.get f g).Hi))))) 0 2 0 q)] 20<|.a<|.x2)
 (.u)) (λk=>.n<|.bc 1 Zfe<|.a<|.i (.a<|.e 0 [])
 (.a<|.e 0 [])))
def Z2s (r:Bool):Exit→St→List Blk→Prop:=FnQ prog f203.results 0 λp K=>p=(vb r)∧K=[]
def Z2t {b:Zaa}:KF prog glob 203 f203 [Zsb b] [] (Zmm b) (λr=>vb r) (λ_=>[]):=Wv func203<|.a<|.bc 2 Zfe<|.v<|.ge λm k=>.gw<|.rc [] [(7,.ca Zfe k)] []<|.i (.a<|.e 0 [])
 (.a<|.p1 [1,16,17] 1 (λf=>[.s 17 (i64 f)]) (Sum.elim (λ_=>.n [] 1 []) (λr=>.q (Z2s r)))
 (λo f=>.a<|.i (.c λl=>.r [(1,.ixA Zn (Arr5.get b.From) l)]<|.c λg=>.c λj=>.d [(7,.ixd g),(9,.ldA Zn (Arr5.get b.To) 10 2 1 g),(12,.ixd j),(14,.ldA Zn (Arr5.get b.To) 10 2 0 j)] 17<|.i (.a<|.s 0 [] rfl)
 (.a<|.x1))
 (.u)) (fun
 |.inl ()=>(.n<|.a<|.e 0 [])
 |.inr p=>.r λ_ _ h=>h))
def Zyn (r:Bool):Exit→St→List Blk→Prop:=FnQ prog f121.results 0 λp K=>p=(vb r)∧K=[]
def Zyo {b:Yj}:KF prog glob 121 f121 [slc 20 Zap b] [] (Zns b) (λr=>vb r) (λ_=>[]):=Wv func121<|.a<|.r [(1,.len Zap b)]<|.i (.a<|.e 0 [])
 (.r [(1,.len Zap b)]<|.p1 [0,12,13,14] 0 (λd=>[.s 14 (i64 d)]) (Sum.elim (λ_=>.n [] 0 []) (λr=>.q (Zyn r)))
 (λj d=>.a<|.i (.bi 1 Zap<|.a<|.bc 1 Z2t<|.a<|.i (.a<|.s 0 [] rfl)
 (.c λg=>.r [(2,.slice Zap b g),(3,.len Zap (List.drop (Int.toNat (0:Int)) (List.take (Int.toNat d) b)))]<|.p1 [0,4,12,13,14,24,25,26] 1 (λf=>[.s 26 (i64 f)]) (Sum.elim (λ_=>.n [0,12,13,14] 1 []) (λr=>.q (Zyn r)))
 (λk f=>.a<|.i (.bi 0 Zap<|.a<|.bc 4 Zym<|.a<|.a<|.i (.a<|.s 0 [] rfl)
 (.a<|.x1))
 (.u)) (fun
 |.inl ()=>(.n<|.a<|.x1)
 |.inr l=>.r λ_ _ h=>Wbu ⟨rfl,h⟩)))
 (.u)) (fun
 |.inl ()=>(.n<|.a<|.e 0 [])
 |.inr m=>.r λ_ _ h=>h))
def Zub (r:Bool):Exit→St→List Blk→Prop:=FnQ prog f187.results 0 λp K=>p=(vb r)∧K=[]
def Z06 {f:Zb} {b:Yj}:KF prog glob 187 f187 [Zv f,slc 20 Zap b] [] (Zpv f b) (λr=>vb r) (λ_=>[]):=Wv func187<|.a<|.r [(1,.len Zap b)]<|.p1 [1,2,11,12,13] 1 (λd=>[.s 13 (i64 d)]) (Sum.elim (λ_=>.n [1] 1 []) (λr=>.q (Zub r)))
 (λk d=>.a<|.i (.bi 1 Zap<|.a<|.bc 2 Z2r<|.a<|.i (.a<|.s 0 [] rfl)
 (.c λj=>.r [(2,.slice Zap b j),(3,.len Zap (List.drop (Int.toNat (0:Int)) (List.take (Int.toNat d) b)))]<|.p1 [1,2,6,11,12,13,24,25,26] 2 (λg=>[.s 26 (i64 g)]) (Sum.elim (λ_=>.n [1,2,11,12,13] 2 []) (λr=>.q (Zub r)))
 (λl g=>.a<|.i (.bi 0 Zap<|.a<|.bc 4 Zym<|.a<|.a<|.i (.a<|.s 0 [] rfl)
 (.a<|.x1))
 (.u)) (fun
 |.inl ()=>(.n<|.a<|.x1)
 |.inr m=>.r λ_ _ h=>Wbu ⟨rfl,h⟩)))
 (.u)) (fun
 |.inl ()=>(.n<|.bc 1 Zyo<|.a<|.e 0 [])
 |.inr o=>.r λ_ _ h=>h)
def Zaha {b:Int}:KF prog glob 276 f276 [i64 b] [] (Z3o b) (λr=>u32 r) (λ_=>[]):=Wv func276<|.a<|.v<|.rc [] [] []<|.i (.a<|.e 0 [])
 (.c λd=>.r [(1,.ixd d),(2,.ldA Ziv (Arr5.get Zmy) 0 1 0 d)]<|.e 0 [])
def Z2u {j:Zab}:KF prog glob 205 f205 [Z5s j] [] (Zp9 j) (λr=>vb r) (λ_=>[]):=Wv func205<|.a<|.b λp c=>.l λk f=>.l λm g=>.b λn i=>.to [] [.s 2 (vb n)] (by
 cases k
 ·subst g
  cases i;exact .d [(2,.ca Zfe c),(3,.bool f)] 19
 cases m
 ·cases i
  exact .d [(2,.ca Zfe c),(3,.bool f),(12,.bool g)] 19
 obtain⟨q,o,⟨⟩⟩:=bindb (ifT i rfl)
 exact .d [(2,.ca Zfe c),(3,.bool f),(12,.bool g),(16,.ca Zaha o)] 19)<|.e 0 []
def Z07 (r:Bool):Exit→St→List Blk→Prop:=FnQ prog f122.results 0 λp K=>p=(vb r)∧K=[]
def Zuc {b:Ym}:KF prog glob 122 f122 [slc 13 Zar b] [] (Zkq b) (λr=>vb r) (λ_=>[]):=Wv func122<|.a<|.r [(1,.len Zar b)]<|.p1 [0,5,6,7] 0 (λc=>[.s 7 (i64 c)]) (Sum.elim (λ_=>.n [0] 0 []) (λr=>.q (Z07 r)))
 (λd c=>.a<|.i (.bi 0 Zar<|.a<|.bc 1 Z2u<|.a<|.i (.a<|.s 0 [] rfl)
 (.a<|.x1))
 (.u)) (fun
 |.inl ()=>(.n<|.r [(1,.len Zar b)]<|.e 0 [])
 |.inr f=>.r λ_ _ h=>h)
def Z76 {c:Z1} {b:Int}:KF prog glob 265 f265 [Zn0 c,.ptr 0 0] [.cells (Ziv b)] (Zty c b) (λr=>vb r) (λ_=>[.cells (Ziv b)]):=Wv func265<|.a<|.v<|.gt λf d=>.gw<|.rc [] [(7,.ca Zv4 d)] []<|.e 1 []
def Zn3 (a:Int) (r:Int):Exit→St→List Blk→Prop:=FnQ prog f263.results 1 λp K=>p=(i64 r)∧K=[.cells (Ziv a)]
def Zn4 {d:Yk} {c:Int}:KF prog glob 263 f263 [slc 6 Zk d,.fn 265 [.ptr 0 0]] [.cells (Ziv c)] (Zfc d c) (λr=>i64 r) (λ_=>[.cells (Ziv c)]):=Wv func263<|.a<|.r [(1,.len Zk d)]<|.p1 [0,1,7,8] 1 (λf=>[.s 8 (i64 f)]) (Sum.elim (λ_=>.n [] 1 []) (λr=>.q (Zn3 c r)))
 (λj f=>.a<|.i (.a<|.bi 3 Zk<|.b λk g=>.r [(5,.callF func265 [] ((Z76).run _ g))]<|.i (.a<|.s 1 [] rfl)
 (.a<|.x1))
 (.u)) (fun
 |.inl ()=>(.n<|.a<|.e 1 [])
 |.inr l=>.r λ_ _ h=>h)
def Zabk {b:Zb} {c:Int}:KF prog glob 188 f188 [Zv b,u32 c] [] (Zvn b c) (λr=>i64 r) (λ_=>[]):=Wv func188<|.a<|.bc 3 Zn4<|.r [(2,.q)]<|.e 0 []
def Zz3 {b:Zaf}:KF prog glob 190 f190 [Zacp b] [] (Zo3 b) (λr=>vb r) (λ_=>[]):=Wv func190<|.a<|.bc 2 Zfe<|.v<|.ge λd c=>.gw<|.rc [] [(7,.ca Zcb c)] []<|.e 0 []
def Zit (r:Int):Exit→St→List Blk→Prop:=FnQ prog f266.results 0 λp K=>p=(i64 r)∧K=[]
def Ziu {b:Yi}:KF prog glob 266 f266 [slc 11 Zas b,.sc (.func (.func 190) #[] #[])] [] (Zdp b) (λr=>i64 r) (λ_=>[]):=Wv func266<|.a<|.r [(1,.len Zas b)]<|.p1 [0,1,7,8] 0 (λc=>[.s 8 (i64 c)]) (Sum.elim (λ_=>.n [] 0 []) (λr=>.q (Zit r)))
 (λd c=>.a<|.i (.a<|.bi 3 Zas<|.bc 5 Zz3<|.a<|.i (.a<|.s 0 [] rfl)
 (.a<|.x1))
 (.u)) (fun
 |.inl ()=>(.n<|.a<|.e 0 [])
 |.inr f=>.r λ_ _ h=>h)
def Zh5 {b:Yi}:KF prog glob 189 f189 [slc 11 Zas b,.sc (.func (.func 190) #[] #[])] [] (Zbz b) (λr=>vb r) (λ_=>[]):=Wv func189<|.a<|.bc 2 Ziu<|.a<|.e 0 []
def Z2v (r:Bool):Exit→St→List Blk→Prop:=FnQ prog f112.results 0 λp K=>p=(vb r)∧K=[]
def Z2w {c:Zb} {b:Zw}:KF prog glob 112 f112 [Zv c,Zsc b] [] (Zqa c b) (λr=>vb r) (λ_=>[]):=Wv func112<|.a<|.bc 2 Zru<|.v<|.ge λk f=>.gw<|.v<|.ge λl g=>.gw<|.v<|.ge λm j=>.gw<|.v<|.rc [(26,.len Zas b.Steers)] [(7,.ca Zru f),(14,.ca Z06 g),(20,.ca Zuc j)] []<|.i (.a<|.e 0 [])
 (.r [(2,.len Zar b.Hides)]<|.p1 [2,3,37,38,39] 2 (λd=>[.s 39 (i64 d)]) (Sum.elim (λ_=>.n [3] 2 []) (λr=>.q (Z2v r)))
 (λo d=>.a<|.i (.bi 0 Zar<|.a<|.bc 3 Zabk<|.a<|.i (.a<|.s 0 [] rfl)
 (.a<|.x1))
 (.u)) (fun
 |.inl ()=>(.n<|.bc 2 Zh5<|.a<|.e 0 [])
 |.inr p=>.r λ_ _ h=>h))
def Z36 {c:Z1} {b:Int}:KF prog glob 192 f192 [Zn0 c,.ptr 0 0] [.cells (Ze b)] (Zrc c b) (λr=>vb r) (λ_=>[.cells (Ze b)]):=Wv func192<|.a<|.a<|.e 1 []
def Zug {d:Zb} {f:Int}:KF prog glob 191 f191 [Zv d,.fn 192 [.ptr 0 0]] [.cells (Ze f)] (Zg8 d f) (λr=>slc 1 Ze r) (λ_=>[.cells (Ze f)]):=Wv func191<|.a<|.a<|.z (.own 5 1 3)<|.r [(2,.len Zk d.Edges)]<|.p2 [1,5,9,10,11] 3 (λj o=>[.l 2 Ze j,.s 11 (i64 o)]) (λg=>.n [5] 3 [.l 2 Ze g])
 (λv j o=>.a<|.i (.m 2 (λp=>.n [1,5,9,10,11] 3 [.l 2 Ze p]) (.bi 1 Zk<|.a<|.b λw q=>.r [(2,.callF func192 [] ((Z36).run _ q))]<|.i (.c λt=>.r [(3,.app Ze (λ_=>kR) t)]<|.k)
 (.k)) (λp=>.n<|.a<|.x2))
 (.u)) (λg=>.n<|.a<|.e 1 [.of Ze g])
def Z6x {b:Zb} {c:Int}:KF prog glob 114 f114 [Zv b,i64 c] [] (Zpw b c) (λr=>slc 1 Ze r) (λ_=>[]):=Wv func114<|.a<|.bc 2 Zug<|.r [(1,.q)]<|.e 0 []
def Zy9 (r:Bool):Exit→St→List Blk→Prop:=FnQ prog f113.results 0 λp K=>p=(vb r)∧K=[]
def Zza {b:Ya} {c:Ya}:KF prog glob 113 f113 [slc 1 Ze b,slc 1 Ze c] [] (Zia b c) (λr=>vb r) (λ_=>[]):=Wv func113<|.a<|.r [(1,.len Ze b),(3,.len Ze c)]<|.i (.a<|.e 0 [])
 (.r [(1,.len Ze b)]<|.p1 [0,1,12,13] 0 (λf=>[.s 13 (i64 f)]) (Sum.elim (λ_=>.n [] 0 []) (λr=>.q (Zy9 r)))
 (λg f=>.a<|.i (.a<|.bi 2 Ze<|.bi 6 Ze<|.d [] 9<|.i (.a<|.s 0 [] rfl)
 (.a<|.x1))
 (.u)) (fun
 |.inl ()=>(.n<|.a<|.e 0 [])
 |.inr j=>.r λ_ _ h=>h))
def Zyp (r:Bool):Exit→St→List Blk→Prop:=FnQ prog f54.results 0 λp K=>p=(vb r)∧K=[]
def Z77 {f:Zb} {d:Yh}:KF prog glob 54 f54 [Zv f,slc 1 Z7 d] [] (Zqp f d) (λr=>vb r) (λ_=>[]):=Wv func54<|.a<|.bc 1 Z2q<|.v<|.rc [(5,.len Z7 d),(8,.len Zh f.Devices)] [] []<|.i (.a<|.e 0 [])
 (.r [(1,.len Z7 d)]<|.p1 [2,21,22,23] 1 (λj=>[.s 23 (i64 j)]) (Sum.elim (λ_=>.n [] 1 []) (λr=>.q (Zyp r)))
 (λy j=>.a<|.i (.b λo p=>.r [(1,.idx Z7 p)]<|.a<|.w (.own 7 1 3)<|.r [(2,.len Zy o.Ports)]<|.p2 [2,5,7,21,22,23,29,30,31] 3 (λk m=>[.l 2 Ze k,.s 31 (i64 m)]) (Sum.elim (λg=>.n [2,5,7,21,22,23] 3 [.l 2 Ze g]) (λr=>.q (Zyp r)))
 (λz k m=>.a<|.i (.bi 0 Zy<|.a<|.c λt=>.r [(4,.app Ze (λ_=>kR) t)]<|.bc 2 Z2w<|.a<|.i (.a<|.s 0 [] rfl)
 (.a<|.x2))
 (.u)) (fun
 |.inl g=>(.n<|.w (.share 2)<|.bc 3 Z6x<|.b λa0 x=>.r [(4,.cw [.of Ze g] Zza x)]<|.i (.a<|.s 0 [] rfl)
 (.a<|.x1))
 |.inr a1=>.r λ_ _ h=>Wbu ⟨rfl,h⟩))
 (.u)) (fun
 |.inl ()=>(.n<|.a<|.e 0 [])
 |.inr a2=>.r λ_ _ h=>h))
def Z6y (r:Bool):Exit→St→List Blk→Prop:=FnQ prog f116.results 0 λp K=>p=(vb r)∧K=[]
def Zxe {g:Ya} {k:Int}:KF prog glob 116 f116 [slc 1 Ze g,i64 k] [] (Zpx g k) (λr=>vb r) (λ_=>[]):=Wv func116<|.a<|.r [(1,.len Ze g)]<|.p1 [0,1,7,8,9] 0 (λm=>[.s 9 (i64 m)]) (Sum.elim (λ_=>.n [] 0 []) (λr=>.q (Z6y r)))
 (λz m=>.a<|.i (.bi 1 Ze<|.a<|.l λp c=>.l λt d=>.b λv j=>.to [0,1,7,8,9] [.s 33 (vb v)] (by
 cases p
 ·cases t
  ·obtain⟨w,f,x⟩:=bindb (ifF j rfl)
   replace f:=someb f
   obtain⟨a0,o,⟨⟩⟩:=bindb x;cases w
   ·cases o
    exact .r [(2,.bool c),(7,.bool d),(10,.bool f)]
   obtain⟨a1,y,⟨⟩⟩:=bindb (ifT o rfl);exact .r [(2,.bool c),(7,.bool d),(10,.bool f),(15,.idx Ze y)]
  cases j;exact .r [(2,.bool c),(7,.bool d)]
 subst d;cases j
 exact .r [(2,.bool c)])<|.i (.a<|.s 0 [] rfl)
 (.a<|.x1))
 (.u)) (fun
 |.inl ()=>(.n<|.a<|.e 0 [])
 |.inr a2=>.r λ_ _ h=>h)
def Z78 {b:Zb} {c:Zp}:KF prog glob 55 f55 [Zv b,Zbd c] [] (Ztz b c) (λr=>vb r) (λ_=>[]):=Wv func55<|.a<|.bc 1 Zs6<|.v<|.gt λg d=>.gw<|.v<|.gt λi f=>.gw<|.rc [(7,.len Zx b.Links),(15,.len Zh b.Devices)] [(8,.ca Zxe d),(16,.ca Zxe f)] []<|.e 0 []
def Zzb (r:Int):Exit→St→List Blk→Prop:=FnQ prog f201.results 0 λp K=>p=(i64 r)∧K=[]
def Zzc {b:Ya} {c:Int}:KF prog glob 201 f201 [slc 1 Ze b,i64 c] [] (Zsd b c) (λr=>i64 r) (λ_=>[]):=Wv func201<|.a<|.r [(1,.len Ze b)]<|.p1 [0,1,7,8] 0 (λd=>[.s 8 (i64 d)]) (Sum.elim (λ_=>.n [] 0 []) (λr=>.q (Zzb r)))
 (λf d=>.a<|.i (.a<|.bi 3 Ze<|.a<|.i (.a<|.s 0 [] rfl)
 (.a<|.x1))
 (.u)) (fun
 |.inl ()=>(.n<|.a<|.e 0 [])
 |.inr g=>.r λ_ _ h=>h)
def Zwd {b:Ya} {c:Int}:KF prog glob 117 f117 [slc 1 Ze b,i64 c] [] (Zkr b c) (λr=>vb r) (λ_=>[]):=Wv func117<|.a<|.bc 2 Zzc<|.a<|.e 0 []
def Zvh {b:Int}:KF prog glob 315 f315 [u32 b] [] (Znu b) (λr=>vb r) (λ_=>[]):=Wv func315<|.a<|.a<|.e 0 []
def Z08 {b:Int} {c:Int}:KF prog glob 274 f274 [u32 b,u32 c] [] (Zks b c) (λr=>i64 r) (λ_=>[]):=Wv func274<|.a<|.bc 1 Zvh<|.a<|.bc 1 Zvh<|.a<|.a<|.i (.a<|.i (.a<|.e 0 [])
 (.a<|.e 0 []))
 (.a<|.i (.a<|.e 0 [])
 (.a<|.i (.a<|.e 0 [])
 (.a<|.i (.a<|.e 0 [])
 (.a<|.e 0 []))))
def Zyq {b:Int}:KF prog glob 316 f316 [i64 b] [] (Zqq b) (λr=>vb r) (λ_=>[]):=Wv func316<|.a<|.a<|.e 0 []
def Z5e {b:Int} {c:Int}:KF prog glob 275 f275 [i64 b,i64 c] [] (Zoj b c) (λr=>i64 r) (λ_=>[]):=Wv func275<|.a<|.bc 1 Zyq<|.a<|.bc 1 Zyq<|.a<|.a<|.i (.a<|.i (.a<|.e 0 [])
 (.a<|.e 0 []))
 (.a<|.i (.a<|.e 0 [])
 (.a<|.i (.a<|.e 0 [])
 (.a<|.i (.a<|.e 0 [])
 (.a<|.e 0 []))))
def Zacu (r:Int):Exit→St→List Blk→Prop:=FnQ prog f273.results 0 λp K=>p=(i64 r)∧K=[]
def Zacv {b:Ya}:KF prog glob 273 f273 [slc 1 Ze b] [] (Zt0 b) (λr=>i64 r) (λ_=>[]):=Wv func273<|.a<|.a<|.r [(1,.len Ze b)]<|.p1 [3,6,7,8] 0 (λc=>[.s 8 (i64 c)]) (Sum.elim (λ_=>.n [3] 0 []) (λr=>.q (Zacu r)))
 (λd c=>.a<|.i (.bi 0 Ze<|.a<|.a<|.i (.a<|.s 0 [] rfl)
 (.a<|.x1))
 (.u)) (fun
 |.inl ()=>(.n<|.a<|.e 0 [])
 |.inr f=>.r λ_ _ h=>h)
def Z5f {b:Zl} {c:Zl}:KF prog glob 202 f202 [Za4 b,Za4 c] [] (Zok b c) (λr=>i64 r) (λ_=>[]):=Wv func202<|.a<|.bc 4 Z08<|.bc 9 Z5e<|.bc 11 Zacv<|.d [] 12<|.e 0 []
def Z79 (r:Bool):Exit→St→List Blk→Prop:=FnQ prog f118.results 0 λp K=>p=(vb r)∧K=[]
def Z8a {f:Yd}:KF prog glob 118 f118 [slc 4 Zz f] [] (Zt1 f) (λr=>vb r) (λ_=>[]):=Wv func118<|.a<|.r [(1,.len Zz f)]<|.p1 [0,5,6,7] 0 (λk=>[.s 7 (i64 k)]) (Sum.elim (λ_=>.n [] 0 []) (λr=>.q (Z79 r)))
 (λa0 k=>.a<|.i (.bi 1 Zz<|.a<|.b λa1 g=>.l λp j=>.b λt m=>.to [0,5,6,7] [.s 31 (vb t)] (by
 cases p
 ·obtain⟨v,c,w⟩:=bindb (ifF m rfl)
  replace c:=someb c
  obtain⟨a2,o,⟨⟩⟩:=bindb w;cases v
  ·cases o
   exact .d [(2,.ca Zdv g),(4,.bool j),(7,.bool c)] 20
  obtain⟨a3,x,y⟩:=bindb (ifT o rfl);obtain⟨a4,z,⟨⟩⟩:=bindb y;exact .d [(2,.ca Zdv g),(4,.bool j),(7,.bool c),(11,.idx Zz x),(16,.ca Z5f z)] 20
 cases m
 exact .d [(2,.ca Zdv g),(4,.bool j)] 20)<|.i (.a<|.s 0 [] rfl)
 (.a<|.x1))
 (.u)) (fun
 |.inl ()=>(.n<|.a<|.e 0 [])
 |.inr a5=>.r λ_ _ h=>h)
def Zur {c:Zb} {k:Int} {m:Int}:KF prog glob 119 f119 [Zv c,i64 k,i64 m] [] (Zo4 c k m) (λr=>vb r) (λ_=>[]):=Wv func119<|.a<|.l λp d=>.l λq f=>.b λt i=>.to [] [.s 6 (vb t)] (by
 cases p
 ·subst f
  cases i;exact .r [(2,.bool d)]
 cases q
 ·cases i
  exact .r [(2,.bool d),(6,.len Zx c.Links),(9,.bool f)]
 obtain⟨x5,n,j⟩:=bindb (ifT i rfl);obtain⟨u,g,j⟩:=bindb j
 replace g:=someb g
 obtain⟨w,o,⟨⟩⟩:=bindb j;cases u
 ·obtain⟨x,v,⟨⟩⟩:=bindb (ifF o rfl)
  exact .r [(2,.bool d),(6,.len Zx c.Links),(9,.bool f),(13,.idx Zx n),(18,.bool g),(22,.idx Zx v)]
 cases o
 exact .r [(2,.bool d),(6,.len Zx c.Links),(9,.bool f),(13,.idx Zx n),(18,.bool g)])<|.e 0 []
def Ztl (r:Bool):Exit→St→List Blk→Prop:=FnQ prog f56.results 0 λp K=>p=(vb r)∧K=[]
def Zz4 {k:Z0} {z:Int}:KF prog glob 56 f56 [Zbt k,i64 z] [] (Zjh k z) (λr=>vb r) (λ_=>[]):=Wv func56<|.a<|.b λx1 a3=>.b λx3 a4=>.d0 [(5,.idx Z6 a3),(10,.idx Zan a4)] 15 [] [12,13] []<|.bc 4 Zwd<|.a<|.bc 1 Z8a<|.v<|.v<|.v<|.gm λb9 a5=>.gw<|.rc [(5,.len Zz x1),(10,.len Ze x3),(13,.len Zh k.Topology.Devices),(18,.bool a5),(20,.len Zz x1)] [] []<|.i (.a<|.e 0 [])
 (.r [(1,.len Zz x1)]<|.p1 [1,5,7,8,55,56,57] 2 (λa0=>[.s 57 (i64 a0)]) (Sum.elim (λ_=>.n [1,5,7,8] 2 []) (λr=>.q (Ztl r)))
 (λc0 a0=>.a<|.i (.bi 0 Zz<|.a<|.v<|.v<|.gt λc1 a6=>.gw<|.rc [(8,.len Zk k.Topology.Edges)] [(16,.idx Zk a6)] []<|.l λa7 d=>.l λa8 m=>.b λa9 p=>.to [1,5,7,8,55,56,57] [.s 101 (vb a9)] (by
 cases a7
 ·subst m
  obtain⟨t,c,b0⟩:=bindb (ifF p rfl)
  replace c:=someb c
  obtain⟨b1,f,⟨⟩⟩:=bindb b0;cases t
  ·cases f
   exact .r [(2,.bool d),(10,.bool c)]
  obtain⟨b2,w,⟨⟩⟩:=bindb (ifT f rfl);exact .r [(2,.bool d),(10,.bool c),(15,.ca Zur w)]
 cases a8
 ·obtain⟨t,c,b3⟩:=bindb (ifF p rfl)
  replace c:=someb c
  obtain⟨b1,f,⟨⟩⟩:=bindb b3;cases t
  ·cases f
   exact .r [(2,.bool d),(6,.bool m),(10,.bool c)]
  obtain⟨b2,w,⟨⟩⟩:=bindb (ifT f rfl);exact .r [(2,.bool d),(6,.bool m),(10,.bool c),(15,.ca Zur w)]
 cases p
 exact .r [(2,.bool d),(6,.bool m)])<|.i (.a<|.s 0 [] rfl)
 (.a<|.x1))
 (.u)) (fun
 |.inl ()=>(.n<|.r [(1,.len Ze x3)]<|.p1 [1,5,8,103,104,105] 2 (λa1=>[.s 105 (i64 a1)]) (Sum.elim (λ_=>.n [] 2 []) (λr=>.q (Ztl r)))
 (λc2 a1=>.a<|.i (.bi 1 Ze<|.a<|.l λb4 o=>.b λb5 a2=>.to [1,5,8,103,104,105] [.s 126 (vb b5)] (by
 cases b4
 ·cases a2
  exact .r [(2,.bool o)]
 obtain⟨b6,g,x⟩:=bindb (ifT a2 rfl)
 replace g:=someb g
 obtain⟨b7,j,x⟩:=bindb x
 replace j:=someb j
 obtain⟨c3,y,⟨⟩⟩:=bindb x;cases b6
 ·cases b7
  ·obtain⟨c4,b8,⟨⟩⟩:=bindb (ifF y rfl)
   exact .r [(2,.bool o),(4,.bool g),(9,.bool j),(13,.ca Zur b8)]
  cases y;exact .r [(2,.bool o),(4,.bool g),(9,.bool j)]
 subst j;cases y
 exact .r [(2,.bool o),(4,.bool g)])<|.i (.a<|.s 0 [] rfl)
 (.a<|.x1))
 (.u)) (fun
 |.inl ()=>(.n<|.a<|.e 0 [])
 |.inr c5=>.r λ_ _ h=>h))
 |.inr c6=>.r λ_ _ h=>h))
def Zzd (r:Bool):Exit→St→List Blk→Prop:=FnQ prog f25.results 0 λp K=>p=(vb r)∧K=[]
def Zze {b:Z0}:KF prog glob 25 f25 [Zbt b] [] (Zn2 b) (λr=>vb r) (λ_=>[]):=Wv func25<|.a<|.a<|.bc 3 Z77<|.v<|.ge λf d=>.gw<|.v<|.v<|.rc [(15,.len Z6 b.Routes),(18,.len Zh b.Topology.Devices),(24,.len Zan b.Labels),(27,.len Zh b.Topology.Devices)] [(9,.ca Z78 d)] []<|.i (.a<|.e 0 [])
 (.r [(2,.len Zh b.Topology.Devices)]<|.p1 [1,39,40] 2 (λc=>[.s 40 (i64 c)]) (Sum.elim (λ_=>.n [] 2 []) (λr=>.q (Zzd r)))
 (λg c=>.a<|.i (.a<|.bc 2 Zz4<|.a<|.i (.a<|.s 0 [] rfl)
 (.a<|.x1))
 (.u)) (fun
 |.inl ()=>(.n<|.a<|.e 0 [])
 |.inr j=>.r λ_ _ h=>h))
def Z37 (r:Bool):Exit→St→List Blk→Prop:=FnQ prog f57.results 0 λp K=>p=(vb r)∧K=[]
def Z38 {b:Zw}:KF prog glob 57 f57 [Zsc b] [] (Znw b) (λr=>vb r) (λ_=>[]):=Wv func57<|.a<|.bc 2 Zru<|.v<|.ge λk d=>.gw<|.v<|.ge λl f=>.gw<|.v<|.ge λm g=>.gw<|.v<|.rc [(25,.len Zas b.Steers)] [(7,.ca Zru d),(13,.ca Zyo f),(19,.ca Zuc g)] []<|.i (.a<|.e 0 [])
 (.r [(2,.len Zas b.Steers)]<|.p1 [34,35,36] 1 (λc=>[.s 36 (i64 c)]) (Sum.elim (λ_=>.n [] 1 []) (λr=>.q (Z37 r)))
 (λo c=>.a<|.i (.bi 0 Zas<|.a<|.bc 2 Zfe<|.v<|.ge λp j=>.gw<|.rc [] [(7,.ca Zcb j)] []<|.i (.a<|.s 0 [] rfl)
 (.a<|.x1))
 (.u)) (fun
 |.inl ()=>(.n<|.a<|.e 0 [])
 |.inr t=>.r λ_ _ h=>h))
def Z9s (r:Bool):Exit→St→List Blk→Prop:=FnQ prog f26.results 0 λp K=>p=(vb r)∧K=[]
def Z9t {b:Zo}:KF prog glob 26 f26 [Z1s b] [] (Zrs b) (λr=>vb r) (λ_=>[]):=Wv func26<|.a<|.a<|.r [(2,.len Zy b.Ports)]<|.p2 [3,7,8,9] 1 (λc d=>[.s 3 (i64 c),.s 9 (i64 d)]) (Sum.elim (λ_=>.n [] 1 []) (λr=>.q (Z9s r)))
 (λg c d=>.a<|.i (.bi 0 Zy<|.a<|.v<|.v<|.ge λj f=>.gw<|.rc [] [(11,.ca Z38 f)] []<|.i (.a<|.s 0 [] rfl)
 (.a<|.a<|.x2))
 (.u)) (fun
 |.inl ()=>(.n<|.a<|.e 0 [])
 |.inr k=>.r λ_ _ h=>h)
def Zus (r:Bool):Exit→St→List Blk→Prop:=FnQ prog f7.results 0 λp K=>p=(vb r)∧K=[]
def Zes {c:Z0}:KF prog glob 7 f7 [Zbt c] [] (Zdt c) (λr=>vb r) (λ_=>[]):=Wv func7<|.a<|.bc 1 Zze<|.a<|.i (.a<|.e 0 [])
 (.r [(2,.len Z7 c.Configs)]<|.p1 [13,14,15] 1 (λd=>[.s 15 (i64 d)]) (Sum.elim (λ_=>.n [] 1 []) (λr=>.q (Zus r)))
 (λo d=>.a<|.i (.b λj k=>.r [(0,.idx Z7 k)]<|.bc 1 Z9t<|.a<|.i (.a<|.s 0 [] rfl)
 (.r [(2,.len Zy j.Ports)]<|.p1 [13,14,15,23,24,25] 2 (λf=>[.s 25 (i64 f)]) (Sum.elim (λ_=>.n [13,14,15] 2 []) (λr=>.q (Zus r)))
 (λp f=>.a<|.i (.b λl m=>.r [(0,.idx Zy m)]<|.r [(2,.len Zar l.Hides)]<|.p1 [13,14,15,23,24,25,30,31,32] 3 (λg=>[.s 32 (i64 g)]) (Sum.elim (λ_=>.n [13,14,15,23,24,25] 3 []) (λr=>.q (Zus r)))
 (λt g=>.a<|.i (.bi 0 Zar<|.a<|.a<|.i (.a<|.s 0 [] rfl)
 (.a<|.x1))
 (.u)) (fun
 |.inl ()=>(.n<|.a<|.x1)
 |.inr v=>.r λ_ _ h=>Wbu ⟨rfl,h⟩))
 (.u)) (fun
 |.inl ()=>(.n<|.a<|.x1)
 |.inr w=>.r λ_ _ h=>Wbu ⟨rfl,h⟩)))
 (.u)) (fun
 |.inl ()=>(.n<|.a<|.e 0 [])
 |.inr x=>.r λ_ _ h=>h))
def Z6z (r:Bool):Exit→St→List Blk→Prop:=FnQ prog f58.results 0 λp K=>p=(vb r)∧K=[]
def Zlo {f:Yd}:KF prog glob 58 f58 [slc 4 Zz f] [] (Zs2 f) (λr=>vb r) (λ_=>[]):=Wv func58<|.a<|.a<|.p1 [0,3] 0 (λo=>[.s 3 (i64 o)]) (Sum.elim (λ_=>.n [] 0 []) (λr=>.q (Z6z r)))
 (λa2 o=>.r [(2,.len Zz f)]<|.i (.b λa3 g=>.b λa4 j=>.l λv k=>.b λw p=>.to [0,3] [.s 35 (vb w)] (by
 cases v
 ·obtain⟨x,c,y⟩:=bindb (ifF p rfl)
  replace c:=someb c
  obtain⟨a5,t,⟨⟩⟩:=bindb y;cases x
  ·cases t
   exact .d [(2,.idx Zz g),(5,.ca Ze3 j),(7,.bool k),(10,.bool c)] 26
  obtain⟨a6,z,m⟩:=bindb (ifT t rfl);obtain⟨a7,a0,m⟩:=bindb m;obtain⟨a8,a1,⟨⟩⟩:=bindb m;exact .d [(2,.idx Zz g),(5,.ca Ze3 j),(7,.bool k),(10,.bool c),(14,.idx Zz z),(19,.idx Zz a0),(22,.ca Zyj a1)] 26
 cases p
 exact .d [(2,.idx Zz g),(5,.ca Ze3 j),(7,.bool k)] 26)<|.i (.a<|.s 0 [] rfl)
 (.a<|.x1))
 (.u)) (fun
 |.inl ()=>(.n<|.a<|.e 0 [])
 |.inr a9=>.r λ_ _ h=>h)
def Zut {b:Zb} {c:Int} {d:Int}:KF prog glob 59 f59 [Zv b,i64 c,i64 d] [] (Zo5 b c d) (λr=>vb r) (λ_=>[]):=Wv func59<|.a<|.v<|.v<|.gt λx5 f=>.gt λi g=>.gw<|.rc [(6,.len Zx b.Links)] [(13,.idx Zx f),(16,.ca Zxc g)] []<|.e 0 []
def Zmx (r:Bool):Exit→St→List Blk→Prop:=FnQ prog f27.results 0 λp K=>p=(vb r)∧K=[]
def Zx0 {c:Z0}:KF prog glob 27 f27 [Zbt c] [] (Zmu c) (λr=>vb r) (λ_=>[]):=Wv func27<|.a<|.a<|.bc 3 Zxb<|.v<|.ge λe7 c3=>.gw<|.v<|.v<|.rc [(15,.len Z6 c.Routes),(18,.len Zh c.Topology.Devices),(24,.len Zan c.Labels),(27,.len Zh c.Topology.Devices)] [(9,.ca Zb0 c3)] []<|.i (.a<|.e 0 [])
 (.a<|.p1 [1,3,4] 2 (λb5=>[.s 4 (i64 b5)]) (Sum.elim (λ_=>.n [] 2 []) (λr=>.q (Zmx r)))
 (λe8 b5=>.r [(3,.len Zh c.Topology.Devices)]<|.i (.bc 4 Zbw<|.a<|.b λe9 g=>.b λf0 j=>.l λc4 k=>.b λf1 b6=>.l λc5 m=>.b λf2 a6=>.l λc6 o=>.b λc7 p=>.to [1,3,4,5] [.s 94 (vb c7)] (by
 cases c4
 ·obtain⟨a0,a1,⟨⟩⟩:=bindb (ifF b6 rfl)
  cases c5
  ·obtain⟨c8,t,c9⟩:=bindb (ifF a6 rfl)
   replace t:=someb t
   obtain⟨f3,b7,⟨⟩⟩:=bindb c9;cases c8
   ·cases b7
    subst o;obtain⟨a7,a8,⟨⟩⟩:=bindb (ifF p rfl);exact .d [(3,.idx Z6 g),(5,.ca Zlo j),(7,.bool k),(11,.idx Z6 a1),(13,.len Zz a0),(16,.bool m),(18,.bool t),(32,.idx Zan a8),(34,.len Ze a7),(37,.len Zh c.Topology.Devices)] 40
   obtain⟨b8,b9,⟨⟩⟩:=bindb (ifT b7 rfl);cases c6
   ·obtain⟨a7,a8,⟨⟩⟩:=bindb (ifF p rfl)
    exact .d [(3,.idx Z6 g),(5,.ca Zlo j),(7,.bool k),(11,.idx Z6 a1),(13,.len Zz a0),(16,.bool m),(18,.bool t),(22,.idx Z6 b9),(24,.len Zz b8),(28,.bool o),(32,.idx Zan a8),(34,.len Ze a7),(37,.len Zh c.Topology.Devices)] 40
   cases p;exact .d [(3,.idx Z6 g),(5,.ca Zlo j),(7,.bool k),(11,.idx Z6 a1),(13,.len Zz a0),(16,.bool m),(18,.bool t),(22,.idx Z6 b9),(24,.len Zz b8),(28,.bool o)] 40
  cases a6;subst o;cases p;exact .d [(3,.idx Z6 g),(5,.ca Zlo j),(7,.bool k),(11,.idx Z6 a1),(13,.len Zz a0),(16,.bool m)] 40
 cases b6;subst m;cases a6;subst o;cases p
 exact .d [(3,.idx Z6 g),(5,.ca Zlo j),(7,.bool k)] 40)<|.i (.a<|.s 0 [] rfl)
 (.a<|.p1 [1,3,4,5,6] 2 (λc0=>[.s 6 (i64 c0)]) (Sum.elim (λ_=>.n [1,3,4,5] 2 []) (λr=>.q (Zmx r)))
 (λf4 c0=>.b λd0 d1=>.r [(4,.idx Z6 d1),(6,.len Zz d0)]<|.i (.bi 3 Z6<|.bi 6 Zz<|.a<|.v<|.v<|.gt λf5 d2=>.gw<|.rc [(8,.len Zk c.Topology.Edges)] [(16,.idx Zk d2)] []<|.l λd3 w=>.l λd4 a2=>.b λd5 a9=>.to [1,3,4,5,6] [.s 153 (vb d5)] (by
 cases d3
 ·subst a2
  obtain⟨b0,f,d6⟩:=bindb (ifF a9 rfl)
  replace f:=someb f
  obtain⟨d7,x,⟨⟩⟩:=bindb d6;cases b0
  ·cases x
   exact .r [(2,.bool w),(10,.bool f)]
  obtain⟨d8,b1,⟨⟩⟩:=bindb (ifT x rfl);exact .r [(2,.bool w),(10,.bool f),(15,.ca Zut b1)]
 cases d4
 ·obtain⟨b0,f,d9⟩:=bindb (ifF a9 rfl)
  replace f:=someb f
  obtain⟨d7,x,⟨⟩⟩:=bindb d9;cases b0
  ·cases x
   exact .r [(2,.bool w),(6,.bool a2),(10,.bool f)]
  obtain⟨d8,b1,⟨⟩⟩:=bindb (ifT x rfl);exact .r [(2,.bool w),(6,.bool a2),(10,.bool f),(15,.ca Zut b1)]
 cases a9
 exact .r [(2,.bool w),(6,.bool a2)])<|.i (.a<|.s 0 [] rfl)
 (.a<|.x1))
 (.u)) (fun
 |.inl ()=>(.n<|.a<|.p1 [1,3,4,5,9] 2 (λc1=>[.s 9 (i64 c1)]) (Sum.elim (λ_=>.n [1,3,4] 2 []) (λr=>.q (Zmx r)))
 (λf6 c1=>.r [(3,.len Zh c.Topology.Devices)]<|.i (.b λf7 a3=>.b λf8 a4=>.l λe0 a5=>.b λe1 c2=>.to [1,3,4,5,9] [.s 191 (vb e1)] (by
 cases e0
 ·cases c2
  exact .d [(3,.idx Zan a3),(6,.idx Ze a4),(9,.bool a5)] 31
 obtain⟨e2,y,b2⟩:=bindb (ifT c2 rfl)
 replace y:=someb y
 obtain⟨e3,z,b2⟩:=bindb b2
 replace z:=someb z
 obtain⟨f9,b3,⟨⟩⟩:=bindb b2;cases e2
 ·cases e3
  ·obtain⟨g0,e4,b4⟩:=bindb (ifF b3 rfl)
   obtain⟨g1,e5,b4⟩:=bindb b4;obtain⟨g2,e6,⟨⟩⟩:=bindb b4;exact .d [(3,.idx Zan a3),(6,.idx Ze a4),(9,.bool a5),(11,.bool y),(16,.bool z),(22,.idx Zan e4),(25,.idx Ze e5),(27,.ca Zut e6)] 31
  cases b3;exact .d [(3,.idx Zan a3),(6,.idx Ze a4),(9,.bool a5),(11,.bool y),(16,.bool z)] 31
 subst z;cases b3
 exact .d [(3,.idx Zan a3),(6,.idx Ze a4),(9,.bool a5),(11,.bool y)] 31)<|.i (.a<|.s 0 [] rfl)
 (.a<|.x1))
 (.u)) (fun
 |.inl ()=>(.n<|.a<|.x1)
 |.inr g3=>.r λ_ _ h=>Wbu ⟨rfl,h⟩))
 |.inr g4=>.r λ_ _ h=>Wbu ⟨rfl,h⟩)))
 (.u)) (fun
 |.inl ()=>(.n<|.a<|.e 0 [])
 |.inr g5=>.r λ_ _ h=>h))
def Zxf (r:Bool):Exit→St→List Blk→Prop:=FnQ prog f28.results 0 λp K=>p=(vb r)∧K=[]
def Z60 {j:Zo}:KF prog glob 28 f28 [Z1s j] [] (Zs3 j) (λr=>vb r) (λ_=>[]):=Wv func28<|.a<|.a<|.p1 [1,3] 1 (λm=>[.s 3 (i64 m)]) (Sum.elim (λ_=>.n [] 1 []) (λr=>.q (Zxf r)))
 (λa8 m=>.r [(3,.len Zy j.Ports)]<|.i (.b λo w=>.r [(3,.idx Zy w)]<|.l λx c=>.l λy f=>.b λz k=>.to [1,3,4] [.s 41 (vb z)] (by
 cases x
 ·cases y
  ·obtain⟨a0,g,a1⟩:=bindb (ifF k rfl)
   replace g:=someb g
   obtain⟨a9,p,⟨⟩⟩:=bindb a1;cases a0
   ·cases p
    exact .d [(3,.bool c),(8,.bool f),(11,.bool g)] 24
   obtain⟨b0,a2,⟨⟩⟩:=bindb (ifT p rfl);exact .d [(3,.bool c),(8,.bool f),(11,.bool g),(16,.idx Zy a2)] 24
  cases k;exact .d [(3,.bool c),(8,.bool f)] 24
 subst f;cases k
 exact .d [(3,.bool c)] 24)<|.i (.a<|.s 0 [] rfl)
 (.bc 2 Zqy<|.v<|.ge λb1 a3=>.gw<|.v<|.ge λb2 a4=>.gw<|.v<|.ge λb3 a5=>.gw<|.v<|.rc [(25,.len Zas o.Steers)] [(7,.ca Zqy a3),(13,.ca Zyi a4),(19,.ca Zua a5)] []<|.i (.a<|.s 0 [] rfl)
 (.a<|.p1 [1,3,4,5] 2 (λt=>[.s 5 (i64 t)]) (Sum.elim (λ_=>.n [1,3] 2 []) (λr=>.q (Zxf r)))
 (λb4 t=>.r [(3,.len Zas o.Steers)]<|.i (.bi 3 Zas<|.bc 6 Zce<|.v<|.ge λb5 a6=>.ge λb6 a7=>.gw<|.rc [] [(12,.idx Zas a6),(15,.ca Zae a7)] []<|.i (.a<|.s 0 [] rfl)
 (.a<|.x1))
 (.u)) (fun
 |.inl ()=>(.n<|.a<|.x1)
 |.inr b7=>.r λ_ _ h=>Wbu ⟨rfl,h⟩))))
 (.u)) (fun
 |.inl ()=>(.n<|.a<|.e 0 [])
 |.inr b8=>.r λ_ _ h=>h)
def Zs7 (r:Bool):Exit→St→List Blk→Prop:=FnQ prog f8.results 0 λp K=>p=(vb r)∧K=[]
def Zdn {c:Z0}:KF prog glob 8 f8 [Zbt c] [] (Zdm c) (λr=>vb r) (λ_=>[]):=Wv func8<|.a<|.bc 1 Zx0<|.a<|.i (.a<|.e 0 [])
 (.a<|.p1 [1,3] 1 (λd=>[.s 3 (i64 d)]) (Sum.elim (λ_=>.n [] 1 []) (λr=>.q (Zs7 r)))
 (λp d=>.r [(3,.len Z7 c.Configs)]<|.i (.bi 3 Z7<|.bc 5 Z60<|.a<|.i (.a<|.s 0 [] rfl)
 (.a<|.p1 [1,3,4] 1 (λf=>[.s 4 (i64 f)]) (Sum.elim (λ_=>.n [1,3] 1 []) (λr=>.q (Zs7 r)))
 (λt f=>.b λj k=>.r [(4,.idx Z7 k),(7,.len Zy j.Ports)]<|.i (.bi 3 Z7<|.b λl m=>.r [(7,.idx Zy m)]<|.a<|.p1 [1,3,4,5,6] 1 (λg=>[.s 6 (i64 g)]) (Sum.elim (λ_=>.n [1,3,4] 1 []) (λr=>.q (Zs7 r)))
 (λw g=>.r [(2,.len Zar l.Hides)]<|.i (.bi 2 Zar<|.v<|.gt λx o=>.gw<|.rc [] [(10,.idx Zar o)] []<|.i (.a<|.s 0 [] rfl)
 (.a<|.x1))
 (.u)) (fun
 |.inl ()=>(.n<|.a<|.x1)
 |.inr y=>.r λ_ _ h=>Wbu ⟨rfl,h⟩))
 (.u)) (fun
 |.inl ()=>(.n<|.a<|.x1)
 |.inr z=>.r λ_ _ h=>Wbu ⟨rfl,h⟩)))
 (.u)) (fun
 |.inl ()=>(.n<|.a<|.e 0 [])
 |.inr a0=>.r λ_ _ h=>h))
def Zvi {b:Int}:KF prog glob 29 f29 [i64 b] [] (Zfz b) (λ_=>.tup [.ptr 1 0,i64 (0:Int)]) (λr=>[.fm (List.map (entF Z1u Zvw) r.2),.cells [.sc (.int .i64 r.1),.mp 0]]):=Wv func29<|.a<|.v<|.rc [] [] []<|.i (.a<|.n)
 (.r [(1,.mkM)]<|.e 2 [])
def Zvr {b:Yr}:KF prog glob 65 f65 [slc 5 Zh b] [] (Zjr b) (λr=>slc 5 Zh r) (λ_=>[]):=Wv func65<|.a<|.c λd=>.r [(1,.appN Zh (λ_=>kR) d)]<|.e 0 [.of Zh b]
def Zxg {b:Yt}:KF prog glob 66 f66 [slc 3 Zx b] [] (Zlh b) (λr=>slc 3 Zx r) (λ_=>[]):=Wv func66<|.a<|.c λd=>.r [(1,.appN Zx (λ_=>kR) d)]<|.e 0 [.of Zx b]
def Zxh {b:Yk}:KF prog glob 67 f67 [slc 6 Zk b] [] (Zli b) (λr=>slc 6 Zk r) (λ_=>[]):=Wv func67<|.a<|.c λd=>.r [(1,.appN Zk (λ_=>kR) d)]<|.e 0 [.of Zk b]
def Zvs {b:Yl}:KF prog glob 68 f68 [slc 2 Zu b] [] (Zjs b) (λr=>slc 2 Zu r) (λ_=>[]):=Wv func68<|.a<|.c λd=>.r [(1,.appN Zu (λ_=>kR) d)]<|.e 0 [.of Zu b]
def Zqd {b:Ya}:KF prog glob 69 f69 [slc 1 Ze b] [] (Ze7 b) (λr=>slc 1 Ze r) (λ_=>[]):=Wv func69<|.a<|.c λd=>.r [(1,.appN Ze (λ_=>kR) d)]<|.e 0 [.of Ze b]
def Zrh {b:Yn}:KF prog glob 70 f70 [slc 11 Zak b] [] (Zgu b) (λr=>slc 11 Zak r) (λ_=>[]):=Wv func70<|.a<|.c λd=>.r [(1,.appN Zak (λ_=>kR) d)]<|.e 0 [.of Zak b]
def Zxi {b:Yj}:KF prog glob 71 f71 [slc 20 Zap b] [] (Zlj b) (λr=>slc 20 Zap r) (λ_=>[]):=Wv func71<|.a<|.c λd=>.r [(1,.appN Zap (λ_=>kR) d)]<|.e 0 [.of Zap b]
def Zxj {b:Ym}:KF prog glob 72 f72 [slc 13 Zar b] [] (Zlk b) (λr=>slc 13 Zar r) (λ_=>[]):=Wv func72<|.a<|.c λd=>.r [(1,.appN Zar (λ_=>kR) d)]<|.e 0 [.of Zar b]
def Zwe {b:Yi}:KF prog glob 73 f73 [slc 11 Zas b] [] (Zkt b) (λr=>slc 11 Zas r) (λ_=>[]):=Wv func73<|.a<|.c λd=>.r [(1,.appN Zas (λ_=>kR) d)]<|.e 0 [.of Zas b]
def Zwf {b:Yd}:KF prog glob 74 f74 [slc 4 Zz b] [] (Zku b) (λr=>slc 4 Zz r) (λ_=>[]):=Wv func74<|.a<|.c λd=>.r [(1,.appN Zz (λ_=>kR) d)]<|.e 0 [.of Zz b]
def Zz5 {t:Z0}:KF prog glob 30 f30 [Zbt t] [] (Zo6 t) (λr=>Zbt r) (λ_=>[]):=Wv func30<|.a<|.bc 3 Zvr<|.bc 7 Zxg<|.bc 11 Zxh<|.bc 15 Zvs<|.bc 23 Zqd<|.bc 27 Zqd<|.d0 [(29,.m),(30,.m),(31,.m)] 31 [] [30] []<|.z (.gst (.ownF 2 7 1 71))<|.z (.gst (.ownF 2 8 1 88))<|.z (.gst (.ownF 2 9 1 22))<|.r [(2,.len Z7 t.Configs)]<|.p4 [1,2,3,44,45,46] 6 (λg a2 a7 a8=>[.l 3 Z7 a7,.f 2 0 (.sl 5 (List.map Zh g.Devices)),.f 2 1 (.sl 3 (List.map Zx g.Links)),.f 2 2 (.sl 6 (List.map Zk g.Edges)),.f 2 3 (.sl 2 (List.map Zu g.Pools)),.f 2 4 (.sc (.int .i64 g.Tolerate)),.f 2 5 (.sl 1 (List.map Ze a2.Links)),.f 2 6 (.sl 1 (List.map Ze a2.Devices)),.s 46 (i64 a8)]) (λ(j,a3,v)=>.n [1,2,3] 6 [.l 3 Z7 v,.f 2 0 (.sl 5 (List.map Zh j.Devices)),.f 2 1 (.sl 3 (List.map Zx j.Links)),.f 2 2 (.sl 6 (List.map Zk j.Edges)),.f 2 3 (.sl 2 (List.map Zu j.Pools)),.f 2 4 (.sc (.int .i64 j.Tolerate)),.f 2 5 (.sl 1 (List.map Ze a3.Links)),.f 2 6 (.sl 1 (List.map Ze a3.Devices))])
 (λc1 g a2 a7 a8=>.a<|.i (.b λb5 b6=>.r [(0,.idx Z7 b6)]<|.r [(0,.m)]<|.w (.gst (.ownF 7 0 6 87))<|.r [(2,.len Zy b5.Ports)]<|.p2 [1,2,3,6,44,45,46,51,52,53] 9 (λa9 b0=>[.l 8 Zy a9,.s 53 (i64 b0)]) (λx=>.n [1,2,3,6,44,45,46] 9 [.l 8 Zy x])
 (λc2 a9 b0=>.a<|.i (.bi 0 Zy<|.a<|.bc 6 Zrh<|.bc 9 Zrh<|.bc 12 Zxi<|.bc 15 Zxj<|.bc 18 Zwe<|.c λb7=>.d0 [(1,.q),(21,.app Zy (λ_=>kR) b7),(23,.m)] 22 [] [21] []<|.a<|.x2)
 (.u)) (λx=>.n<|.w (.share 8)<|.c λb8=>.r [(1,.q),(2,.wkP (Z7 (Zo.mk x)) [.of Zy x] .q),(4,.app Z7 (λ_=>kR) b8),(6,.m)]<|.a<|.x4))
 (.u)) (λ(j,a3,v)=>.n<|.r [(2,.len Z6 t.Routes)]<|.p4 [1,2,3,89,90,91] 6 (λk a4 b1 b2=>[.l 4 Z6 b1,.f 2 0 (.sl 5 (List.map Zh k.Devices)),.f 2 1 (.sl 3 (List.map Zx k.Links)),.f 2 2 (.sl 6 (List.map Zk k.Edges)),.f 2 3 (.sl 2 (List.map Zu k.Pools)),.f 2 4 (.sc (.int .i64 k.Tolerate)),.f 2 5 (.sl 1 (List.map Ze a4.Links)),.f 2 6 (.sl 1 (List.map Ze a4.Devices)),.s 91 (i64 b2)]) (λ(o,a5,y)=>.n [1,2,3] 6 [.l 4 Z6 y,.f 2 0 (.sl 5 (List.map Zh o.Devices)),.f 2 1 (.sl 3 (List.map Zx o.Links)),.f 2 2 (.sl 6 (List.map Zk o.Edges)),.f 2 3 (.sl 2 (List.map Zu o.Pools)),.f 2 4 (.sc (.int .i64 o.Tolerate)),.f 2 5 (.sl 1 (List.map Ze a5.Links)),.f 2 6 (.sl 1 (List.map Ze a5.Devices))])
 (λc3 k a4 b1 b2=>.a<|.i (.bi 0 Z6<|.a<|.bc 3 Zwf<|.c λb9=>.d0 [(1,.q),(5,.app Z6 (λ_=>kR) b9),(7,.m)] 6 [] [5] []<|.a<|.x4)
 (.u)) (λ(o,a5,y)=>.n<|.r [(2,.len Zan t.Labels)]<|.p4 [2,3,104,105,106] 6 (λp a6 b3 b4=>[.l 5 Zan b3,.f 2 0 (.sl 5 (List.map Zh p.Devices)),.f 2 1 (.sl 3 (List.map Zx p.Links)),.f 2 2 (.sl 6 (List.map Zk p.Edges)),.f 2 3 (.sl 2 (List.map Zu p.Pools)),.f 2 4 (.sc (.int .i64 p.Tolerate)),.f 2 5 (.sl 1 (List.map Ze a6.Links)),.f 2 6 (.sl 1 (List.map Ze a6.Devices)),.s 106 (i64 b4)]) (λ(d,a0,a1)=>.n [2,3] 6 [.l 5 Zan a1,.f 2 0 (.sl 5 (List.map Zh d.Devices)),.f 2 1 (.sl 3 (List.map Zx d.Links)),.f 2 2 (.sl 6 (List.map Zk d.Edges)),.f 2 3 (.sl 2 (List.map Zu d.Pools)),.f 2 4 (.sc (.int .i64 d.Tolerate)),.f 2 5 (.sl 1 (List.map Ze a0.Links)),.f 2 6 (.sl 1 (List.map Ze a0.Devices))])
 (λc4 p a6 b3 b4=>.a<|.i (.bi 0 Zan<|.a<|.bc 3 Zqd<|.c λc0=>.d0 [(1,.q),(5,.app Zan (λ_=>kR) c0),(7,.m)] 6 [] [5] []<|.a<|.x4)
 (.u)) (λ(d,a0,a1)=>.n<|.z (.share 3)<|.z (.share 4)<|.z (.share 5)<|.r [(0,.wkP (Zbj (Z0.mk d a0 v y a1)) [.of Z7 v,.of Z6 y,.of Zan a1] .q)]<|.e 0 [])))
def Ztm {b:Int}:KF prog glob 29 f29 [i64 b] [] (Zo7 b) (λ_=>.tup [.sc (.pointer none),i64 (2:Int)]) (λ_=>[]):=Wv func29<|.a<|.v<|.rc [] [] []<|.i (.a<|.e 0 [])
 (.r [(1,.mkM)]<|.n)
def Z8b {b:Z0} {c:Int}:KF prog glob 9 f9 [Zbt b,i64 c] [] (Zji b c) (λ_=>.tup [.ptr 2 0,i64 (0:Int)]) (λr=>[.fm (List.map (entF Z1u Zvw) r.2.2.2),.cells [.sc (.int .i64 r.2.2.1),.mp 0],.cells [.sl 5 (List.map Zh r.1.Topology.Devices),.sl 3 (List.map Zx r.1.Topology.Links),.sl 6 (List.map Zk r.1.Topology.Edges),.sl 2 (List.map Zu r.1.Topology.Pools),.sc (.int .i64 r.1.Topology.Tolerate),.sl 1 (List.map Ze r.1.Failure.Links),.sl 1 (List.map Ze r.1.Failure.Devices),.sl 1 (List.map Z7 r.1.Configs),.sl 1 (List.map Z6 r.1.Routes),.sl 1 (List.map Zan r.1.Labels),.sc (.int .i64 r.2.1),.ptr 1 0]]):=Wv func9<|.a<|.bc 1 Zes<|.a<|.i (.a<|.n)
 (.v<|.rc [(7,.len Zh b.Topology.Devices)] [] []<|.i (.a<|.n)
 (.j (λ_=>.bc 0 Zvi<|.a<|.a<|.f<|.bc 1 Zz5<|.a<|.z (.swap 1 0)<|.z (.swap 2 1)<|.z (.swap 3 2)<|.e 3 [])
 (λ_=>.bc 0 Ztm<|.a<|.a<|.t<|.a<|.n)))
def Ztn {b:Zb}:KF prog glob 10 f10 [Zv b] [] (Zjj b) (λr=>vb r) (λ_=>[]):=Wv func10<|.a<|.v<|.v<|.v<|.rc [(2,.len Zh b.Devices),(7,.len Zx b.Links),(13,.len Zk b.Edges),(19,.len Zu b.Pools)] [] []<|.e 0 []
def Z39 {b:Z0} {c:Int}:KF prog glob 9 f9 [Zbt b,i64 c] [] (Zim b c) (λr=>.tup [.sc (.pointer none),i64 r]) (λ_=>[]):=Wv func9<|.a<|.bc 1 Zes<|.a<|.i (.a<|.e 0 [])
 (.v<|.rc [(7,.len Zh b.Topology.Devices)] [] []<|.i (.a<|.e 0 [])
 (.j (λ_=>.bc 0 Zvi<|.a<|.a<|.f<|.bc 1 Zz5<|.a<|.z (.swap 1 0)<|.z (.swap 2 1)<|.z (.swap 3 2)<|.n)
 (λ_=>.bc 0 Ztm<|.a<|.a<|.t<|.a<|.e 0 [])))
def Z2x {b:Ya}:KF prog glob 134 f134 [slc 1 Zwo b] [] (Z2g b) (λr=>u16 r) (λ_=>[]):=Wv func134<|.a<|.a<|.a<|.p2 [0,3,4] 0 (λc d=>[.s 3 (u64 c),.s 4 (i64 d)]) (λf=>.n [3] 0 [.s 3 (u64 f)])
 (λo c d=>.r [(2,.len Zwo b)]<|.i (.m 2 (λg=>.n [0,3,4] 0 [.s 3 (u64 g)]) (.a<|.i (.bi 3 Zwo<|.a<|.k)
 (.bi 3 Zwo<|.a<|.k)) (λg=>.n<|.a<|.x2))
 (.u)) (λf=>.n<|.p1 [3] 0 (λj=>[.s 3 (u64 j)]) (λl=>.n [3] 0 [.s 3 (u64 l)])
 (λp j=>.a<|.i (.a<|.x1)
 (.u)) (λl=>.n<|.a<|.e 0 []))
def Z5g {b:Ya}:KF prog glob 208 f208 [slc 1 Zwo b] [] (Z4z b) (λr=>u16 r) (λ_=>[]):=Wv func208<|.a<|.a<|.r [(1,.len Zwo b)]<|.p2 [3,6,7,8] 0 (λc d=>[.s 3 (u64 c),.s 8 (i64 d)]) (λf=>.n [3] 0 [.s 3 (u64 f)])
 (λo c d=>.a<|.i (.m 2 (λg=>.n [3,6,7,8] 0 [.s 3 (u64 g)]) (.bi 1 Zwo<|.a<|.a<|.i (.a<|.k)
 (.a<|.k)) (λg=>.n<|.a<|.x2))
 (.u)) (λf=>.n<|.p1 [3] 0 (λj=>[.s 3 (u64 j)]) (λl=>.n [3] 0 [.s 3 (u64 l)])
 (λp j=>.a<|.i (.a<|.x1)
 (.u)) (λl=>.n<|.a<|.e 0 []))
end
end
end Go.AM

/- Parts of a proof, printed short. No condition. -/
import Derived.Test.YtdbopohjgcdpmaaGreatDoorProg
import Derived.Test.YtdbopohjgcdpmaaGreatDoorLQ5
set_option maxRecDepth 100000
set_option linter.all false
namespace Go.AM
noncomputable section
open Go
open Go.Proofs.Tryz
open Go.IntKind(wrap)
section
open Go.Proofs
def Zy4:KeyOk prog 188 Z1b Zah:=KeyOk.struct (vs:=Z1a) kR (λ_=>kR) (λ_ _=>kR) (λ_=>kR) (λa b=>⟨λh=>by cases a;cases b;simpa [Zah]using h,λh=>by subst h;simp[Zah]⟩)
end
section
open Go.Proofs
def glob:Glob:=[(0,Z6u Zmr)]
def Zabt {b:Ya}:KF prog glob 4 f4 [slc 1 Ze b] [] (Zwf b) (λ_=>.ptr 0 0) (λr=>[.cells (Zf r)]):=Ww func4<|.a<|.a<|.e 1 []
def Z2v {b:Int} {d:Int}:KF prog glob 20 f20 [i64 b,i64 d] [] (Zq6 b d) (λr=>i64 r) (λ_=>[]):=Ww func20<|.a<|.c λf=>.r [(4,.rem f)]<|.e 0 []
def Zi {b:Zc} {c:Int}:KF prog glob 7 f7 [.ptr 0 0,i64 c] [.cells (Zf b)] (Zh b c) (λr=>i64 r.1) (λr=>[.cells (Zf r.2)]):=Ww func7<|.a<|.l λf g=>.to [0,1] [.s 18 (vb (f||(decide (b.f_i≥(b.f_l.length:Int)))))] (by
 cases f
 ·exact .d [(2,.bool g),(11,.len Ze b.f_l)] 14
 exact .d [(2,.bool g)] 14)<|.i (.a<|.e 1 [])
 (.a<|.bi 9 Ze<|.bc 12 Z2v<|.d [] 13<|.e 1 [])
def Zqu {b:Int}:KF prog glob 21 f21 [i64 b] [] (Ze4 b) (λr=>Za6 r) (λ_=>[]):=Ww func21<|.a<|.bc 8 Z2v<|.bi 9 Zy<|.a<|.e 0 []
def Zym {w:Zc} {x:Int}:KF prog glob 30 f30 [.ptr 0 0,i64 x] [.cells (Zf w)] (Znv w x) (λr=>Zu r.1) (λr=>[.cells (Zf r.2)]):=Ww func30<|.a<|.r [(0,.m)]<|.z (.gst (.ownF 2 0 5 125))<|.z (.gst (.ownF 2 1 3 127))<|.z (.gst (.ownF 2 2 6 129))<|.z (.gst (.ownF 2 3 2 70))<|.bc 3 Zi<|.a<|.a<|.p5 [0,1,4,5,6] 7 (λy a0 a1 a2 a3=>[.l 3 Zj a1,.l 4 Zx a2,.c 0 (Zf y),.f 2 4 (.sc (.int .i64 a0)),.s 6 (i64 a3)]) (λ(a4,a5,j,a6)=>.n [0,1,4,5] 7 [.l 3 Zj j,.l 4 Zx a6,.c 0 (Zf a4),.f 2 4 (.sc (.int .i64 a5))])
 (λe0 y a0 a1 a2 a3=>.a<|.i (.m 2 (λ(a7,a8,a9)=>.n [0,1,4,5,6] 7 [.l 3 Zj a8,.l 4 Zx a9,.c 0 (Zf a7)]) (.b λc5 c6=>.b λc7 c8=>.b λc9 d1=>.to [0,1,4,5,6] [.c 0 (Zf c7.2),.k 7 (.cells (Zj (Z5.mk c5 c9 false false ByteArray.empty))),.s 7 (.ptr 7 0)] (by
 exact .g [(2,.idx Zai c6),(6,.ca Zi c8),(7,.idx Ze d1)] 11 (.e 10 6 (.d [] [6,10] []) (.d [0,1,2,3,4,5,10,6,7,8,9] [10,6] [])))<|.bc 1 Zi<|.bc 4 Zi<|.a<|.bc 2 Zi<|.bi 3 Zai<|.a<|.c λd2=>.r [(1,.q),(4,.app Zj (λ_=>kR) d2),(6,.m)]<|.a<|.i (.bc 4 Zi<|.bc 8 Zi<|.bi 9 Ze<|.c λd3=>.d0 [(1,.q),(13,.app Zx (λ_=>kR) d3),(15,.m)] 14 [] [4,8,13] []<|.k)
 (.k)) (λ(a7,a8,a9)=>.n<|.a<|.x5))
 (.u)) (λ(a4,a5,j,a6)=>.n<|.bc 1 Zi<|.a<|.p4 [0,1,4,5,8] 7 (λb0 b1 b2 b3=>[.l 4 Zx b2,.c 0 (Zf b0),.f 2 4 (.sc (.int .i64 b1)),.s 8 (i64 b3)]) (λ(b4,b5,o)=>.n [0,1,4,5] 7 [.l 4 Zx o,.c 0 (Zf b4),.f 2 4 (.sc (.int .i64 b5))])
 (λe1 b0 b1 b2 b3=>.v<|.rc [] [] []<|.i (.bc 3 Zi<|.a<|.bc 4 Zi<|.bc 8 Zi<|.bi 9 Ze<|.c λd4=>.d0 [(1,.q),(13,.app Zx (λ_=>kR) d4),(15,.m)] 14 [] [4,8,13] []<|.a<|.x4)
 (.u)) (λ(b4,b5,o)=>.n<|.bc 2 Zi<|.bi 3 Ze<|.a<|.a<|.p4 [0,1,4,5,10,11] 7 (λb6 b7 b8 b9=>[.l 5 Zk b8,.c 0 (Zf b6),.f 2 4 (.sc (.int .i64 b7)),.s 11 (i64 b9)]) (λ(c0,c1,p)=>.n [0,4,5] 7 [.l 5 Zk p,.c 0 (Zf c0),.f 2 4 (.sc (.int .i64 c1))])
 (λe2 b6 b7 b8 b9=>.a<|.i (.bi 4 Zai<|.bc 8 Zi<|.bc 11 Zi<|.bi 12 Zai<|.bc 15 Zqu<|.c λd5=>.d0 [(1,.q),(18,.app Zk (λ_=>kR) d5),(20,.m)] 19 [] [8,11,15,18] []<|.a<|.x4)
 (.u)) (λ(c0,c1,p)=>.n<|.m 1 (λ(c2,c3)=>.n [0,4,5] 7 [.l 6 Zy c3,.c 0 (Zf c2)]) (.bc 1 Zi<|.a<|.i (.c λd6=>.r [(1,.q),(4,.app Zy (λ_=>kR) d6),(6,.m)]<|.k)
 (.k)) (λ(c2,c3)=>.n<|.m 1 (λ(c4,t)=>.n [0,4,5] 7 [.l 6 Zy t,.c 0 (Zf c4)]) (.bc 1 Zi<|.a<|.i (.c λd7=>.r [(1,.q),(4,.app Zy (λ_=>kR) d7),(6,.m)]<|.k)
 (.k)) (λ(c4,t)=>.n<|.bc 2 Zi<|.b λd8 d9=>.r [(3,.idx Ze d9),(6,.m)]<|.z (.share 3)<|.z (.share 4)<|.z (.share 5)<|.z (.share 6)<|.r [(0,.wkP (Z3 (Zb.mk j o p t d8)) [.of Zj j,.of Zx o,.of Zk p,.of Zy t] .q)]<|.e 1 [])))))
def Zy5 {b:Int}:KF prog glob 48 f48 [i64 b] [] (Zor b) (λr=>u64 r) (λ_=>[]):=Ww func48<|.a<|.c λd=>.r [(3,.sh d)]<|.e 0 []
def Ze9 {i:Zn}:KF prog glob 47 f47 [Za6 i] [] (Zcx i) (λr=>vb r) (λ_=>[]):=Ww func47<|.a<|.l λj c=>.l λk f=>.b λm g=>.to [] [.s 2 (vb m)] (by
 cases j
 ·subst f
  cases g;exact .d [(3,.bool c)] 18
 cases k
 ·cases g
  exact .d [(3,.bool c),(8,.bool f)] 18
 obtain⟨q,n,o⟩:=bindb (ifT g rfl);obtain⟨p,⟨⟩⟩:=chkb o
 exact .d [(3,.bool c),(8,.bool f),(14,.ca Zy5 n),(15,.rem p)] 18)<|.e 0 []
def Zep {b:Zn}:KF prog glob 22 f22 [Za6 b] [] (Za7 b) (λr=>.tup [Zk5 r.1,vb r.2]) (λ_=>[]):=Ww func22<|.a<|.bc 1 Ze9<|.a<|.i (.a<|.e 0 [])
 (.bc 7 Zy5<|.d [] 12<|.e 0 [])
def Zf5 {b:Zc}:KF prog glob 8 f8 [.ptr 0 0] [.cells (Zf b)] (Zcy b) (λr=>u32 r.1) (λr=>[.cells (Zf r.2)]):=Ww func8<|.a<|.bc 1 Zi<|.a<|.i (.bc 2 Zi<|.bi 3 Zi0<|.a<|.e 1 [])
 (.bc 1 Zi<|.bc 2 Zqu<|.a<|.bc 1 Zep<|.a<|.bc 15 Zi<|.bi 16 Zi0<|.d0 [] 18 [] [15] []<|.e 1 [])
def Zpv {b:Zc}:KF prog glob 27 f27 [.ptr 0 0] [.cells (Zf b)] (Zgj b) (λr=>Za6 r.1) (λr=>[.cells (Zf r.2)]):=Ww func27<|.a<|.bc 1 Zi<|.a<|.i (.bc 1 Zi<|.bc 2 Zqu<|.a<|.e 1 [])
 (.bc 2 Zi<|.bi 3 Ze<|.a<|.bc 1 Zf5<|.a<|.m 1 (λd=>.n [2,4] 3 [.c 2 (Zy d)]) (.a<|.i (.c λf=>.c λg=>.r [(5,.sh f),(9,.sh g)]<|.k)
 (.k)) (λd=>.n<|.a<|.e 1 []))
def Zkr {b:Zc} {c:Int}:KF prog glob 57 f57 [.ptr 0 0,u32 c] [.cells (Zf b)] (Zdj b c) (λr=>u32 r.1) (λr=>[.cells (Zf r.2)]):=Ww func57<|.a<|.bc 7 Zi<|.bi 8 Zi0<|.a<|.a<|.e 1 []
def Zqe {b:Zc} {c:Int}:KF prog glob 54 f54 [.ptr 0 0,u32 c] [.cells (Zf b)] (Zfa b c) (λr=>Zk5 r.1) (λr=>[.cells (Zf r.2)]):=Ww func54<|.a<|.bc 2 Zkr<|.bc 5 Zkr<|.a<|.a<|.e 1 []
def Zxr {b:ByteArray} {f:Int}:KF prog glob 224 f224 [vstr b,u8 f] [] (Zqg b f) (λr=>slc 1 Zai r) (λ_=>[]):=Ww func224<|.a<|.a<|.z (.own 5 1 9)<|.a<|.a<|.p3 [0,1,5,6,7] 1 (λg j o=>[.l 0 Zai g,.s 6 (i64 j),.s 7 (i64 o)]) (λd=>.n [5] 1 [.l 0 Zai d])
 (λy g j o=>.a<|.i (.m 2 (λ(p,q)=>.n [0,1,5,6,7] 1 [.l 0 Zai p,.s 6 (i64 q)]) (.v<|.ge λa0 t=>.gw<|.rc [] [(7,.str t)] []<|.i (.c λw=>.c λx=>.r [(4,.subS (s:=b) w),(6,.app Zai (λ_=>kR) x)]<|.a<|.k)
 (.k)) (λ(p,q)=>.n<|.a<|.x3))
 (.u)) (λd=>.n<|.a<|.e 0 [.of Zai d])
def Zy6:KF prog glob 276 f276 [] [] (Zuk) (λr=>slc 1 Zai r) (λ_=>[]):=Ww func276<|.a<|.a<|.e 0 []
def Zaaj (r:Int):Exit→St→List Blk→Prop:=FnQ prog f225.results 0 λp K=>p=(i64 r)∧K=[]
def Z1c {c:ByteArray}:KF prog glob 225 f225 [vstr c] [] (Zsj c) (λr=>i64 r) (λ_=>[]):=Ww func225<|.a<|.b λf g=>.r [(0,.ca Zy6 g)]<|.a<|.p1 [0,3,4] 0 (λd=>[.s 4 (i64 d)]) (Sum.elim (λ_=>.n [] 0 []) (λr=>.q (Zaaj r)))
 (λj d=>.r [(2,.len Zai f)]<|.i (.bi 2 Zai<|.a<|.i (.a<|.s 0 [] rfl)
 (.a<|.x1))
 (.u)) (fun
 |.inl ()=>(.n<|.a<|.e 0 [])
 |.inr k=>.r λ_ _ h=>h)
def Z8h {c:ByteArray}:KF prog glob 158 f158 [vstr c] [] (Zul c) (λr=>.tup [i64 r.1,i64 r.2]) (λ_=>[]):=Ww func158<|.a<|.b λf g=>.r [(1,.ca Zxr g)]<|.r [(1,.len Zai f)]<|.i (.a<|.e 0 [])
 (.bi 1 Zai<|.bc 3 Z1c<|.bi 8 Zai<|.bc 10 Z1c<|.d [(6,.len Zai f)] 12<|.v<|.rc [] [] []<|.i (.a<|.e 0 [])
 (.a<|.e 0 []))
def Z1d {c:ByteArray}:KF prog glob 277 f277 [vstr c] [] (Zsk c) (λr=>i64 r) (λ_=>[]):=Ww func277<|.a<|.v<|.ge λn f=>.gw<|.v<|.ge λo g=>.gw<|.v<|.ge λp j=>.gw<|.v<|.ge λq k=>.gw<|.rc [] [(5,.str f),(10,.str g),(15,.str j),(20,.str k)] []<|.i (.a<|.e 0 [])
 (.b λs l=>.b λt m=>.d [(1,.str l),(6,.str m)] 10<|.e 0 [])
def Zxs {b:ByteArray}:KF prog glob 226 f226 [vstr b] [] (Zqh b) (λr=>i64 r) (λ_=>[]):=Ww func226<|.a<|.a<|.i (.a<|.e 0 [])
 (.v<|.ge λk f=>.gw<|.rc [] [(5,.str f)] []<|.i (.a<|.e 0 [])
 (.c λg=>.bc 2 Z1d<|.c λj=>.bc 5 Z1d<|.d [(1,.subS (s:=b) g),(4,.subS (s:=b) j)] 7<|.v<|.v<|.v<|.rc [] [] []<|.i (.a<|.e 0 [])
 (.a<|.e 0 [])))
def Z6w {c:ByteArray}:KF prog glob 159 f159 [vstr c] [] (Ztq c) (λr=>.tup [i64 r.1,i64 r.2]) (λ_=>[]):=Ww func159<|.a<|.b λf g=>.r [(1,.ca Zxr g)]<|.r [(1,.len Zai f)]<|.i (.a<|.e 0 [])
 (.bi 1 Zai<|.bc 3 Zxs<|.bi 5 Zai<|.bc 7 Zxs<|.d [] 9<|.v<|.rc [] [] []<|.i (.a<|.e 0 [])
 (.a<|.e 0 []))
def Zwh {b:Ya} {f:Int} {g:Int}:KF prog glob 303 f303 [slc 1 Zb8 b,u64 f,u32 g] [] (Zh5 b f g) (λr=>slc 1 Zb8 r) (λ_=>[]):=Ww func303<|.a<|.a<|.i (.a<|.e 0 [])
 (.a<|.p1 [0,1,7] 0 (λj=>[.s 7 (i64 j)]) (λd=>.n [0,1,7] 0 [.s 7 (i64 d)])
 (λx j=>.v<|.gt λy k=>.gw<|.rc [(2,.len Zb8 b)] [(7,.idx Zb8 k)] []<|.i (.a<|.x1)
 (.u)) (λd=>.n<|.v<|.gt λz l=>.gw<|.rc [(2,.len Zb8 b)] [(7,.idx Zb8 l)] []<|.i (.a<|.e 0 [])
 (.c λo=>.c λp=>.c λq=>.c λt=>.c λw=>.d0 [(0,.m),(3,.slice Zb8 b o),(4,.app Zb8 (λ_=>kR) p),(7,.app Zb8 (λ_=>kR) q),(10,.slice Zb8 b t),(11,.app Zb8 (λ_=>kR) w)] 12 [] [0,4,7,11] []<|.e 0 [.of Zb8 (((([]:Ya)++(List.drop (Int.toNat (0:Int)) (List.take (Int.toNat d) b)))++[f])++(List.drop (Int.toNat d) (List.take (Int.toNat (b.length:Int)) b)))])))
def Zwi {b:Yc} {c:Int}:KF prog glob 278 f278 [slc 2 Zm b,u32 c] [] (Zh6 b c) (λr=>slc 1 Zb8 r) (λ_=>[]):=Ww func278<|.a<|.a<|.a<|.p2 [0,1,5,6] 0 (λf g=>[.s 5 (slc 1 Zb8 f),.s 6 (i64 g)]) (λj=>.n [5] 0 [.s 5 (slc 1 Zb8 j)])
 (λo f g=>.r [(2,.len Zm b)]<|.i (.m 2 (λl=>.n [0,1,5,6] 0 [.s 5 (slc 1 Zb8 l)]) (.bi 2 Zm<|.bi 7 Zm<|.d [] 11<|.i (.bi 3 Zm<|.bc 8 Zwh<|.bi 11 Zm<|.bc 17 Zwh<|.d [] 18<|.k)
 (.k)) (λl=>.n<|.a<|.x2))
 (.u)) (λj=>.n<|.a<|.e 0 [])
def Z2w (r:Bool):Exit→St→List Blk→Prop:=FnQ prog f279.results 0 λp K=>p=(vb r)∧K=[]
def Zrf {b:Yc} {c:Int}:KF prog glob 279 f279 [slc 2 Zm b,u32 c] [] (Zfv b c) (λr=>vb r) (λ_=>[]):=Ww func279<|.a<|.a<|.p1 [0,1,5] 0 (λd=>[.s 5 (i64 d)]) (Sum.elim (λ_=>.n [] 0 []) (λr=>.q (Z2w r)))
 (λg d=>.r [(2,.len Zm b)]<|.i (.bi 2 Zm<|.v<|.gt λj f=>.gw<|.rc [] [(11,.idx Zm f)] []<|.i (.a<|.s 0 [] rfl)
 (.a<|.x1))
 (.u)) (fun
 |.inl ()=>(.n<|.a<|.e 0 [])
 |.inr k=>.r λ_ _ h=>h)
def Zy7 {j:Yc} {o:Yc} {q:Int} {t:Int}:KF prog glob 227 f227 [slc 2 Zm j,slc 2 Zm o,i64 q,u32 t] [] (Zkz j o q t) (λr=>slc 2 Zm r) (λ_=>[]):=Ww func227<|.a<|.c λa7=>.c λa8=>.b λw a9=>.r [(0,.m),(2,.app Zm (λ_=>kR) a7),(4,.app Zm (λ_=>kR) a8),(6,.pre (.share 0) (.cw [.of Zm ((([]:Yc)++j)++o)] Zwi a9))]<|.a<|.z (.own 10 2 73)<|.a<|.p2 [0,1,2,3,9,10,11] 2 (λf x=>[.l 1 Zm f,.s 11 (i64 x)]) (λp=>.n [10] 2 [.l 1 Zm p])
 (λb5 f x=>.r [(2,.len Zb8 w)]<|.i (.m 2 (λa0=>.n [0,1,2,3,9,10,11] 2 [.l 1 Zm a0]) (.a<|.m 1 (λg=>.n [0,1,2,3,9,10,11,12] 2 [.s 12 (u64 g)]) (.r [(3,.len Zb8 w)]<|.i (.bi 3 Zb8<|.a<|.k)
 (.k)) (λg=>.n<|.bi 3 Zb8<|.bc 6 Zrf<|.bi 10 Zb8<|.bc 13 Zrf<|.d [] 15<|.v<|.rc [] [] []<|.m 1 (λa1=>.n [0,1,2,3,9,10,11,12,15] 2 [.s 15 (vb a1)]) (.a<|.a<|.i (.v<|.rc [] [] []<|.k)
 (.a<|.i (.v<|.rc [] [] []<|.k)
 (.a<|.i (.v<|.rc [] [] []<|.k)
 (.k)))) (λa1=>.n<|.a<|.i (.k)
 (.r [(1,.len Zm f)]<|.l λb0 a2=>.b λb1 a3=>.to [0,1,2,3,9,10,11,12,16] [.s 103 (vb b1)] (by
 cases b0
 ·cases a3
  exact .d [(2,.bool a2)] 17
 obtain⟨b6,a4,b2⟩:=bindb (ifT a3 rfl);obtain⟨b7,b3,⟨⟩⟩:=bindb b2
 exact .d [(2,.bool a2),(6,.idx Zm a4),(7,.fdE Zm f (ZI ((f.length:Int)-(1:Int)))),(8,.ldE Zm a4),(13,.idx Zb8 b3)] 17)<|.i (.b λa5 a6=>.r [(5,.idx Zm a6),(6,.fdE Zm f (ZI ((f.length:Int)-(1:Int)))),(7,.stE Zm a6 ({a5 with Hi:=(wrap .u32 g)}:Za))]<|.y (.pick [0,1,2,3,9,10,11])<|.y (.ln 1 (lset f (Int.toNat (ZI ((f.length:Int)-(1:Int)))) ({a5 with Hi:=(wrap .u32 g)}:Za)))<|.k)
 (.bi 3 Zb8<|.c λb4=>.r [(10,.app Zm (λ_=>kR) b4)]<|.k))))) (λa0=>.n<|.a<|.x2))
 (.u)) (λp=>.n<|.a<|.e 0 [.of Zm p])
def Zt0 {b:Yc} {c:Yc}:KF prog glob 160 f160 [slc 2 Zm b,slc 2 Zm c] [] (Zd8 b c) (λr=>slc 2 Zm r) (λ_=>[]):=Ww func160<|.a<|.bc 2 Zy7<|.a<|.e 0 []
def Z6x (r:(Yc×Int)):Exit→St→List Blk→Prop:=FnQ prog f98.results 0 λp K=>p=(.tup [slc 2 Zm r.1,i64 r.2])∧K=[]
def Z6y {d:Yp}:KF prog glob 98 f98 [slc 1 Zai d] [] (Ztr d) (λr=>.tup [slc 2 Zm r.1,i64 r.2]) (λ_=>[]):=Ww func98<|.a<|.v<|.gt λa9 a0=>.gw<|.rc [(1,.len Zai d)] [(5,.idx Zai a0)] []<|.i (.a<|.e 0 [])
 (.r [(1,.len Zai d)]<|.i (.a<|.e 0 [])
 (.a<|.z (.own 4 2 73)<|.a<|.p2 [0,4,5] 1 (λo p=>[.l 0 Zm o,.s 5 (i64 p)]) (Sum.elim (λk=>.n [0,4] 1 [.l 0 Zm k]) (λr=>.q (Z6x r)))
 (λb0 o p=>.r [(2,.len Zai d)]<|.i (.bi 2 Zai<|.bc 4 Z8h<|.a<|.bi 3 Zai<|.bc 5 Z6w<|.a<|.l λa1 f=>.l λa2 g=>.b λa3 m=>.to [0,4,5,6,7,8,9] [.s 67 (vb a3)] (by
 cases a1
 ·cases a2
  ·obtain⟨a4,j,a5⟩:=bindb (ifF m rfl)
   replace j:=someb j
   obtain⟨b1,t,⟨⟩⟩:=bindb a5;cases a4
   ·cases t
    exact .r [(2,.bool f),(6,.bool g),(10,.len Zai d),(12,.bool j)]
   obtain⟨b2,a6,⟨⟩⟩:=bindb (ifT t rfl);exact .r [(2,.bool f),(6,.bool g),(10,.len Zai d),(12,.bool j),(16,.idx Zai a6)]
  cases m;exact .r [(2,.bool f),(6,.bool g)]
 subst g;cases m
 exact .r [(2,.bool f)])<|.i (.a<|.s 0 [] rfl)
 (.a<|.p2 [0,4,5,7,8,9,10] 1 (λw x=>[.l 0 Zm w,.s 10 (i64 x)]) (λy=>.n [0,4,5] 1 [.l 0 Zm y])
 (λb3 w x=>.a<|.i (.c λa7=>.r [(14,.app Zm (λ_=>kR) a7)]<|.a<|.x2)
 (.u)) (λy=>.n<|.a<|.x2)))
 (.u)) (fun
 |.inl k=>(.n<|.r [(1,.len Zai d)]<|.i (.a<|.e 0 [])
 (.z (.share 0)<|.b λb4 a8=>.r [(1,.cw [.of Zm k] Zt0 a8)]<|.e 0 []))
 |.inr b5=>.r λ_ _ h=>h)))
def Zz8 {f:Zc}:KF prog glob 55 f55 [.ptr 0 0] [.cells (Zf f)] (Zpc f) (λr=>slc 2 Zm r.1) (λr=>[.cells (Zf r.2)]):=Ww func55<|.a<|.a<|.a<|.bc 2 Zi<|.bi 3 Zai<|.bc 7 Zi<|.bi 8 Zai<|.d0 [(10,.m)] 11 [] [2,7,8,9,10] []<|.bc 1 Zi<|.a<|.p3 [0,3,4,5,6] 2 (λg j k=>[.l 1 Zai j,.c 0 (Zf g),.s 6 (i64 k)]) (λ(o,d)=>.n [5] 2 [.l 1 Zai d,.c 0 (Zf o)])
 (λt g j k=>.a<|.i (.bc 3 Zi<|.bi 4 Zai<|.bc 8 Zi<|.bi 9 Zai<|.c λp=>.d0 [(12,.app Zai (λ_=>kR) p)] 13 [] [3,8,12] []<|.a<|.x3)
 (.u)) (λ(o,d)=>.n<|.z (.share 1)<|.b λv q=>.r [(1,.cw [.of Zai d] Z6y q)]<|.a<|.e 1 [])
def Zit {c:Zc} {b:Ye}:KF prog glob 99 f99 [.ptr 0 0,slc 2 Zr b] [.cells (Zf c)] (Zdd c b) (λr=>vstr r.1) (λr=>[.cells (Zf r.2)]):=Ww func99<|.a<|.bc 4 Zi<|.r [(2,.len Zr b)]<|.r [(2,.len Zr b)]<|.i (.a<|.e 1 [])
 (.bi 2 Zr<|.a<|.e 1 [])
def Zxe {q:Zc} {f:Zb} {j:Zs}:KF prog glob 56 f56 [.ptr 0 0,Zu f,Zb1 j] [.cells (Zf q)] (Zml q f j) (λr=>Zwe r.1) (λr=>[.cells (Zf r.2)]):=Ww func56<|.a<|.b λa6 a7=>.b λa8 a9=>.b λb0 b1=>.b λt b2=>.to [0,4,5,6] [.c 0 (Zf t.2),.k 4 (.cells (Zav (Zam.mk (decide (a6.1>(0:Int))) a8.1 b0.1 t.1 false ByteArray.empty ByteArray.empty ByteArray.empty ByteArray.empty (0:Int)))),.s 7 (.ptr 4 0)] (by
 exact .g [(1,.ca Zi a7),(6,.ca Zit a9),(10,.ca Zit b1),(14,.ca Zit b2)] 17 (.e 16 1 (.e 16 6 (.e 16 10 (.e 16 14 (.d [] [1,6,10,14,16] []) (.d [0,1,2,3,4,5,6,7,8,9,10,11,12,13,16,14,15] [1,6,10,16,14] [])) (.d [0,1,2,3,4,5,6,7,8,9,11,12,13,16,10,14,15] [1,6,16,10,14] [])) (.d [0,1,2,3,4,5,7,8,9,11,12,13,16,6,10,14,15] [1,16,6,10,14] [])) (.d [0,3,4,5,7,8,9,11,12,13,16,1,2,6,10,14,15] [16,1,6,10,14] [])))<|.m 1 (λ(u,v)=>.n [0,4,5,6,7] 5 [.c 0 (Zf u),.c 4 (Zav v)]) (.bc 1 Zi<|.a<|.i (.bc 3 Zit<|.bc 7 Zit<|.d0 [] 12 [] [3,7,9,11] []<|.k)
 (.k)) (λ(u,v)=>.n<|.m 1 (λ(w,x)=>.n [0,5,6,7] 5 [.c 0 (Zf w),.c 4 (Zav x)]) (.b λb3 b4=>.r [(3,.len Zj f.Devices),(4,.ca Zi b4)]<|.l λb5 o=>.b λb6 y=>.l λz p=>.to [0,4,5,6,7,8] [.c 0 (Zf b6.2),.s 57 (vb (z&&(decide (b3.1<(f.Devices.length:Int)))))] (by
 cases b5
 ·cases y
  subst p;exact .r [(2,.bool o)]
 obtain⟨b9,a0,⟨⟩⟩:=bindb (ifT y rfl);cases z
 ·exact .r [(2,.bool o),(4,.ca Zi a0),(7,.bool p)]
 exact .r [(2,.bool o),(4,.ca Zi a0),(7,.bool p),(11,.len Zj f.Devices)])<|.i (.bi 3 Zj<|.a<|.k)
 (.k)) (λ(w,x)=>.n<|.m 1 (λ(a1,a2)=>.n [0,6,7] 5 [.c 0 (Zf a1),.c 4 (Zav a2)]) (.l λb7 a3=>.b λa4 a5=>.to [0,5,6,7] [.c 0 (Zf a4.2),.s 73 (vb a4.1)] (by
 cases b7
 ·cases a5
  exact .r [(2,.len Za0 j.Windows),(4,.bool a3)]
 obtain⟨c0,b8,⟨⟩⟩:=bindb (ifT a5 rfl)
 exact .r [(2,.len Za0 j.Windows),(4,.bool a3),(6,.ca Zi b8)])<|.i (.bc 6 Zi<|.bi 7 Za0<|.d0 [(5,.len Za0 j.Windows)] 10 [] [6] []<|.k)
 (.k)) (λ(a1,a2)=>.n<|.bc 2 Zi<|.bi 3 Ze<|.a<|.a<|.e 1 [])))
def Zz9 {b0:Zc} {d:Zb} {b1:Int}:KF prog glob 31 f31 [.ptr 0 0,Zu d,i64 b1] [.cells (Zf b0)] (Zj6 b0 d b1) (λr=>Zb1 r.1) (λr=>[.cells (Zf r.2)]):=Ww func31<|.a<|.r [(0,.m)]<|.z (.gst (.ownF 3 0 2 137))<|.z (.gst (.ownF 3 1 2 137))<|.z (.gst (.ownF 3 2 2 144))<|.z (.gst (.ownF 3 3 10 146))<|.z (.gst (.ownF 3 4 6 150))<|.z (.gst (.ownF 3 5 5 152))<|.bc 1 Zi<|.a<|.p3 [0,2,4,6,7,8] 10 (λb2 g b3=>[.l 4 Zr g,.c 0 (Zf b2),.s 8 (i64 b3)]) (λ(b4,b5)=>.n [0,2,4,6,7] 10 [.l 4 Zr b5,.c 0 (Zf b4)])
 (λi8 b2 g b3=>.a<|.i (.bi 4 Zai<|.r [(2,.q),(3,.len Zr g),(6,.m),(7,.m),(8,.m)]<|.w (.gst (.ownF 10 1 7 139))<|.bc 1 Zi<|.a<|.p4 [0,2,4,6,7,8,9,10] 12 (λb6 b7 b8 b9=>[.l 11 Z4 b8,.c 0 (Zf b6),.f 10 0 (.sc (.string b7)),.s 10 (i64 b9)]) (λ(c0,a8,o)=>.n [0,2,4,6,7,8,9] 12 [.l 11 Z4 o,.c 0 (Zf c0),.f 10 0 (.sc (.string a8))])
 (λi9 b6 b7 b8 b9=>.a<|.i (.m 2 (λ(c1,c2)=>.n [0,2,4,6,7,8,9,10] 12 [.l 11 Z4 c2,.c 0 (Zf c1)]) (.bc 1 Zpv<|.a<|.m 1 (λ(c3,c4)=>.n [0,2,4,6,7,8,9,10,11] 13 [.c 0 (Zf c3),.c 12 (Z4 c4)]) (.bc 4 Zi<|.r [(3,.len Zk d.Edges)]<|.l λh0 c5=>.b λc6 c7=>.to [0,2,4,6,7,8,9,10,11,12] [.c 0 (Zf c6.2),.s 58 (vb c6.1)] (by
 cases h0
 ·cases c7
  exact .r [(2,.len Zk d.Edges),(4,.bool c5)]
 obtain⟨j0,h1,⟨⟩⟩:=bindb (ifT c7 rfl)
 exact .r [(2,.len Zk d.Edges),(4,.bool c5),(6,.ca Zi h1)])<|.i (.bi 3 Zk<|.a<|.k)
 (.k)) (λ(c3,c4)=>.n<|.m 1 (λ(c8,c9)=>.n [0,2,4,6,7,8,9,10,11] 13 [.c 0 (Zf c8),.c 12 (Z4 c9)]) (.l λh2 d1=>.b λd2 d3=>.to [0,2,4,6,7,8,9,10,11] [.c 0 (Zf d2.2),.s 74 (vb d2.1)] (by
 cases h2
 ·cases d3
  exact .r [(1,.q),(2,.len Zr g),(4,.bool d1)]
 obtain⟨j1,h3,⟨⟩⟩:=bindb (ifT d3 rfl)
 exact .r [(1,.q),(2,.len Zr g),(4,.bool d1),(6,.ca Zi h3)])<|.i (.b λj2 d4=>.r [(1,.q),(2,.idx Zr d4),(3,.fdE Zr g (0:Int)),(4,.ldE Zr d4)]<|.k)
 (.k)) (λ(c8,c9)=>.n<|.c λh4=>.r [(1,.q),(4,.app Z4 (λ_=>kR) h4),(6,.m)]<|.k))) (λ(c1,c2)=>.n<|.a<|.x4))
 (.u)) (λ(c0,a8,o)=>.n<|.w (.share 11)<|.c λh5=>.r [(1,.q),(2,.wkP (Zr (Zl.mk a8 o)) [.of Z4 o] .q),(4,.app Zr (λ_=>kR) h5),(6,.m)]<|.a<|.x3))
 (.u)) (λ(b4,b5)=>.n<|.bc 1 Zi<|.a<|.p3 [0,2,4,6,7,13] 10 (λd5 j d6=>[.l 5 Zr j,.c 0 (Zf d5),.s 13 (i64 d6)]) (λ(d7,d8)=>.n [0,2,4,6,7] 10 [.l 5 Zr d8,.c 0 (Zf d7)])
 (λj3 d5 j d6=>.a<|.i (.bi 4 Zai<|.r [(2,.q),(3,.len Zr j),(6,.m),(7,.m),(8,.m)]<|.w (.gst (.ownF 10 1 7 139))<|.bc 1 Zi<|.a<|.p4 [0,2,4,6,7,13,14,15] 12 (λd9 e0 e1 e2=>[.l 11 Z4 e1,.c 0 (Zf d9),.f 10 0 (.sc (.string e0)),.s 15 (i64 e2)]) (λ(e3,a9,p)=>.n [0,2,4,6,7,13,14] 12 [.l 11 Z4 p,.c 0 (Zf e3),.f 10 0 (.sc (.string a9))])
 (λj4 d9 e0 e1 e2=>.a<|.i (.m 2 (λ(e4,e5)=>.n [0,2,4,6,7,13,14,15] 12 [.l 11 Z4 e5,.c 0 (Zf e4)]) (.bc 2 Zi<|.bi 3 Ze<|.a<|.m 1 (λ(e6,e7)=>.n [0,2,4,6,7,13,14,15,16] 13 [.c 0 (Zf e6),.c 12 (Z4 e7)]) (.a<|.a<|.i (.a<|.k)
 (.m 1 (λe8=>.n [0,2,4,6,7,13,14,15,16] 13 [.s 125 (vb e8)]) (.a<|.i (.k)
 (.a<|.k)) (λe8=>.n<|.i (.bc 1 Zqe<|.a<|.k)
 (.k)))) (λ(e6,e7)=>.n<|.m 1 (λ(e9,f0)=>.n [0,2,4,6,7,13,14,15,16] 13 [.c 0 (Zf e9),.c 12 (Z4 f0)]) (.l λh6 f1=>.b λf2 f3=>.to [0,2,4,6,7,13,14,15,16] [.c 0 (Zf f2.2),.s 139 (vb f2.1)] (by
 cases h6
 ·cases f3
  exact .r [(1,.q),(2,.len Zr j),(4,.bool f1)]
 obtain⟨j5,h7,⟨⟩⟩:=bindb (ifT f3 rfl)
 exact .r [(1,.q),(2,.len Zr j),(4,.bool f1),(6,.ca Zi h7)])<|.i (.b λj6 f4=>.r [(1,.q),(2,.idx Zr f4),(3,.fdE Zr j (0:Int)),(4,.ldE Zr f4)]<|.k)
 (.k)) (λ(e9,f0)=>.n<|.c λh8=>.r [(1,.q),(4,.app Z4 (λ_=>kR) h8),(6,.m)]<|.k))) (λ(e4,e5)=>.n<|.a<|.x4))
 (.u)) (λ(e3,a9,p)=>.n<|.w (.share 11)<|.c λh9=>.r [(1,.q),(2,.wkP (Zr (Zl.mk a9 p)) [.of Z4 p] .q),(4,.app Zr (λ_=>kR) h9),(6,.m)]<|.a<|.x3))
 (.u)) (λ(d7,d8)=>.n<|.m 1 (λ(f5,f6)=>.n [0,2,4,6,7] 10 [.l 6 Za0 f6,.c 0 (Zf f5)]) (.bc 1 Zi<|.a<|.i (.bc 3 Zz8<|.c λi0=>.d0 [(1,.q),(6,.app Za0 (λ_=>kR) i0),(8,.m)] 7 [] [3,6] []<|.k)
 (.k)) (λ(f5,f6)=>.n<|.bc 3 Zi<|.a<|.z (.share 4)<|.z (.share 5)<|.z (.share 6)<|.z (.share 7)<|.z (.share 8)<|.z (.share 9)<|.p8 [0,4,6,7,17] 10 (λf7 t v x y a0 a1 f8=>[.l 4 Zr t,.l 5 Zr v,.l 6 Za0 x,.l 7 Zav y,.l 8 Zay a0,.l 9 Za1 a1,.c 0 (Zf f7),.s 17 (i64 f8)]) (λ(f9,a2,a3,a4,a5,g0,g1)=>.n [0,4,6,7] 10 [.l 4 Zr a2,.l 5 Zr a3,.l 6 Za0 a4,.l 7 Zav a5,.l 8 Zay g0,.l 9 Za1 g1,.c 0 (Zf f9)])
 (λj7 f7 t v x y a0 a1 f8=>.a<|.i (.bc 5 Zxe<|.c λi1=>.d0 [(1,.q),(4,.wkP (Zuj (Zs.mk t v x y a0 a1)) [.of Zr t,.of Zr v,.of Za0 x,.of Zav y,.of Zay a0,.of Za1 a1] .q),(7,.app Zav (λ_=>kR) i1),(9,.m)] 8 [] [5,7] []<|.a<|.x8)
 (.u)) (λ(f9,a2,a3,a4,a5,g0,g1)=>.n<|.m 1 (λ(g2,a6)=>.n [0,4,6,7] 10 [.l 8 Zay a6,.c 0 (Zf g2)]) (.l λi2 g3=>.b λg4 g5=>.to [0,4,6,7] [.c 0 (Zf g4.2),.s 194 (vb g4.1)] (by
 cases i2
 ·cases g5
  exact .r [(2,.len Zk d.Edges),(4,.bool g3)]
 obtain⟨j8,i3,⟨⟩⟩:=bindb (ifT g5 rfl)
 exact .r [(2,.len Zk d.Edges),(4,.bool g3),(6,.ca Zi i3)])<|.i (.bi 2 Zk<|.bc 5 Zep<|.a<|.bc 4 Zi<|.bi 5 Ze<|.bc 8 Zkr<|.bi 12 Zk<|.bc 18 Zkr<|.c λi4=>.d0 [(1,.q),(22,.app Zay (λ_=>kR) i4),(24,.m)] 23 [] [4,8,18,22] []<|.k)
 (.k)) (λ(g2,a6)=>.n<|.m 1 (λ(g6,a7)=>.n [6,7] 10 [.l 9 Za1 a7,.c 0 (Zf g6)]) (.l λi5 g7=>.b λg8 g9=>.to [0,4,6,7] [.c 0 (Zf g8.2),.s 236 (vb g8.1)] (by
 cases i5
 ·cases g9
  exact .r [(2,.len Zk d.Edges),(4,.bool g7)]
 obtain⟨j9,i6,⟨⟩⟩:=bindb (ifT g9 rfl)
 exact .r [(2,.len Zk d.Edges),(4,.bool g7),(6,.ca Zi i6)])<|.i (.bc 4 Zi<|.r [(3,.len Zk d.Edges)]<|.bi 5 Zk<|.bc 9 Zi<|.c λi7=>.d0 [(1,.q),(15,.app Za1 (λ_=>kR) i7),(17,.m)] 16 [] [9,15] []<|.k)
 (.k)) (λ(g6,a7)=>.n<|.r [(0,.wkP (Zuj (Zs.mk a2 a3 a4 a5 a6 a7)) [.of Zr a2,.of Zr a3,.of Za0 a4,.of Zav a5,.of Zay a6,.of Za1 a7] .q)]<|.e 1 []))))))
def Z0a {b:Zc}:KF prog glob 32 f32 [.ptr 0 0] [.cells (Zf b)] (Zpd b) (λr=>i64 r.1) (λr=>[.cells (Zf r.2)]):=Ww func32<|.a<|.bc 1 Zi<|.bc 5 Zi<|.bi 6 Ze<|.a<|.e 1 []
def Z37 {b:Zc} {c:Int} {d:Int}:KF prog glob 11 f11 [.ptr 0 0,i64 c,i64 d] [.cells (Zf b)] (Zr5 b c d) (λr=>.tup [Zu r.1,Zb1 r.2.1,i64 r.2.2.1]) (λr=>[.cells (Zf r.2.2.2)]):=Ww func11<|.a<|.bc 2 Zym<|.a<|.bc 4 Zz9<|.bc 6 Z0a<|.d0 [] 9 [] [4,6,7,8] []<|.e 1 []
def Zy8 {g:Zc} {b:Zb}:KF prog glob 13 f13 [.ptr 0 0,Zu b] [.cells (Zf g)] (Zos g b) (λr=>Zax r.1) (λr=>[.cells (Zf r.2)]):=Ww func13<|.a<|.r [(0,.m)]<|.z (.gst (.ownF 3 0 1 3))<|.z (.gst (.ownF 3 1 1 3))<|.a<|.p3 [0,3,4,5,6] 6 (λj o p=>[.l 4 Ze o,.c 0 (Zf j),.s 6 (i64 p)]) (λ(t,d)=>.n [0,3,4,5] 6 [.l 4 Ze d,.c 0 (Zf t)])
 (λa6 j o p=>.r [(3,.len Zx b.Links)]<|.i (.m 2 (λ(v,w)=>.n [0,3,4,5,6] 6 [.l 4 Ze w,.c 0 (Zf v)]) (.bc 1 Zi<|.a<|.i (.c λa4=>.r [(1,.q),(4,.app Ze (λ_=>kR) a4),(6,.m)]<|.k)
 (.k)) (λ(v,w)=>.n<|.a<|.x3))
 (.u)) (λ(t,d)=>.n<|.a<|.p3 [0,3,4,5,7] 6 (λx y a0=>[.l 5 Ze y,.c 0 (Zf x),.s 7 (i64 a0)]) (λ(a1,f)=>.n [4,5] 6 [.l 5 Ze f,.c 0 (Zf a1)])
 (λa7 x y a0=>.r [(3,.len Zj b.Devices)]<|.i (.m 2 (λ(a2,a3)=>.n [0,3,4,5,7] 6 [.l 5 Ze a3,.c 0 (Zf a2)]) (.bc 1 Zi<|.a<|.i (.c λa5=>.r [(1,.q),(4,.app Ze (λ_=>kR) a5),(6,.m)]<|.k)
 (.k)) (λ(a2,a3)=>.n<|.a<|.x3))
 (.u)) (λ(a1,f)=>.n<|.z (.share 4)<|.z (.share 5)<|.r [(0,.wkP (Zbb (Zp.mk d f)) [.of Ze d,.of Ze f] .q)]<|.e 1 []))
def Z0b (r:Bool):Exit→St→List Blk→Prop:=FnQ prog f109.results 0 λp K=>p=(vb r)∧K=[]
def Zae {c:ByteArray}:KF prog glob 109 f109 [vstr c] [] (Zac c) (λr=>vb r) (λ_=>[]):=Ww func109<|.a<|.v<|.v<|.rc [] [] []<|.i (.a<|.e 0 [])
 (.a<|.p1 [0,3] 0 (λd=>[.s 3 (i64 d)]) (Sum.elim (λ_=>.n [] 0 []) (λr=>.q (Z0b r)))
 (λp d=>.a<|.i (.b λt f=>.v<|.gt λw g=>.gw<|.rc [(2,.str f)] [(7,.str g)] []<|.b λx j=>.v<|.gt λy k=>.gw<|.v<|.ge λz l=>.gw<|.v<|.ge λa0 m=>.gw<|.rc [(2,.str j)] [(7,.str k),(13,.str l),(19,.str m)] []<|.v<|.gl λa1 o=>.gw<|.rc [(5,.bool o)] [] []<|.i (.a<|.s 0 [] rfl)
 (.a<|.x1))
 (.u)) (fun
 |.inl ()=>(.n<|.a<|.e 0 [])
 |.inr a2=>.r λ_ _ h=>h))
def Z38 (r:Int):Exit→St→List Blk→Prop:=FnQ prog f163.results 0 λp K=>p=(i64 r)∧K=[]
def Zj1 {b:Zb} {c:ByteArray}:KF prog glob 163 f163 [Zu b,vstr c] [] (Ze0 b c) (λr=>i64 r) (λ_=>[]):=Ww func163<|.a<|.a<|.p1 [1,2,5] 1 (λd=>[.s 5 (i64 d)]) (Sum.elim (λ_=>.n [] 1 []) (λr=>.q (Z38 r)))
 (λf d=>.r [(3,.len Zj b.Devices)]<|.i (.bi 3 Zj<|.a<|.i (.a<|.s 0 [] rfl)
 (.a<|.x1))
 (.u)) (fun
 |.inl ()=>(.n<|.a<|.e 0 [])
 |.inr g=>.r λ_ _ h=>h)
def Zxf (r:Bool):Exit→St→List Blk→Prop:=FnQ prog f110.results 0 λp K=>p=(vb r)∧K=[]
def Zxg {m:Ys}:KF prog glob 110 f110 [slc 5 Zj m] [] (Zcr m) (λr=>vb r) (λ_=>[]):=Ww func110<|.a<|.v<|.rc [(1,.len Zj m),(5,.len Zj m)] [] []<|.i (.a<|.e 0 [])
 (.a<|.p1 [0,3] 0 (λa2=>[.s 3 (i64 a2)]) (Sum.elim (λ_=>.n [] 0 []) (λr=>.q (Zxf r)))
 (λb6 a2=>.r [(2,.len Zj m)]<|.i (.b λb7 c=>.b λb8 d=>.l λa6 f=>.b λb9 a3=>.l λa7 g=>.b λc0 z=>.l λa8 j=>.b λc1 w=>.l λa9 k=>.b λb0 o=>.to [0,3] [.s 69 (vb b0)] (by
 cases a6
 ·obtain⟨c2,p,b1⟩:=bindb (ifF a3 rfl)
  obtain⟨c3,t,⟨⟩⟩:=bindb b1;cases a7
  ·obtain⟨c4,x,⟨⟩⟩:=bindb (ifF z rfl)
   cases a8
   ·obtain⟨c5,a0,⟨⟩⟩:=bindb (ifF w rfl)
    cases a9
    ·obtain⟨c6,a4,a1⟩:=bindb (ifF o rfl)
     obtain⟨b2,y,a1⟩:=bindb a1
     replace y:=someb y
     obtain⟨c7,a5,⟨⟩⟩:=bindb a1;cases b2
     ·cases a5
      exact .r [(2,.idx Zj c),(5,.ca Zae d),(7,.bool f),(12,.idx Zj p),(15,.ca Zj1 t),(19,.bool g),(22,.idx Zj x),(27,.bool j),(30,.idx Zj a0),(35,.bool k),(38,.idx Zj a4),(42,.bool y)]
     obtain⟨c8,b3,b4⟩:=bindb (ifT a5 rfl);obtain⟨c9,b5,⟨⟩⟩:=bindb b4;exact .r [(2,.idx Zj c),(5,.ca Zae d),(7,.bool f),(12,.idx Zj p),(15,.ca Zj1 t),(19,.bool g),(22,.idx Zj x),(27,.bool j),(30,.idx Zj a0),(35,.bool k),(38,.idx Zj a4),(42,.bool y),(45,.idx Zj b3),(48,.ca Zae b5)]
    cases o;exact .r [(2,.idx Zj c),(5,.ca Zae d),(7,.bool f),(12,.idx Zj p),(15,.ca Zj1 t),(19,.bool g),(22,.idx Zj x),(27,.bool j),(30,.idx Zj a0),(35,.bool k)]
   cases w;subst k;cases o;exact .r [(2,.idx Zj c),(5,.ca Zae d),(7,.bool f),(12,.idx Zj p),(15,.ca Zj1 t),(19,.bool g),(22,.idx Zj x),(27,.bool j)]
  cases z;subst j;cases w;subst k;cases o;exact .r [(2,.idx Zj c),(5,.ca Zae d),(7,.bool f),(12,.idx Zj p),(15,.ca Zj1 t),(19,.bool g)]
 cases a3;subst g;cases z;subst j;cases w;subst k;cases o
 exact .r [(2,.idx Zj c),(5,.ca Zae d),(7,.bool f)])<|.i (.a<|.s 0 [] rfl)
 (.a<|.x1))
 (.u)) (fun
 |.inl ()=>(.n<|.a<|.e 0 [])
 |.inr d0=>.r λ_ _ h=>h))
def Zt1 {b:Z2} {c:Int}:KF prog glob 111 f111 [Znu b,i64 c] [] (Zdk b c) (λr=>vb r) (λ_=>[]):=Ww func111<|.a<|.bc 2 Zae<|.v<|.ge λg d=>.gw<|.v<|.v<|.v<|.rc [] [(7,.ca Zae d)] []<|.i (.a<|.e 0 [])
 (.bc 2 Ze9<|.v<|.gl λj f=>.gw<|.rc [(7,.bool f)] [] []<|.e 0 [])
def Z6z (r:Int):Exit→St→List Blk→Prop:=FnQ prog f112.results 0 λp K=>p=(i64 r)∧K=[]
def Zjn {b:Zb} {c:ByteArray}:KF prog glob 112 f112 [Zu b,vstr c] [] (Zcg b c) (λr=>i64 r) (λ_=>[]):=Ww func112<|.a<|.a<|.p1 [1,2,5] 1 (λd=>[.s 5 (i64 d)]) (Sum.elim (λ_=>.n [] 1 []) (λr=>.q (Z6z r)))
 (λf d=>.r [(3,.len Zk b.Edges)]<|.i (.bi 3 Zk<|.a<|.i (.a<|.s 0 [] rfl)
 (.a<|.x1))
 (.u)) (fun
 |.inl ()=>(.n<|.a<|.e 0 [])
 |.inr g=>.r λ_ _ h=>h)
def Zwj {b:Zb}:KF prog glob 100 f100 [Zu b] [] (Zdl b) (λr=>slc 2 Zy r) (λ_=>[]):=Ww func100<|.a<|.a<|.z (.own 3 2 70)<|.a<|.p2 [1,3,4] 2 (λf g=>[.l 1 Zy f,.s 4 (i64 g)]) (λd=>.n [3] 2 [.l 1 Zy d])
 (λp f g=>.r [(3,.len Zk b.Edges)]<|.i (.m 2 (λj=>.n [1,3,4] 2 [.l 1 Zy j]) (.bi 3 Zk<|.a<|.i (.bi 4 Zk<|.c λo=>.r [(8,.app Zy (λ_=>kR) o)]<|.k)
 (.k)) (λj=>.n<|.a<|.x2))
 (.u)) (λd=>.n<|.a<|.e 0 [.of Zy d])
def Zdg {b:Zn} {c:Int}:KF prog glob 88 f88 [Za6 b,u32 c] [] (Zb2 b c) (λr=>vb r) (λ_=>[]):=Ww func88<|.a<|.bc 1 Zep<|.a<|.v<|.v<|.rc [] [] []<|.e 0 []
def Zwk {b:Zn} {c:Zn}:KF prog glob 228 f228 [Za6 b,Za6 c] [] (Zh7 b c) (λr=>vb r) (λ_=>[]):=Ww func228<|.a<|.bc 1 Zep<|.a<|.v<|.gt λg d=>.gw<|.v<|.gt λi f=>.gw<|.rc [] [(5,.ca Zdg d),(11,.ca Zdg f)] []<|.e 0 []
def Z8i {b:Zn} {c:Zn}:KF prog glob 164 f164 [Za6 b,Za6 c] [] (Zk0 b c) (λr=>vb r) (λ_=>[]):=Ww func164<|.a<|.bc 2 Zwk<|.v<|.ge λf d=>.gw<|.rc [] [(6,.ca Zwk d)] []<|.e 0 []
def Z5m (r:Bool):Exit→St→List Blk→Prop:=FnQ prog f113.results 0 λp K=>p=(vb r)∧K=[]
def Zwl {c:Zn} {b:Yl}:KF prog glob 113 f113 [Za6 c,slc 2 Zy b] [] (Zh8 c b) (λr=>vb r) (λ_=>[]):=Ww func113<|.a<|.a<|.p1 [1,2,5] 1 (λf=>[.s 5 (i64 f)]) (Sum.elim (λ_=>.n [] 1 []) (λr=>.q (Z5m r)))
 (λg f=>.r [(2,.len Zy b)]<|.i (.bi 3 Zy<|.bc 5 Z8i<|.d [] 6<|.i (.a<|.s 0 [] rfl)
 (.a<|.x1))
 (.u)) (fun
 |.inl ()=>(.n<|.a<|.e 0 [])
 |.inr j=>.r λ_ _ h=>h)
def Zpw (r:Bool):Exit→St→List Blk→Prop:=FnQ prog f61.results 0 λp K=>p=(vb r)∧K=[]
def Zpx {f:Zb}:KF prog glob 61 f61 [Zu f] [] (Zc3 f) (λr=>vb r) (λ_=>[]):=Ww func61<|.a<|.bc 2 Zxg<|.v<|.v<|.v<|.v<|.v<|.rc [(7,.len Zx f.Links),(13,.len Zk f.Edges),(19,.len Zy f.Pools)] [] []<|.i (.a<|.e 0 [])
 (.a<|.p1 [1,3] 1 (λj=>[.s 3 (i64 j)]) (Sum.elim (λ_=>.n [1] 1 []) (λr=>.q (Zpw r)))
 (λb5 j=>.r [(3,.len Zx f.Links)]<|.i (.bi 3 Zx<|.a<|.v<|.v<|.v<|.v<|.rc [(15,.len Zj f.Devices)] [] []<|.i (.a<|.s 0 [] rfl)
 (.a<|.x1))
 (.u)) (fun
 |.inl ()=>(.n<|.a<|.p1 [1,5] 1 (λk=>[.s 5 (i64 k)]) (Sum.elim (λ_=>.n [1] 1 []) (λr=>.q (Zpw r)))
 (λb6 k=>.r [(3,.len Zk f.Edges)]<|.i (.b λb7 m=>.b λb8 o=>.l λa3 p=>.b λa4 t=>.to [1,5] [.s 109 (vb a4)] (by
 cases a3
 ·obtain⟨b9,a5,a6⟩:=bindb (ifF t rfl)
  obtain⟨c0,a7,⟨⟩⟩:=bindb a6;exact .d [(3,.idx Zk m),(7,.len Zj f.Devices),(8,.ca Zt1 o),(10,.bool p),(15,.idx Zk a5),(18,.ca Zjn a7)] 22
 cases t
 exact .d [(3,.idx Zk m),(7,.len Zj f.Devices),(8,.ca Zt1 o),(10,.bool p)] 22)<|.i (.a<|.s 0 [] rfl)
 (.a<|.x1))
 (.u)) (fun
 |.inl ()=>(.n<|.b λw a8=>.r [(1,.ca Zwj a8)]<|.a<|.p1 [1,6,7] 1 (λx=>[.s 7 (i64 x)]) (Sum.elim (λ_=>.n [1] 1 []) (λr=>.q (Zpw r)))
 (λc1 x=>.r [(2,.len Zy w)]<|.i (.bi 2 Zy<|.c λa9=>.bc 7 Zwl<|.d [(6,.slice Zy w a9)] 8<|.i (.a<|.s 0 [] rfl)
 (.a<|.x1))
 (.u)) (fun
 |.inl ()=>(.n<|.a<|.p1 [1,8] 1 (λy=>[.s 8 (i64 y)]) (Sum.elim (λ_=>.n [] 1 []) (λr=>.q (Zpw r)))
 (λc2 y=>.r [(3,.len Zy f.Pools)]<|.i (.b λc3 z=>.b λc4 a0=>.l λb0 a1=>.b λb1 a2=>.to [1,8] [.s 151 (vb b1)] (by
 cases b0
 ·obtain⟨c5,b2,g⟩:=bindb (ifF a2 rfl)
  obtain⟨b3,g⟩:=chkb g;obtain⟨c6,b4,⟨⟩⟩:=bindb g;exact .d [(3,.idx Zy z),(5,.ca Ze9 a0),(7,.bool a1),(11,.idx Zy b2),(16,.slice Zy f.Pools b3),(17,.ca Zwl b4)] 19
 cases a2
 exact .d [(3,.idx Zy z),(5,.ca Ze9 a0),(7,.bool a1)] 19)<|.i (.a<|.s 0 [] rfl)
 (.a<|.x1))
 (.u)) (fun
 |.inl ()=>(.n<|.a<|.e 0 [])
 |.inr c7=>.r λ_ _ h=>h))
 |.inr c8=>.r λ_ _ h=>h))
 |.inr c9=>.r λ_ _ h=>h))
 |.inr d0=>.r λ_ _ h=>h))
def Zca {c:Zb}:KF prog glob 58 f58 [Zu c] [] (Zaz c) (λr=>vb r) (λ_=>[]):=Ww func58<|.a<|.b λo f=>.l λj g=>.b λk i=>.to [] [.s 2 (vb k)] (by
 cases j
 ·cases i
  exact .d [(1,.ca Zpx f),(2,.bool g)] 11
 obtain⟨m,n,⟨⟩⟩:=bindb (ifT i rfl)
 exact .d [(1,.ca Zpx f),(2,.bool g),(4,.ca Zwj n),(5,.len Zy m),(8,.len Zk c.Edges)] 11)<|.e 0 []
def Z60 (r:Int):Exit→St→List Blk→Prop:=FnQ prog f229.results 0 λp K=>p=(i64 r)∧K=[]
def Zjo {b:Ye} {c:ByteArray}:KF prog glob 229 f229 [slc 2 Zr b,vstr c] [] (Zc0 b c) (λr=>i64 r) (λ_=>[]):=Ww func229<|.a<|.a<|.p1 [0,1,5] 0 (λd=>[.s 5 (i64 d)]) (Sum.elim (λ_=>.n [] 0 []) (λr=>.q (Z60 r)))
 (λf d=>.r [(2,.len Zr b)]<|.i (.bi 2 Zr<|.a<|.i (.a<|.s 0 [] rfl)
 (.a<|.x1))
 (.u)) (fun
 |.inl ()=>(.n<|.a<|.e 0 [])
 |.inr g=>.r λ_ _ h=>h)
def Zwm {b:Za} {c:Int}:KF prog glob 171 f171 [Zk5 b,u32 c] [] (Zk8 b c) (λr=>vb r) (λ_=>[]):=Ww func171<|.a<|.v<|.v<|.rc [] [] []<|.e 0 []
def Z0c (r:Bool):Exit→St→List Blk→Prop:=FnQ prog f230.results 0 λp K=>p=(vb r)∧K=[]
def Z0d {b:Z0} {c:Bool}:KF prog glob 230 f230 [Z40 b,vb c] [] (Zj7 b c) (λr=>vb r) (λ_=>[]):=Ww func230<|.a<|.a<|.a<|.i (.bc 2 Zae<|.v<|.rc [] [] []<|.e 0 [])
 (.a<|.i (.v<|.gt λj f=>.gw<|.v<|.rc [] [(4,.ca Zae f)] []<|.e 0 [])
 (.a<|.i (.v<|.gt λl g=>.gw<|.v<|.rc [] [(4,.ca Ze9 g)] []<|.e 0 [])
 (.a<|.i (.v<|.v<|.v<|.rc [] [] []<|.i (.a<|.e 0 [])
 (.m 2 (Sum.elim (λ_=>.n [2] 1 []) (λr=>.q (Z0c r))) (.a<|.m 2 (λd=>.n [2,80] 1 [.s 81 (vb d)]) (.a<|.i (.k)
 (.a<|.k)) (λd=>.n<|.i (.bc 2 Zwm<|.a<|.q 0 [] rfl)
 (.a<|.i (.a<|.q 0 [] rfl)
 (.k)))) (fun
 |.inl ()=>(.n<|.a<|.e 0 [])
 |.inr o=>.r λ_ _ h=>h)))
 (.a<|.e 0 []))))
def Zo6 (r:Bool):Exit→St→List Blk→Prop:=FnQ prog f166.results 0 λp K=>p=(vb r)∧K=[]
def Zo7 {c:Ye} {d:Bool}:KF prog glob 166 f166 [slc 2 Zr c,vb d] [] (Zdf c d) (λr=>vb r) (λ_=>[]):=Ww func166<|.a<|.r [(1,.len Zr c)]<|.i (.a<|.e 0 [])
 (.a<|.p1 [0,1,5] 0 (λf=>[.s 5 (i64 f)]) (Sum.elim (λ_=>.n [] 0 []) (λr=>.q (Zo6 r)))
 (λx f=>.r [(2,.len Zr c)]<|.i (.bi 2 Zr<|.bc 5 Zae<|.v<|.ge λy j=>.ge λz k=>.gw<|.v<|.ge λl m=>.gw<|.v<|.ge λo p=>.gw<|.rc [(24,.len Z4 l.Items),(33,.len Z4 o.Items)] [(11,.idx Zr j),(14,.ca Zjo k),(21,.idx Zr m),(30,.idx Zr p)] []<|.i (.a<|.s 0 [] rfl)
 (.a<|.p1 [0,1,5,6] 0 (λg=>[.s 6 (i64 g)]) (Sum.elim (λ_=>.n [0,1,5] 0 []) (λr=>.q (Zo6 r)))
 (λa0 g=>.b λt w=>.r [(3,.idx Zr w),(6,.len Z4 t.Items)]<|.i (.bi 2 Zr<|.bi 6 Z4<|.bc 9 Z0d<|.a<|.i (.a<|.s 0 [] rfl)
 (.a<|.x1))
 (.u)) (fun
 |.inl ()=>(.n<|.a<|.x1)
 |.inr a1=>.r λ_ _ h=>Wbq ⟨rfl,h⟩)))
 (.u)) (fun
 |.inl ()=>(.n<|.a<|.e 0 [])
 |.inr a2=>.r λ_ _ h=>h))
def Zy9 (r:Int):Exit→St→List Blk→Prop:=FnQ prog f167.results 0 λp K=>p=(i64 r)∧K=[]
def Zf6 {b:Yt} {c:ByteArray}:KF prog glob 167 f167 [slc 2 Za0 b,vstr c] [] (Zef b c) (λr=>i64 r) (λ_=>[]):=Ww func167<|.a<|.a<|.p1 [0,1,5] 0 (λd=>[.s 5 (i64 d)]) (Sum.elim (λ_=>.n [] 0 []) (λr=>.q (Zy9 r)))
 (λf d=>.r [(2,.len Za0 b)]<|.i (.bi 2 Za0<|.a<|.i (.a<|.s 0 [] rfl)
 (.a<|.x1))
 (.u)) (fun
 |.inl ()=>(.n<|.a<|.e 0 [])
 |.inr g=>.r λ_ _ h=>h)
def Z61 (r:Bool):Exit→St→List Blk→Prop:=FnQ prog f280.results 0 λp K=>p=(vb r)∧K=[]
def Z62 {m:Yc} {t:Int}:KF prog glob 280 f280 [slc 2 Zm m,u32 t] [] (Zqi m t) (λr=>vb r) (λ_=>[]):=Ww func280<|.a<|.a<|.p1 [0,1,5] 0 (λv=>[.s 5 (i64 v)]) (Sum.elim (λ_=>.n [] 0 []) (λr=>.q (Z61 r)))
 (λa6 v=>.r [(2,.len Zm m)]<|.i (.b λa7 c=>.b λa8 f=>.l λy g=>.b λa9 w=>.l λz j=>.b λa0 o=>.to [0,1,5] [.s 52 (vb a0)] (by
 cases y
 ·obtain⟨b0,p,⟨⟩⟩:=bindb (ifF w rfl)
  cases z
  ·obtain⟨a1,k,a2⟩:=bindb (ifF o rfl)
   replace k:=someb k
   obtain⟨b1,x,⟨⟩⟩:=bindb a2;cases a1
   ·cases x
    exact .d [(2,.idx Zm c),(7,.idx Zm f),(11,.bool g),(14,.idx Zm p),(20,.bool j),(23,.bool k)] 41
   obtain⟨b2,a3,a4⟩:=bindb (ifT x rfl);obtain⟨b3,a5,⟨⟩⟩:=bindb a4;exact .d [(2,.idx Zm c),(7,.idx Zm f),(11,.bool g),(14,.idx Zm p),(20,.bool j),(23,.bool k),(26,.idx Zm a3),(33,.idx Zm a5)] 41
  cases o;exact .d [(2,.idx Zm c),(7,.idx Zm f),(11,.bool g),(14,.idx Zm p),(20,.bool j)] 41
 cases w;subst j;cases o
 exact .d [(2,.idx Zm c),(7,.idx Zm f),(11,.bool g)] 41)<|.i (.a<|.s 0 [] rfl)
 (.a<|.x1))
 (.u)) (fun
 |.inl ()=>(.n<|.a<|.e 0 [])
 |.inr b4=>.r λ_ _ h=>h)
def Zwn {b:Yc}:KF prog glob 231 f231 [slc 2 Zm b] [] (Zk9 b) (λr=>vb r) (λ_=>[]):=Ww func231<|.a<|.bc 1 Z62<|.a<|.e 0 []
def Z1r {b:Yc} {c:Yc}:KF prog glob 281 f281 [slc 2 Zm b,slc 2 Zm c] [] (Zp9 b c) (λr=>slc 2 Zm r) (λ_=>[]):=Ww func281<|.a<|.bc 2 Zy7<|.a<|.e 0 []
def Z2x (nr:Nat):∀ {b:Int},KF prog glob 308 f308 [i64 b] [] (Zh9 nr b) (λr=>vstr r) (λ_=>[]):=by
 induction nr with
 |zero=>intro b;exact⟨func308,λ_ h=>noneb h⟩
 |succ nr ih=>
 intro b
 exact Ww func308<|.a<|.a<|.i (.r [(4,.toStr [wrap .u8 (ZI ((48:Int)+b))])]<|.e 0 [])
  (.bc 2 ih<|.c λf=>.d [(8,.toStr [wrap .u8 (ZI ((48:Int)+(Int.tmod b (10:Int))))]),(9,.cat f)] 10<|.e 0 [])
def Zwo {a:Int}:KF prog glob 308 f308 [i64 a] [] (Zh9 fuel a) (λr=>vstr r) (λ_=>[]):=Z2x fuel
def Z1e {b:Int}:KF prog glob 304 f304 [i64 b] [] (Zsl b) (λr=>vstr r) (λ_=>[]):=Ww func304<|.a<|.a<|.i (.bc 1 Zwo<|.c λd=>.r [(2,.cat d)]<|.e 0 [])
 (.bc 1 Zwo<|.a<|.e 0 [])
def Zza {b:Int}:KF prog glob 282 f282 [i64 b] [] (Zot b) (λr=>vstr r) (λ_=>[]):=Ww func282<|.a<|.bc 2 Z1e<|.c λd=>.bc 6 Z1e<|.c λf=>.r [(3,.cat d),(7,.cat f)]<|.e 0 []
def Z5n {d:Yc}:KF prog glob 232 f232 [slc 2 Zm d] [] (Zsv d) (λr=>slc 1 Zai r) (λ_=>[]):=Ww func232<|.a<|.bc 1 Zwn<|.a<|.i (.a<|.e 0 [])
 (.r [(1,.len Zm d)]<|.i (.a<|.e 0 [])
 (.a<|.z (.own 3 1 9)<|.a<|.p2 [0,3,4] 1 (λj o=>[.l 0 Zai j,.s 4 (i64 o)]) (λf=>.n [3] 1 [.l 0 Zai f])
 (λa3 j o=>.a<|.i (.a<|.b λw x=>.r [(6,.ca Z1r x)]<|.a<|.p2 [0,3,4,5,6,7] 1 (λg p=>[.l 0 Zai g,.s 7 (i64 p)]) (λq=>.n [0,3,4] 1 [.l 0 Zai q])
 (λa4 g p=>.r [(2,.len Zm w)]<|.i (.m 2 (λt=>.n [0,3,4,5,6,7] 1 [.l 0 Zai t]) (.m 2 (λv=>.n [0,3,4,5,6,7] 1 [.l 0 Zai v]) (.r [(1,.len Zai g)]<|.i (.c λy=>.r [(2,.app Zai (λ_=>kR) y)]<|.k)
 (.k)) (λv=>.n<|.bc 1 Zy6<|.bi 3 Zai<|.bi 7 Zm<|.bc 13 Zza<|.c λa0=>.bi 17 Zm<|.bc 24 Zza<|.c λa1=>.c λa2=>.d0 [(14,.cat a0),(25,.cat a1),(27,.app Zai (λ_=>kR) a2)] 28 [] [27] []<|.k)) (λt=>.n<|.a<|.x2))
 (.u)) (λq=>.n<|.a<|.x2))
 (.u)) (λf=>.n<|.a<|.e 0 [.of Zai f])))
def Z2y {b:Yc}:KF prog glob 168 f168 [slc 2 Zm b] [] (Zm1 b) (λr=>vb r) (λ_=>[]):=Ww func168<|.a<|.bc 1 Zwn<|.v<|.gt λc d=>.gw<|.rc [(5,.len Zai c)] [(4,.ca Z5n d)] []<|.e 0 []
def Zd7 {b:ByteArray}:KF prog glob 233 f233 [vstr b] [] (Zb9 b) (λr=>vb r) (λ_=>[]):=Ww func233<|.a<|.v<|.ge λd c=>.gw<|.rc [] [(4,.ca Zae c)] []<|.e 0 []
def Zvx {o:Zam}:KF prog glob 169 f169 [Zwe o] [] (Zgd o) (λr=>vb r) (λ_=>[]):=Ww func169<|.a<|.bc 2 Zd7<|.v<|.ge λa7 w=>.gw<|.v<|.ge λa8 x=>.gw<|.v<|.ge λa9 y=>.gw<|.v<|.ge λb0 z=>.gw<|.v<|.ge λb1 a0=>.gw<|.v<|.ge λb2 a1=>.gw<|.rc [] [(7,.ca Zd7 w),(13,.ca Zd7 x),(19,.ca Zd7 y),(25,.ca Zd7 z),(31,.ca Zd7 a0),(37,.ca Zd7 a1)] []<|.i (.a<|.e 0 [])
 (.l λa2 d=>.l λa3 k=>.b λb3 p=>.l λu j=>.l λm f=>.to [] [.s 2 (vb (m&&(decide (o.Priority≤(1000:Int)))))] (by
 cases a2
 ·cases a3
  ·cases p
   subst j;subst f;exact .r [(2,.bool d),(7,.bool k)]
  obtain⟨q,c,a4⟩:=bindb (ifT p rfl)
  replace c:=someb c
  obtain⟨a5,n,⟨⟩⟩:=bindb a4;cases q
  ·obtain⟨t,g,⟨⟩⟩:=bindb (ifF n rfl)
   replace g:=someb g
   cases t
   ·subst j
    subst f;exact .r [(2,.bool d),(7,.bool k),(10,.bool c),(14,.bool g)]
   cases u
   ·subst f
    exact .r [(2,.bool d),(7,.bool k),(10,.bool c),(14,.bool g),(21,.bool j)]
   cases m
   ·exact .r [(2,.bool d),(7,.bool k),(10,.bool c),(14,.bool g),(21,.bool j),(26,.bool f)]
   exact .r [(2,.bool d),(7,.bool k),(10,.bool c),(14,.bool g),(21,.bool j),(26,.bool f)]
  cases n;subst j;cases m
  ·exact .r [(2,.bool d),(7,.bool k),(10,.bool c),(26,.bool f)]
  exact .r [(2,.bool d),(7,.bool k),(10,.bool c),(26,.bool f)]
 subst k;obtain⟨q,c,a6⟩:=bindb (ifT p rfl)
 replace c:=someb c
 obtain⟨a5,n,⟨⟩⟩:=bindb a6;cases q
 ·obtain⟨t,g,⟨⟩⟩:=bindb (ifF n rfl)
  replace g:=someb g
  cases t
  ·subst j
   subst f;exact .r [(2,.bool d),(10,.bool c),(14,.bool g)]
  cases u
  ·subst f
   exact .r [(2,.bool d),(10,.bool c),(14,.bool g),(21,.bool j)]
  cases m
  ·exact .r [(2,.bool d),(10,.bool c),(14,.bool g),(21,.bool j),(26,.bool f)]
  exact .r [(2,.bool d),(10,.bool c),(14,.bool g),(21,.bool j),(26,.bool f)]
 cases n;subst j;cases m
 ·exact .r [(2,.bool d),(10,.bool c),(26,.bool f)]
 exact .r [(2,.bool d),(10,.bool c),(26,.bool f)])<|.e 0 [])
def Zxt {b:Int}:KF prog glob 170 f170 [i64 b] [] (Zm2 b) (λr=>vb r) (λ_=>[]):=Ww func170<|.a<|.v<|.rc [] [] []<|.e 0 []
def Zpy (r:Bool):Exit→St→List Blk→Prop:=FnQ prog f119.results 0 λp K=>p=(vb r)∧K=[]
def Zia {c:Zs}:KF prog glob 119 f119 [Zb1 c] [] (Zc4 c) (λr=>vb r) (λ_=>[]):=Ww func119<|.a<|.bc 2 Zo7<|.v<|.ge λb3 a0=>.gw<|.v<|.v<|.v<|.v<|.rc [(13,.len Za0 c.Windows),(19,.len Zav c.Statements),(25,.len Zay c.Published),(31,.len Za1 c.Hidden)] [(7,.ca Zo7 a0)] []<|.i (.a<|.e 0 [])
 (.a<|.p1 [1,3] 1 (λo=>[.s 3 (i64 o)]) (Sum.elim (λ_=>.n [1] 1 []) (λr=>.q (Zpy r)))
 (λb4 o=>.r [(3,.len Za0 c.Windows)]<|.i (.b λb5 f=>.b λb6 g=>.l λa1 j=>.b λb7 p=>.l λa2 k=>.b λa3 m=>.to [1,3] [.s 80 (vb a3)] (by
 cases a1
 ·obtain⟨b8,t,a4⟩:=bindb (ifF p rfl)
  obtain⟨b9,w,⟨⟩⟩:=bindb a4;cases a2
  ·obtain⟨c0,a5,a6⟩:=bindb (ifF m rfl)
   obtain⟨c1,a7,⟨⟩⟩:=bindb a6;exact .d [(3,.idx Za0 f),(6,.ca Zae g),(8,.bool j),(14,.idx Za0 t),(17,.ca Zf6 w),(21,.bool k),(25,.idx Za0 a5),(28,.ca Z2y a7)] 31
  cases m;exact .d [(3,.idx Za0 f),(6,.ca Zae g),(8,.bool j),(14,.idx Za0 t),(17,.ca Zf6 w),(21,.bool k)] 31
 cases p;subst k;cases m
 exact .d [(3,.idx Za0 f),(6,.ca Zae g),(8,.bool j)] 31)<|.i (.a<|.s 0 [] rfl)
 (.a<|.x1))
 (.u)) (fun
 |.inl ()=>(.n<|.a<|.p1 [1,4] 1 (λx=>[.s 4 (i64 x)]) (Sum.elim (λ_=>.n [1] 1 []) (λr=>.q (Zpy r)))
 (λc2 x=>.r [(3,.len Zav c.Statements)]<|.i (.bi 3 Zav<|.bc 5 Zvx<|.a<|.i (.a<|.s 0 [] rfl)
 (.a<|.x1))
 (.u)) (fun
 |.inl ()=>(.n<|.a<|.p1 [1,5] 1 (λy=>[.s 5 (i64 y)]) (Sum.elim (λ_=>.n [1] 1 []) (λr=>.q (Zpy r)))
 (λc3 y=>.r [(3,.len Zay c.Published)]<|.i (.bi 3 Zay<|.a<|.v<|.v<|.ge λc4 a8=>.gw<|.v<|.ge λc5 a9=>.gw<|.v<|.ge λc6 b0=>.gw<|.rc [] [(11,.ca Zxt a8),(17,.ca Zxt a9),(23,.ca Zae b0)] []<|.i (.a<|.s 0 [] rfl)
 (.a<|.x1))
 (.u)) (fun
 |.inl ()=>(.n<|.a<|.p1 [1,7] 1 (λz=>[.s 7 (i64 z)]) (Sum.elim (λ_=>.n [] 1 []) (λr=>.q (Zpy r)))
 (λc7 z=>.r [(3,.len Za1 c.Hidden)]<|.i (.bi 3 Za1<|.a<|.bc 2 Zae<|.v<|.ge λc8 b1=>.gw<|.v<|.ge λc9 b2=>.gw<|.rc [] [(7,.ca Zae b1),(13,.ca Zwm b2)] []<|.i (.a<|.s 0 [] rfl)
 (.a<|.x1))
 (.u)) (fun
 |.inl ()=>(.n<|.a<|.e 0 [])
 |.inr d0=>.r λ_ _ h=>h))
 |.inr d1=>.r λ_ _ h=>h))
 |.inr d2=>.r λ_ _ h=>h))
 |.inr d3=>.r λ_ _ h=>h))
def Z8j {b:Zb}:KF prog glob 190 f190 [Zu b] [] (Zum b) (λr=>slc 1 Ze r) (λ_=>[]):=Ww func190<|.a<|.a<|.z (.own 3 1 3)<|.a<|.p2 [1,3,4] 2 (λf g=>[.l 1 Ze f,.s 4 (i64 g)]) (λd=>.n [3] 2 [.l 1 Ze d])
 (λk f g=>.r [(3,.len Zk b.Edges)]<|.i (.c λj=>.r [(3,.app Ze (λ_=>kR) j)]<|.a<|.x2)
 (.u)) (λd=>.n<|.a<|.e 0 [.of Ze d])
def Zwp {f:Zb} {b:Ya}:KF prog glob 189 f189 [Zu f,slc 1 Ze b] [] (Zpe f b) (λr=>slc 2 Zm r) (λ_=>[]):=Ww func189<|.a<|.a<|.z (.own 5 2 73)<|.a<|.p2 [1,2,5,6] 2 (λg j=>[.l 1 Zm g,.s 6 (i64 j)]) (λd=>.n [5] 2 [.l 1 Zm d])
 (λm g j=>.r [(2,.len Ze b)]<|.i (.bi 4 Ze<|.bi 6 Zk<|.bc 9 Zep<|.d0 [] 15 [] [13,14] []<|.c λk=>.r [(3,.app Zm (λ_=>kR) k)]<|.a<|.x2)
 (.u)) (λd=>.n<|.a<|.e 0 [.of Zm d])
def Z8k (r:Bool):Exit→St→List Blk→Prop:=FnQ prog f290.results 0 λp K=>p=(vb r)∧K=[]
def Zf7 {b:Ya} {c:Int}:KF prog glob 290 f290 [slc 1 Ze b,i64 c] [] (Zdw b c) (λr=>vb r) (λ_=>[]):=Ww func290<|.a<|.a<|.p1 [0,1,5] 0 (λd=>[.s 5 (i64 d)]) (Sum.elim (λ_=>.n [] 0 []) (λr=>.q (Z8k r)))
 (λf d=>.r [(2,.len Ze b)]<|.i (.bi 2 Ze<|.a<|.i (.a<|.s 0 [] rfl)
 (.a<|.x1))
 (.u)) (fun
 |.inl ()=>(.n<|.a<|.e 0 [])
 |.inr g=>.r λ_ _ h=>h)
def Znr {b:Zb} {f:ByteArray}:KF prog glob 192 f192 [Zu b,vstr f] [] (Zgl b f) (λr=>slc 1 Ze r) (λ_=>[]):=Ww func192<|.a<|.a<|.z (.own 5 1 3)<|.a<|.p2 [1,2,5,6] 2 (λg j=>[.l 1 Ze g,.s 6 (i64 j)]) (λd=>.n [5] 2 [.l 1 Ze d])
 (λq g j=>.r [(3,.len Zk b.Edges)]<|.i (.m 2 (λo=>.n [1,2,5,6] 2 [.l 1 Ze o]) (.bi 3 Zk<|.a<|.i (.c λp=>.r [(3,.app Ze (λ_=>kR) p)]<|.k)
 (.k)) (λo=>.n<|.a<|.x2))
 (.u)) (λd=>.n<|.a<|.e 0 [.of Ze d])
def Zqv (a:Zb) (b:Zb) (c:Ya) (d:Z0) (f:Zb) (g:Ya) (i:Z0) (j:Zb) (k:Ya) (l:Z0) (r:(Int×Ye×Ya×Yg)):Exit→St→List Blk→Prop:=InQ prog f243.results 13 (i64 r.1) [.cells (Z3 a),.far [.sl 2 (List.map Zr r.2.1),.own 2 (r.2.2.1.length),.own 3 (r.2.2.2.length)],bf 1 3 Ze r.2.2.1 true,bf 7 139 Z4 r.2.2.2 false,.cells (Z3 b),bf 1 3 Ze c true,.cells (Z4 d),.cells (Z3 f),bf 1 3 Ze g true,.cells (Z4 i),.cells (Z3 j),bf 1 3 Ze k true,.cells (Z4 l)]
def Zvy {j:Zb} {a6:Ye} {a4:Ya} {a5:Yg} {o:Zb} {p:Ya} {t:Z0} {w:Zb} {x:Ya} {a0:Z0} {a1:Zb} {a2:Ya} {a3:Z0} {a7:Zb} {a8:Int} {a9:Ya}:KI prog glob f243 [.ptr 1 0,Zu a7,i64 a8,slc 1 Ze a9] [.cells (Z3 j),.far [.sl 2 (List.map Zr a6),.own 2 (a4.length),.own 3 (a5.length)],bf 1 3 Ze a4 true,bf 7 139 Z4 a5 false,.cells (Z3 o),bf 1 3 Ze p true,.cells (Z4 t),.cells (Z3 w),bf 1 3 Ze x true,.cells (Z4 a0),.cells (Z3 a1),bf 1 3 Ze a2 true,.cells (Z4 a3)] (Zqj j a6 a4 a5 o p t w x a0 a1 a2 a3 a7 a8 a9) (λr=>i64 r.1) (λr=>[.cells (Z3 j),.far [.sl 2 (List.map Zr r.2.1),.own 2 (r.2.2.1.length),.own 3 (r.2.2.2.length)],bf 1 3 Ze r.2.2.1 true,bf 7 139 Z4 r.2.2.2 false,.cells (Z3 o),bf 1 3 Ze p true,.cells (Z4 t),.cells (Z3 w),bf 1 3 Ze x true,.cells (Z4 a0),.cells (Z3 a1),bf 1 3 Ze a2 true,.cells (Z4 a3)]):=KI.mk1<|.a<|.bc 2 Zf7<|.a<|.i (.a<|.z (.kp [8] 13)<|.g 13)
 (.b λc5 b6=>.r [(3,.q),(5,.cw [.of Ze a4] Zf7 b6)]<|.i (.a<|.z (.kp [8] 13)<|.g 13)
 (.c λb7=>.c λb8=>.r [(0,.m),(2,.app Ze (λ_=>kR) b7),(5,.app Ze (λ_=>kR) b8)]<|.a<|.p3 [0,2,3,5,9] 15 (λb0 b1 b2=>[.l 3 Z4 b1,.f 1 0 (.sl 2 (List.map Zr b0)),.s 9 (i64 b2)]) (Sum.elim (λ(b3,b4)=>.n [0,2] 15 [.l 3 Z4 b4,.f 1 0 (.sl 2 (List.map Zr b3))]) (λr=>.q (Zqv j o p t w x a0 a1 a2 a3 r)))
 (λc6 b0 b1 b2=>.b λb9 c0=>.r [(4,.q),(6,.idx Zr c0),(9,.len Z4 b9.Items)]<|.i (.m 2 (Sum.elim (λb5=>.n [0,2,3,5,9] 15 [.l 3 Z4 b5]) (λr=>.q (Zqv j o p t w x a0 a1 a2 a3 r))) (.bi 5 Zr<|.bi 9 Z4<|.r [(3,.q)]<|.a<|.i (.v<|.gt λc1 c2=>.gw<|.rc [(8,.len Ze c1)] [(7,.ca Znr c2)] []<|.i (.a<|.y (.kp [8] 13)<|.gq 13 rfl)
 (.c λc3=>.d0 [(4,.q),(7,.app Z4 (λ_=>kR) c3),(10,.m)] 8 [] [7] []<|.k))
 (.bc 6 Zjo<|.d [(3,.q)] 7<|.a<|.i (.a<|.y (.kp [8] 13)<|.gq 13 rfl)
 (.y (.share 14)<|.n))) (fun
 |.inl b5=>(.n<|.a<|.x3)
 |.inr c7=>.r λ_ _ h=>Wbq ⟨rfl,h⟩))
 (.u)) (fun
 |.inl (b3,b4)=>(.n<|.c λc4=>.r [(4,.q),(7,.app Ze (λ_=>kR) c4),(10,.m)]<|.a<|.z (.kp [8] 13)<|.g 13)
 |.inr c8=>.r λ_ _ h=>h)))
def Zqw (a:Zb) (b:Zb) (c:Ya) (d:Z0) (f:Zb) (g:Ya) (i:Z0) (r:(Int×Ye×Ya×Yg)):Exit→St→List Blk→Prop:=InQ prog f243.results 10 (i64 r.1) [.cells (Z3 a),.far [.sl 2 (List.map Zr r.2.1),.own 2 (r.2.2.1.length),.own 3 (r.2.2.2.length)],bf 1 3 Ze r.2.2.1 true,bf 7 139 Z4 r.2.2.2 false,.cells (Z3 b),bf 1 3 Ze c true,.cells (Z4 d),.cells (Z3 f),bf 1 3 Ze g true,.cells (Z4 i)]
def Zvz {j:Zb} {a4:Ye} {a1:Ya} {a3:Yg} {o:Zb} {p:Ya} {t:Z0} {w:Zb} {x:Ya} {a0:Z0} {a5:Zb} {a6:Int} {a7:Ya}:KI prog glob f243 [.ptr 1 0,Zu a5,i64 a6,slc 1 Ze a7] [.cells (Z3 j),.far [.sl 2 (List.map Zr a4),.own 2 (a1.length),.own 3 (a3.length)],bf 1 3 Ze a1 true,bf 7 139 Z4 a3 false,.cells (Z3 o),bf 1 3 Ze p true,.cells (Z4 t),.cells (Z3 w),bf 1 3 Ze x true,.cells (Z4 a0)] (Zqk j a4 a1 a3 o p t w x a0 a5 a6 a7) (λr=>i64 r.1) (λr=>[.cells (Z3 j),.far [.sl 2 (List.map Zr r.2.1),.own 2 (r.2.2.1.length),.own 3 (r.2.2.2.length)],bf 1 3 Ze r.2.2.1 true,bf 7 139 Z4 r.2.2.2 false,.cells (Z3 o),bf 1 3 Ze p true,.cells (Z4 t),.cells (Z3 w),bf 1 3 Ze x true,.cells (Z4 a0)]):=KI.mk1<|.a<|.bc 2 Zf7<|.a<|.i (.a<|.z (.kp [8] 10)<|.g 10)
 (.b λc9 b9=>.r [(3,.q),(5,.cw [.of Ze a1] Zf7 b9)]<|.i (.a<|.z (.kp [8] 10)<|.g 10)
 (.c λc0=>.c λc1=>.r [(0,.m),(2,.app Ze (λ_=>kR) c0),(5,.app Ze (λ_=>kR) c1)]<|.a<|.z (.share 11)<|.p5 [0,2,3,5,9] 12 (λa8 a9 b0 a2 b1=>[.l 2 Ze a9,.l 3 Z4 b0,.l 11 Ze a2,.f 1 0 (.sl 2 (List.map Zr a8)),.s 3 (.own 11 (a2.length)),.s 9 (i64 b1)]) (Sum.elim (λ(b2,b3,b4,b5)=>.n [0,2] 12 [.l 2 Ze b3,.l 3 Z4 b4,.l 11 Ze b5,.f 1 0 (.sl 2 (List.map Zr b2))]) (λr=>.q (Zqw j o p t w x a0 r)))
 (λd1 a8 a9 b0 a2 b1=>.b λc2 c3=>.r [(4,.q),(6,.idx Zr c3),(9,.len Z4 c2.Items)]<|.i (.m 2 (Sum.elim (λ(b6,b7,b8)=>.n [0,2,3,5,9] 12 [.l 2 Ze b7,.l 3 Z4 b8,.f 1 0 (.sl 2 (List.map Zr b6))]) (λr=>.q (Zqw j o p t w x a0 r))) (.bi 5 Zr<|.bi 9 Z4<|.r [(3,.q)]<|.a<|.i (.v<|.gt λc4 c5=>.gw<|.rc [(8,.len Ze c4)] [(7,.ca Znr c5)] []<|.i (.a<|.y (.kp [8] 10)<|.gq 10 rfl)
 (.c λc6=>.d0 [(4,.q),(7,.app Z4 (λ_=>kR) c6),(10,.m)] 8 [] [7] []<|.k))
 (.bc 6 Zjo<|.d [(3,.q)] 7<|.a<|.i (.a<|.y (.kp [8] 10)<|.gq 10 rfl)
 (.b λd2 c7=>.r [(4,.rd (.wkO 11 Ze a2 (.inl func243 (KI.run Zvy _ c7))))]<|.a<|.i (.a<|.y (.kp [8] 10)<|.gq 10 rfl)
 (.k)))) (fun
 |.inl (b6,b7,b8)=>(.n<|.a<|.x5)
 |.inr d3=>.r λ_ _ h=>Wbq ⟨rfl,h⟩))
 (.u)) (fun
 |.inl (b2,b3,b4,b5)=>(.n<|.c λc8=>.r [(4,.q),(7,.app Ze (λ_=>kR) c8),(10,.m)]<|.a<|.z (.kp [8] 10)<|.g 10)
 |.inr d4=>.r λ_ _ h=>h)))
def Zqx (a:Zb) (b:Zb) (c:Ya) (d:Z0) (r:(Int×Ye×Ya×Yg)):Exit→St→List Blk→Prop:=InQ prog f243.results 7 (i64 r.1) [.cells (Z3 a),.far [.sl 2 (List.map Zr r.2.1),.own 2 (r.2.2.1.length),.own 3 (r.2.2.2.length)],bf 1 3 Ze r.2.2.1 true,bf 7 139 Z4 r.2.2.2 false,.cells (Z3 b),bf 1 3 Ze c true,.cells (Z4 d)]
def Zv0 {j:Zb} {a1:Ye} {w:Ya} {a0:Yg} {o:Zb} {p:Ya} {t:Z0} {a2:Zb} {a3:Int} {a4:Ya}:KI prog glob f243 [.ptr 1 0,Zu a2,i64 a3,slc 1 Ze a4] [.cells (Z3 j),.far [.sl 2 (List.map Zr a1),.own 2 (w.length),.own 3 (a0.length)],bf 1 3 Ze w true,bf 7 139 Z4 a0 false,.cells (Z3 o),bf 1 3 Ze p true,.cells (Z4 t)] (Zj8 j a1 w a0 o p t a2 a3 a4) (λr=>i64 r.1) (λr=>[.cells (Z3 j),.far [.sl 2 (List.map Zr r.2.1),.own 2 (r.2.2.1.length),.own 3 (r.2.2.2.length)],bf 1 3 Ze r.2.2.1 true,bf 7 139 Z4 r.2.2.2 false,.cells (Z3 o),bf 1 3 Ze p true,.cells (Z4 t)]):=KI.mk1<|.a<|.bc 2 Zf7<|.a<|.i (.a<|.z (.kp [8] 7)<|.g 7)
 (.b λc6 b6=>.r [(3,.q),(5,.cw [.of Ze w] Zf7 b6)]<|.i (.a<|.z (.kp [8] 7)<|.g 7)
 (.c λb7=>.c λb8=>.r [(0,.m),(2,.app Ze (λ_=>kR) b7),(5,.app Ze (λ_=>kR) b8)]<|.a<|.z (.share 8)<|.p5 [0,2,3,5,9] 9 (λa5 a6 a7 x a8=>[.l 2 Ze a6,.l 3 Z4 a7,.l 8 Ze x,.f 1 0 (.sl 2 (List.map Zr a5)),.s 3 (.own 8 (x.length)),.s 9 (i64 a8)]) (Sum.elim (λ(a9,b0,b1,b2)=>.n [0,2] 9 [.l 2 Ze b0,.l 3 Z4 b1,.l 8 Ze b2,.f 1 0 (.sl 2 (List.map Zr a9))]) (λr=>.q (Zqx j o p t r)))
 (λc7 a5 a6 a7 x a8=>.b λb9 c0=>.r [(4,.q),(6,.idx Zr c0),(9,.len Z4 b9.Items)]<|.i (.m 2 (Sum.elim (λ(b3,b4,b5)=>.n [0,2,3,5,9] 9 [.l 2 Ze b4,.l 3 Z4 b5,.f 1 0 (.sl 2 (List.map Zr b3))]) (λr=>.q (Zqx j o p t r))) (.bi 5 Zr<|.bi 9 Z4<|.r [(3,.q)]<|.a<|.i (.v<|.gt λc1 c2=>.gw<|.rc [(8,.len Ze c1)] [(7,.ca Znr c2)] []<|.i (.a<|.y (.kp [8] 7)<|.gq 7 rfl)
 (.c λc3=>.d0 [(4,.q),(7,.app Z4 (λ_=>kR) c3),(10,.m)] 8 [] [7] []<|.k))
 (.bc 6 Zjo<|.d [(3,.q)] 7<|.a<|.i (.a<|.y (.kp [8] 7)<|.gq 7 rfl)
 (.b λc8 c4=>.r [(4,.rd (.wkO 8 Ze x (.inl func243 (KI.run Zvz _ c4))))]<|.a<|.i (.a<|.y (.kp [8] 7)<|.gq 7 rfl)
 (.k)))) (fun
 |.inl (b3,b4,b5)=>(.n<|.a<|.x5)
 |.inr c9=>.r λ_ _ h=>Wbq ⟨rfl,h⟩))
 (.u)) (fun
 |.inl (a9,b0,b1,b2)=>(.n<|.c λc5=>.r [(4,.q),(7,.app Ze (λ_=>kR) c5),(10,.m)]<|.a<|.z (.kp [8] 7)<|.g 7)
 |.inr d1=>.r λ_ _ h=>h)))
def Zqy (a:Zb) (r:(Int×Ye×Ya×Yg)):Exit→St→List Blk→Prop:=InQ prog f243.results 4 (i64 r.1) [.cells (Z3 a),.far [.sl 2 (List.map Zr r.2.1),.own 2 (r.2.2.1.length),.own 3 (r.2.2.2.length)],bf 1 3 Ze r.2.2.1 true,bf 7 139 Z4 r.2.2.2 false]
def Zv1 {j:Zb} {w:Ye} {o:Ya} {t:Yg} {x:Zb} {a0:Int}:KI prog glob f243 [.ptr 1 0,Zu x,i64 a0,nils] [.cells (Z3 j),.far [.sl 2 (List.map Zr w),.own 2 (o.length),.own 3 (t.length)],bf 1 3 Ze o false,bf 7 139 Z4 t false] (Zql j w o t x a0) (λr=>i64 r.1) (λr=>[.cells (Z3 j),.far [.sl 2 (List.map Zr r.2.1),.own 2 (r.2.2.1.length),.own 3 (r.2.2.2.length)],bf 1 3 Ze r.2.2.1 true,bf 7 139 Z4 r.2.2.2 false]):=KI.mk1<|.a<|.bc 2 Zf7<|.a<|.i (.a<|.z (.kp [8] 4)<|.z (.share 2)<|.g 4)
 (.z (.share 2)<|.b λc2 b2=>.r [(3,.q),(5,.cw [.of Ze o] Zf7 b2)]<|.i (.a<|.z (.kp [8] 4)<|.g 4)
 (.c λb3=>.c λb4=>.r [(0,.m),(2,.app Ze (λ_=>kR) b3),(5,.app Ze (λ_=>kR) b4)]<|.a<|.z (.share 5)<|.p5 [0,2,3,5,9] 6 (λa1 a2 a3 p a4=>[.l 2 Ze a2,.l 3 Z4 a3,.l 5 Ze p,.f 1 0 (.sl 2 (List.map Zr a1)),.s 3 (.own 5 (p.length)),.s 9 (i64 a4)]) (Sum.elim (λ(a5,a6,a7,a8)=>.n [0,2] 6 [.l 2 Ze a6,.l 3 Z4 a7,.l 5 Ze a8,.f 1 0 (.sl 2 (List.map Zr a5))]) (λr=>.q (Zqy j r)))
 (λc3 a1 a2 a3 p a4=>.b λb5 b6=>.r [(4,.q),(6,.idx Zr b6),(9,.len Z4 b5.Items)]<|.i (.m 2 (Sum.elim (λ(a9,b0,b1)=>.n [0,2,3,5,9] 6 [.l 2 Ze b0,.l 3 Z4 b1,.f 1 0 (.sl 2 (List.map Zr a9))]) (λr=>.q (Zqy j r))) (.bi 5 Zr<|.bi 9 Z4<|.r [(3,.q)]<|.a<|.i (.v<|.gt λb7 b8=>.gw<|.rc [(8,.len Ze b7)] [(7,.ca Znr b8)] []<|.i (.a<|.y (.kp [8] 4)<|.gq 4 rfl)
 (.c λb9=>.d0 [(4,.q),(7,.app Z4 (λ_=>kR) b9),(10,.m)] 8 [] [7] []<|.k))
 (.bc 6 Zjo<|.d [(3,.q)] 7<|.a<|.i (.a<|.y (.kp [8] 4)<|.gq 4 rfl)
 (.b λc4 c0=>.r [(4,.rd (.wkO 5 Ze p (.inl func243 (KI.run Zv0 _ c0))))]<|.a<|.i (.a<|.y (.kp [8] 4)<|.gq 4 rfl)
 (.k)))) (fun
 |.inl (a9,b0,b1)=>(.n<|.a<|.x5)
 |.inr c5=>.r λ_ _ h=>Wbq ⟨rfl,h⟩))
 (.u)) (fun
 |.inl (a5,a6,a7,a8)=>(.n<|.c λc1=>.r [(4,.q),(7,.app Ze (λ_=>kR) c1),(10,.m)]<|.a<|.z (.kp [8] 4)<|.g 4)
 |.inr c6=>.r λ_ _ h=>h)))
def Zxu {c:Zb} {d:Ye} {f:ByteArray}:KF prog glob 191 f191 [Zu c,slc 2 Zr d,vstr f] [] (Zqm c d f) (λr=>.tup [slc 7 Z4 r.1,i64 r.2]) (λ_=>[]):=Ww func191<|.a<|.bc 2 Zjo<|.a<|.a<|.i (.a<|.e 0 [])
 (.r [(1,.m),(2,.m)]<|.z (.gst (.ownF 1 1 1 3))<|.z (.gst (.ownF 1 2 7 139))<|.b λg j=>.r [(3,.inl func243 (KI.run Zv1 _ j))]<|.r [(3,.q)]<|.e 0 [.of Z4 g.2.2.2])
def Zfs {g:Zb} {j:Zs} {o:ByteArray}:KF prog glob 140 f140 [Zu g,Zb1 j,vstr o] [] (Zdm g j o) (λr=>.tup [slc 2 Zm r.1,i64 r.2]) (λ_=>[]):=Ww func140<|.a<|.bc 1 Zca<|.v<|.ge λa3 w=>.gw<|.rc [] [(5,.ca Zia w)] []<|.i (.a<|.e 0 [])
 (.a<|.i (.bc 2 Z8j<|.bc 3 Zwp<|.bc 4 Zt0<|.d [] 5<|.e 0 [])
 (.b λx y=>.r [(4,.ca Zxu y)]<|.a<|.i (.a<|.e 0 [])
 (.a<|.z (.own 10 2 73)<|.a<|.p2 [3,8,10,11] 3 (λp q=>[.l 2 Zm p,.s 11 (i64 q)]) (λf=>.n [10] 3 [.l 2 Zm f])
 (λa4 p q=>.r [(2,.len Z4 x.1)]<|.i (.m 2 (λt=>.n [3,8,10,11] 3 [.l 2 Zm t]) (.bi 2 Z4<|.a<|.i (.bi 5 Z4<|.bc 8 Znr<|.bc 9 Zwp<|.c λa0=>.d0 [(10,.app Zm (λ_=>kR) a0)] 11 [] [10] []<|.k)
 (.bi 2 Z4<|.bc 5 Zep<|.a<|.c λa1=>.r [(3,.app Zm (λ_=>kR) a1)]<|.k)) (λt=>.n<|.a<|.x2))
 (.u)) (λf=>.n<|.z (.share 2)<|.b λa5 a2=>.r [(1,.cw [.of Zm f] Zt0 a2)]<|.e 0 []))))
def Zaak (r:Int):Exit→St→List Blk→Prop:=FnQ prog f90.results 0 λp K=>p=(u32 r)∧K=[]
def Zsp {b:Int}:KF prog glob 90 f90 [i64 b] [] (Zms b) (λr=>u32 r) (λ_=>[]):=Ww func90<|.a<|.m 1 (Sum.elim (λ_=>.n [] 0 []) (λr=>.q (Zaak r))) (.a<|.m 2 (λc=>.n [3] 0 [.s 4 (vb c)]) (.a<|.i (.k)
 (.a<|.k)) (λc=>.n<|.i (.a<|.q 0 [] rfl)
 (.a<|.i (.a<|.q 0 [] rfl)
 (.m 1 (λd=>.n [] 0 [.s 9 (vb d)]) (.a<|.i (.k)
 (.a<|.k)) (λd=>.n<|.i (.a<|.q 0 [] rfl)
 (.k)))))) (fun
 |.inl ()=>(.n<|.a<|.e 0 [])
 |.inr f=>.r λ_ _ h=>h)
def Zdy:KF prog glob 51 f51 [] [] (Zcv) (λr=>Zbo r) (λ_=>[]):=Ww func51<|.a<|.a<|.a<|.p2 [0,1,2] 2 (λd f=>[.c 1 (Zd d),.s 2 (i64 f)]) (λg=>.n [0,1] 2 [.c 1 (Zd g)])
 (λo d f=>.a<|.i (.b λl m=>.c λj=>.r [(2,.ca Zsp m),(3,.ixd j),(5,.stA (λk=>Zd (Arr5.set d k ({(Arr5.get d k)with Hi:=l}:Za))) 0 2 1 j)]<|.a<|.x2)
 (.u)) (λg=>.n<|.a<|.e 0 [])
def Z63 (r:Bool):Exit→St→List Blk→Prop:=FnQ prog f108.results 0 λp K=>p=(vb r)∧K=[]
def Zci {f:ZB}:KF prog glob 108 f108 [Zbo f] [] (Zbq f) (λr=>vb r) (λ_=>[]):=Ww func108<|.a<|.a<|.p1 [1,3] 1 (λk=>[.s 3 (i64 k)]) (Sum.elim (λ_=>.n [] 1 []) (λr=>.q (Z63 r)))
 (λy k=>.a<|.i (.c λg=>.c λj=>.l λt m=>.b λv o=>.to [1,3] [.s 25 (vb v)] (by
 cases t
 ·obtain⟨p,w⟩:=chkb (ifF o rfl)
  obtain⟨z,x,⟨⟩⟩:=bindb w;exact .d [(1,.ixd g),(3,.ldA Zm (Arr5.get f) 0 2 0 g),(5,.ixd j),(7,.ldA Zm (Arr5.get f) 0 2 1 j),(9,.bool m),(11,.ixd p),(13,.ldA Zm (Arr5.get f) 0 2 1 p),(15,.ca Zsp x)] 18
 cases o
 exact .d [(1,.ixd g),(3,.ldA Zm (Arr5.get f) 0 2 0 g),(5,.ixd j),(7,.ldA Zm (Arr5.get f) 0 2 1 j),(9,.bool m)] 18)<|.i (.a<|.s 0 [] rfl)
 (.a<|.x1))
 (.u)) (fun
 |.inl ()=>(.n<|.a<|.e 0 [])
 |.inr a0=>.r λ_ _ h=>h)
def Zqz {b:ZL}:KF prog glob 240 f240 [slc 10 Zd b] [] (Zgm b) (λr=>slc 10 Zd r) (λ_=>[]):=Ww func240<|.a<|.a<|.z (.own 3 10 83)<|.a<|.p2 [0,3,4] 1 (λf g=>[.l 0 Zd f,.s 4 (i64 g)]) (λd=>.n [3] 1 [.l 0 Zd d])
 (λp f g=>.r [(2,.len Zd b)]<|.i (.m 2 (λj=>.n [0,3,4] 1 [.l 0 Zd j]) (.bi 2 Zd<|.bc 4 Zci<|.a<|.i (.bi 3 Zd<|.c λo=>.r [(6,.app Zd (λ_=>kR) o)]<|.k)
 (.k)) (λj=>.n<|.a<|.x2))
 (.u)) (λd=>.n<|.a<|.e 0 [.of Zd d])
def Z64 {b:Int} {c:Bool} {d:Bool}:KF prog glob 283 f283 [i64 b,vb c,vb d] [] (Zqn b c d) (λr=>vb r) (λ_=>[]):=Ww func283<|.a<|.a<|.a<|.i (.v<|.rc [] [] []<|.e 0 [])
 (.a<|.i (.v<|.rc [] [] []<|.e 0 [])
 (.a<|.i (.v<|.rc [] [] []<|.e 0 [])
 (.a<|.e 0 [])))
def Z8l {b:Int} {c:Bool} {d:Bool}:KF prog glob 284 f284 [i64 b,vb c,vb d] [] (Zro b c d) (λr=>vb r) (λ_=>[]):=Ww func284<|.a<|.a<|.a<|.i (.v<|.rc [] [] []<|.e 0 [])
 (.a<|.i (.a<|.e 0 [])
 (.v<|.rc [] [] []<|.e 0 []))
def Z5o {d:ZL} {f:ZL} {j:Int}:KF prog glob 285 f285 [slc 10 Zd d,slc 10 Zd f,i64 j] [] (Zpf d f j) (λr=>slc 2 Zm r) (λ_=>[]):=Ww func285<|.a<|.a<|.z (.own 7 2 73)<|.a<|.p2 [0,1,2,7,8] 1 (λk m=>[.l 0 Zm k,.s 8 (i64 m)]) (λo=>.n [1,2,7] 1 [.l 0 Zm o])
 (λa3 k m=>.r [(2,.len Zd d)]<|.i (.b λw x=>.c λp=>.c λy=>.r [(4,.idx Zd x),(5,.ixd p),(6,.ldA Zm (Arr5.get w) 0 2 0 p),(8,.app Zm (λ_=>kR) y)]<|.a<|.x2)
 (.u)) (λo=>.n<|.a<|.p2 [1,2,7,9] 1 (λq t=>[.l 0 Zm q,.s 9 (i64 t)]) (λg=>.n [7] 1 [.l 0 Zm g])
 (λa4 q t=>.r [(2,.len Zd f)]<|.i (.b λa0 a1=>.c λv=>.c λa2=>.r [(4,.idx Zd a1),(5,.ixd v),(6,.ldA Zm (Arr5.get a0) 0 2 0 v),(8,.app Zm (λ_=>kR) a2)]<|.a<|.x2)
 (.u)) (λg=>.n<|.a<|.e 0 [.of Zm g]))
def Z2z {f:ZL} {j:Int} {o:Int}:KF prog glob 286 f286 [slc 10 Zd f,i64 j,u64 o] [] (Zq8 f j o) (λr=>slc 10 Zd r) (λ_=>[]):=Ww func286<|.a<|.a<|.z (.own 7 10 83)<|.a<|.p2 [0,1,2,7,8] 1 (λp q=>[.l 0 Zd p,.s 8 (i64 q)]) (λg=>.n [7] 1 [.l 0 Zd g])
 (λa7 p q=>.r [(2,.len Zd f)]<|.i (.m 2 (λt=>.n [0,1,2,7,8] 1 [.l 0 Zd t]) (.b λv w=>.c λd=>.l λa1 x=>.b λa2 y=>.to [0,1,2,7,8] [.s 36 (vb a2)] (by
 cases a1
 ·cases y
  exact .r [(3,.idx Zd w),(4,.ixd d),(6,.ldA Zm (Arr5.get v) 0 2 0 d),(10,.bool x)]
 obtain⟨a3,a4,a5⟩:=bindb (ifT y rfl);obtain⟨a0,⟨⟩⟩:=chkb a5
 exact .r [(3,.idx Zd w),(4,.ixd d),(6,.ldA Zm (Arr5.get v) 0 2 0 d),(10,.bool x),(15,.idx Zd a4),(16,.ixd a0),(18,.ldA Zm (Arr5.get a3) 0 2 1 a0)])<|.i (.bi 3 Zd<|.c λa6=>.r [(6,.app Zd (λ_=>kR) a6)]<|.k)
 (.k)) (λt=>.n<|.a<|.x2))
 (.u)) (λg=>.n<|.a<|.e 0 [.of Zd g])
def Z8m (r:Bool):Exit→St→List Blk→Prop:=FnQ prog f287.results 0 λp K=>p=(vb r)∧K=[]
def Z8n {b:ZL} {c:ZL}:KF prog glob 287 f287 [slc 10 Zd b,slc 10 Zd c] [] (Zow b c) (λr=>vb r) (λ_=>[]):=Ww func287<|.a<|.r [(1,.len Zd b),(3,.len Zd c)]<|.i (.a<|.e 0 [])
 (.a<|.p1 [0,1,5] 0 (λf=>[.s 5 (i64 f)]) (Sum.elim (λ_=>.n [] 0 []) (λr=>.q (Z8m r)))
 (λg f=>.r [(2,.len Zd b)]<|.i (.bi 2 Zd<|.bi 6 Zd<|.d [] 9<|.i (.a<|.s 0 [] rfl)
 (.a<|.x1))
 (.u)) (fun
 |.inl ()=>(.n<|.a<|.e 0 [])
 |.inr j=>.r λ_ _ h=>h))
def Z39 (nr:Nat):∀ {f:ZL} {g:ZL} {t:Int} {j:Int},KF prog glob 236 f236 [slc 10 Zd f,slc 10 Zd g,i64 t,i64 j] [] (Zch nr f g t j) (λr=>slc 10 Zd r) (λ_=>[]):=by
 induction nr with
 |zero=>intro f g t j;exact⟨func236,λ_ h=>noneb h⟩
 |succ nr ih=>
 intro f g t j
 exact Ww func236<|.a<|.a<|.i (.bc 7 Z64<|.r [(2,.len Zd f),(5,.len Zd g)]<|.i (.a<|.e 0 [])
  (.a<|.e 0 []))
  (.bc 7 Z8l<|.r [(2,.len Zd f),(5,.len Zd g)]<|.i (.a<|.e 0 [])
  (.a<|.z (.own 9 10 83)<|.bc 3 Z5o<|.bc 5 Zsp<|.b λa2 b5=>.r [(6,.ca Zwi b5)]<|.a<|.z (.wn 10 10)<|.p3 [0,1,2,3,9,10,11,12] 1 (λy a3 a4=>[.l 0 Zd y,.s 10 (slc 10 Zd a3),.s 12 (i64 a4)]) (λa0=>.n [9] 1 [.l 0 Zd a0])
  (λc4 y a3 a4=>.r [(2,.len Zb8 a2)]<|.i (.m 2 (λ(a5,a6)=>.n [0,1,2,3,9,10,11,12] 1 [.l 0 Zd a5,.s 10 (slc 10 Zd a6)]) (.bc 1 Zsp<|.a<|.m 1 (λp=>.n [0,1,2,3,9,10,11,12,13] 1 [.s 13 (u64 p)]) (.r [(3,.len Zb8 a2)]<|.i (.bi 3 Zb8<|.a<|.k)
  (.k)) (λp=>.n<|.bi 4 Zb8<|.bc 6 Z2z<|.bi 11 Zb8<|.bc 13 Z2z<|.b λa1 b6=>.d [(17,.ca ih b6)] 18<|.v<|.v<|.gt λc5 b7=>.gw<|.rc [(4,.len Zd a1)] [(10,.ca Z8n b7)] []<|.i (.r [(1,.len Zd y),(3,.len Zd a1)]<|.p2 [0,1,2,3,9,10,11,12,13,15] 1 (λo q=>[.l 0 Zd o,.s 15 (i64 q)]) (λa7=>.n [0,1,2,3,9,10,11,12] 1 [.l 0 Zd a7])
  (λc6 o q=>.r [(2,.len Zd o)]<|.i (.b λx a8=>.c λa9=>.r [(5,.idx Zd a8),(6,.ixE Zd o q a9),(7,.fdE Zd o q),(8,.stEd Zd a8 (λb0=>Arr5.set x b0 ({(Arr5.get x b0)with Hi:=(wrap .u32 p)}:Za)) 0 2 1 a9)]<|.w (.pick [0,1,2,3,9,10,11,12,13,15])<|.w (.ln 0 (lset o (Int.toNat q) (Arr5.set x j ({(Arr5.get x j)with Hi:=(wrap .u32 p)}:Za))))<|.a<|.x2)
  (.u)) (λa7=>.n<|.k))
  (.a<|.a<|.p2 [0,1,2,3,9,10,11,12,13,14,16] 1 (λb1 b2=>[.l 0 Zd b1,.s 16 (i64 b2)]) (λb3=>.n [0,1,2,3,9,10,11,12] 1 [.l 0 Zd b3])
  (λc7 b1 b2=>.r [(2,.len Zd a1)]<|.i (.b λb8 b9=>.r [(2,.idx Zd b9)]<|.b λc0 c1=>.c λb4=>.r [(3,.idx Zb8 c1),(9,.ixd b4),(10,.stA (λc2=>Zd (Arr5.set b8 c2 (Za.mk (wrap .u32 c0) (wrap .u32 p)))) 0 2 0 b4)]<|.c λc3=>.r [(3,.app Zd (λ_=>kR) c3)]<|.a<|.x2)
  (.u)) (λb3=>.n<|.k)))) (λ(a5,a6)=>.n<|.a<|.x3))
  (.u)) (λa0=>.n<|.a<|.e 0 [.of Zd a0])))
def Zq0 {a:ZL} {b:ZL} {c:Int} {d:Int}:KF prog glob 236 f236 [slc 10 Zd a,slc 10 Zd b,i64 c,i64 d] [] (Zch fuel a b c d) (λr=>slc 10 Zd r) (λ_=>[]):=Z39 fuel
def Z65 {b:ZL}:KF prog glob 237 f237 [slc 10 Zd b] [] (Zxq b) (λr=>slc 10 Zd r) (λ_=>[]):=Ww func237<|.a<|.bc 1 Zqz<|.bc 2 Zq0<|.a<|.e 0 []
def Zom:KF prog glob 175 f175 [] [] (Zg2) (λr=>slc 10 Zd r) (λ_=>[]):=Ww func175<|.a<|.a<|.z (.own 1 10 83)<|.a<|.a<|.p2 [1,2,3] 1 (λg j=>[.l 0 Zd g,.s 3 (i64 j)]) (λk=>.n [1] 1 [.l 0 Zd k])
 (λx g j=>.r [(2,.len Zm [Za.mk (0:Int) (0:Int),Za.mk (2:Int) (5:Int),Za.mk (7:Int) (16:Int),Za.mk (18:Int) (255:Int)])]<|.i (.bc 0 Zdy<|.a<|.bi 2 Zm<|.a<|.c λp=>.r [(3,.app Zd (λ_=>kR) p)]<|.a<|.x2)
 (.u)) (λk=>.n<|.a<|.p2 [1,5] 1 (λm o=>[.l 0 Zd m,.s 5 (u32 o)]) (λf=>.n [1] 1 [.l 0 Zd f])
 (λy m o=>.a<|.i (.bc 0 Zdy<|.a<|.a<|.c λq=>.r [(3,.app Zd (λ_=>kR) q)]<|.a<|.x2)
 (.u)) (λf=>.n<|.b λd t=>.r [(0,.ca Zdy t)]<|.a<|.a<|.a<|.z (.share 0)<|.c λv=>.b λa0 w=>.r [(4,.app Zd (λ_=>kR) v),(5,.cw [.of Zd (f++[({({({d with x2:=(Za.mk (1:Int) (1:Int))}:ZB)with x4:=(Za.mk (8:Int) (8:Int))}:ZB)with x3:=({d.x3 with Hi:=(7:Int)}:Za)}:ZB),({({({d with x2:=(Za.mk (1:Int) (1:Int))}:ZB)with x4:=(Za.mk (8:Int) (8:Int))}:ZB)with x3:=({d.x3 with Lo:=(9:Int)}:Za)}:ZB)])] Z65 w)]<|.e 0 []))
def Zxv (r:Bool):Exit→St→List Blk→Prop:=FnQ prog f288.results 0 λp K=>p=(vb r)∧K=[]
def Z66 {f:ZL} {g:ZL} {j:Int}:KF prog glob 288 f288 [slc 10 Zd f,slc 10 Zd g,i64 j] [] (Zm5 f g j) (λr=>vb r) (λ_=>[]):=Ww func288<|.a<|.r [(1,.len Zd f),(3,.len Zd g)]<|.i (.a<|.e 0 [])
 (.a<|.p1 [0,1,2,7] 0 (λk=>[.s 7 (i64 k)]) (Sum.elim (λ_=>.n [] 0 []) (λr=>.q (Zxv r)))
 (λx k=>.r [(2,.len Zd f)]<|.i (.a<|.p1 [0,1,2,7,8] 0 (λl=>[.s 8 (i64 l)]) (Sum.elim (λ_=>.n [0,1,2,7] 0 []) (λr=>.q (Zxv r)))
 (λy l=>.a<|.i (.b λp t=>.c λm=>.b λv w=>.c λo=>.d [(3,.idx Zd t),(4,.ixd m),(5,.ldA Zm (Arr5.get p) 0 2 0 m),(9,.idx Zd w),(10,.ixd o),(11,.ldA Zm (Arr5.get v) 0 2 0 o)] 13<|.i (.a<|.s 0 [] rfl)
 (.a<|.x1))
 (.u)) (fun
 |.inl ()=>(.n<|.a<|.x1)
 |.inr z=>.r λ_ _ h=>Wbq ⟨rfl,h⟩))
 (.u)) (fun
 |.inl ()=>(.n<|.a<|.e 0 [])
 |.inr a0=>.r λ_ _ h=>h))
def Zqf (r:Bool):Exit→St→List Blk→Prop:=FnQ prog f241.results 0 λp K=>p=(vb r)∧K=[]
def Zzb (nr:Nat):∀ {f:ZL} {j:Int},KF prog glob 241 f241 [slc 10 Zd f,i64 j] [] (Zd5 nr f j) (λr=>vb r) (λ_=>[]):=by
 induction nr with
 |zero=>intro f j;exact⟨func241,λ_ h=>noneb h⟩
 |succ nr ih=>
 intro f j
 exact Ww func241<|.a<|.a<|.i (.r [(1,.len Zd f)]<|.e 0 [])
  (.a<|.a<|.z (.wn 5 10)<|.p2 [0,1,5,6] 0 (λw x=>[.s 5 (slc 10 Zd w),.s 6 (i64 x)]) (Sum.elim (λ_=>.n [] 0 []) (λr=>.q (Zqf r)))
  (λc5 w x=>.r [(2,.len Zd f)]<|.i (.m 2 (Sum.elim (λt=>.n [0,1,5,6] 0 [.s 5 (slc 10 Zd t)]) (λr=>.q (Zqf r))) (.a<|.p1 [0,1,5,6,7] 0 (λy=>[.s 7 (i64 y)]) (λa0=>.n [0,1,5,6,7] 0 [.s 7 (i64 a0)])
  (λc6 y=>.l λb1 a1=>.b λb2 a2=>.to [0,1,5,6,7] [.s 43 (vb b2)] (by
   cases b1
   ·cases a2
    exact .d [(2,.len Zd f),(4,.bool a1)] 19
   obtain⟨b3,b4,o⟩:=bindb (ifT a2 rfl);obtain⟨a3,o⟩:=chkb o;obtain⟨b5,b6,o⟩:=bindb o;obtain⟨a4,⟨⟩⟩:=chkb o
   exact .d [(2,.len Zd f),(4,.bool a1),(8,.idx Zd b4),(9,.ixd a3),(10,.ldA Zm (Arr5.get b3) 0 2 0 a3),(14,.idx Zd b6),(15,.ixd a4),(16,.ldA Zm (Arr5.get b5) 0 2 0 a4)] 19)<|.i (.a<|.x1)
  (.u)) (λa0=>.n<|.c λb7=>.r [(3,.slice Zd f b7)]<|.m 1 (Sum.elim (λ_=>.n [0,1,6,8] 0 []) (λr=>.q (Zqf r))) (.a<|.i (.b λa5 b8=>.c λa6=>.b λa7 b9=>.c λa8=>.to [0,1,5,6,8] [.k 0 (.cells (Zm (Arr5.get a5 j))),.k 1 (.cells (Zm (Arr5.get a7 j))),.s 9 (.ptr 0 0),.s 10 (.ptr 1 0)] (by
   exact .g [(4,.idx Zd b8),(5,.ixd a6),(6,.ldA Zm (Arr5.get a5) 0 2 0 a6),(10,.idx Zd b9),(11,.ixd a8),(12,.ldA Zm (Arr5.get a7) 0 2 0 a8)] 16 (.e 14 13 (.d [] [13,14,15] []) (.d [0,1,2,3,4,5,6,7,8,9,10,11,12,14,13,15] [14,13,15] [(0,1)])))<|.l λc0 v=>.b λc1 a9=>.to [0,1,6,8] [.s 84 (vb c1)] (by
   cases c0
   ·obtain⟨c2,p,c3⟩:=bindb (ifF a9 rfl)
    replace p:=someb p
    obtain⟨c7,b0,⟨⟩⟩:=bindb c3;cases c2
    ·cases b0
     exact .r [(5,.bool v),(12,.bool p)]
    obtain⟨c8,c4,⟨⟩⟩:=bindb (ifT b0 rfl);exact .r [(5,.bool v),(12,.bool p),(17,.ca Z66 c4)]
   cases a9
   exact .r [(5,.bool v)])<|.i (.a<|.q 0 [] rfl)
  (.k))
  (.k)) (fun
  |.inl ()=>(.n<|.bc 3 ih<|.a<|.i (.a<|.q 0 [] rfl)
  (.a<|.k))
  |.inr c9=>.r λ_ _ h=>Wbq ⟨rfl,h⟩))) (fun
  |.inl t=>(.n<|.r [(2,.len Zd t)]<|.x2)
  |.inr d0=>.r λ_ _ h=>Wbq ⟨rfl,h⟩))
  (.u)) (fun
  |.inl ()=>(.n<|.a<|.e 0 [])
  |.inr d1=>.r λ_ _ h=>h))
def Z1s {a:ZL} {b:Int}:KF prog glob 241 f241 [slc 10 Zd a,i64 b] [] (Zd5 fuel a b) (λr=>vb r) (λ_=>[]):=Zzb fuel
def Zjp {b:ZL}:KF prog glob 180 f180 [slc 10 Zd b] [] (Zea b) (λr=>vb r) (λ_=>[]):=Ww func180<|.a<|.v<|.gt λc d=>.gw<|.v<|.gt λg f=>.gw<|.rc [(1,.len Zd b),(6,.len Zd c),(8,.len Zd b)] [(5,.ca Zqz d),(13,.ca Z1s f)] []<|.e 0 []
def Zvq {b:ZL}:KF prog glob 235 f235 [slc 10 Zd b] [] (Zjx b) (λr=>.tup [slc 10 Zd r.1,i64 r.2]) (λ_=>[]):=Ww func235<|.a<|.r [(1,.len Zd b)]<|.i (.a<|.e 0 [])
 (.a<|.e 0 [])
def Zzc (r:(ZL×Int)):Exit→St→List Blk→Prop:=FnQ prog f174.results 0 λp K=>p=(.tup [slc 10 Zd r.1,i64 r.2])∧K=[]
def Zuo {b:ZL}:KF prog glob 174 f174 [slc 10 Zd b] [] (Zeu b) (λr=>.tup [slc 10 Zd r.1,i64 r.2]) (λ_=>[]):=Ww func174<|.a<|.a<|.a<|.z (.wn 4 10)<|.p2 [0,4,5] 0 (λd f=>[.s 4 (slc 10 Zd d),.s 5 (i64 f)]) (Sum.elim (λg=>.n [4] 0 [.s 4 (slc 10 Zd g)]) (λr=>.q (Zzc r)))
 (λo d f=>.r [(2,.len Zd b)]<|.i (.m 2 (Sum.elim (λj=>.n [0,4,5] 0 [.s 4 (slc 10 Zd j)]) (λr=>.q (Zzc r))) (.bi 2 Zd<|.bc 4 Zci<|.a<|.i (.k)
 (.c λl=>.bc 6 Zq0<|.bc 7 Zvq<|.r [(5,.slice Zd b l)]<|.a<|.i (.a<|.q 0 [] rfl)
 (.a<|.k))) (fun
 |.inl j=>(.n<|.a<|.x2)
 |.inr p=>.r λ_ _ h=>Wbq ⟨rfl,h⟩))
 (.u)) (fun
 |.inl g=>(.n<|.a<|.e 0 [])
 |.inr t=>.r λ_ _ h=>h)
def Zxw {b:ZL}:KF prog glob 239 f239 [slc 10 Zd b] [] (Zm6 b) (λr=>.tup [slc 10 Zd r.1,i64 r.2]) (λ_=>[]):=Ww func239<|.a<|.bc 1 Zjp<|.a<|.i (.a<|.e 0 [])
 (.bc 1 Zuo<|.a<|.e 0 [])
def Zsb {b:ZL} {c:ZL} {d:Int}:KF prog glob 178 f178 [slc 10 Zd b,slc 10 Zd c,i64 d] [] (Zg3 b c d) (λr=>.tup [slc 10 Zd r.1,i64 r.2]) (λ_=>[]):=Ww func178<|.a<|.bc 1 Zxw<|.a<|.a<|.i (.a<|.e 0 [])
 (.bc 1 Zxw<|.a<|.a<|.i (.a<|.e 0 [])
 (.bc 3 Zq0<|.bc 4 Zvq<|.a<|.e 0 []))
def Zfd {b:ZL} {c:ZL}:KF prog glob 124 f124 [slc 10 Zd b,slc 10 Zd c] [] (Zb3 b c) (λr=>.tup [slc 10 Zd r.1,i64 r.2]) (λ_=>[]):=Ww func124<|.a<|.bc 2 Zsb<|.a<|.e 0 []
def Z20 {b:Z0}:KF prog glob 234 f234 [Z40 b] [] (Zm7 b) (λr=>slc 10 Zd r) (λ_=>[]):=Ww func234<|.a<|.bc 0 Zdy<|.a<|.a<|.a<|.bc 0 Zom<|.bc 3 Zfd<|.d [] 8<|.a<|.e 0 []
def Zt2 {b:ZL} {c:ZL}:KF prog glob 126 f126 [slc 10 Zd b,slc 10 Zd c] [] (Ze5 b c) (λr=>.tup [slc 10 Zd r.1,i64 r.2]) (λ_=>[]):=Ww func126<|.a<|.bc 2 Zsb<|.a<|.e 0 []
def Z21 (r:(ZL×Int)):Exit→St→List Blk→Prop:=FnQ prog f172.results 0 λp K=>p=(.tup [slc 10 Zd r.1,i64 r.2])∧K=[]
def Zu8 {c:Zs} {d:ByteArray}:KF prog glob 172 f172 [Zb1 c,vstr d] [] (Zm8 c d) (λr=>.tup [slc 10 Zd r.1,i64 r.2]) (λ_=>[]):=Ww func172<|.a<|.bc 1 Zia<|.a<|.i (.a<|.e 0 [])
 (.a<|.i (.bc 0 Zom<|.a<|.e 0 [])
 (.b λk l=>.r [(4,.ca Zxu l)]<|.a<|.i (.a<|.e 0 [])
 (.a<|.a<|.z (.wn 8 10)<|.p2 [6,8,9] 1 (λf g=>[.s 8 (slc 10 Zd f),.s 9 (i64 g)]) (Sum.elim (λj=>.n [8] 1 [.s 8 (slc 10 Zd j)]) (λr=>.q (Z21 r)))
 (λm f g=>.r [(2,.len Z4 k.1)]<|.i (.bi 3 Z4<|.bc 5 Z20<|.bc 6 Zt2<|.a<|.a<|.i (.a<|.s 0 [] rfl)
 (.a<|.x2))
 (.u)) (fun
 |.inl j=>(.n<|.a<|.e 0 [])
 |.inr o=>.r λ_ _ h=>h))))
def Zu9 {d:Yc} {f:Yc}:KF prog glob 177 f177 [slc 2 Zm d,slc 2 Zm f] [] (Zm9 d f) (λr=>.tup [slc 10 Zd r.1,i64 r.2]) (λ_=>[]):=Ww func177<|.a<|.a<|.z (.own 6 10 83)<|.a<|.p2 [0,1,6,7] 1 (λj k=>[.l 0 Zd j,.s 7 (i64 k)]) (λg=>.n [6] 1 [.l 0 Zd g])
 (λv j k=>.r [(2,.len Zm d)]<|.i (.a<|.p2 [0,1,6,7,8] 1 (λm o=>[.l 0 Zd m,.s 8 (i64 o)]) (λp=>.n [0,1,6,7] 1 [.l 0 Zd p])
 (λw m o=>.r [(2,.len Zm f)]<|.i (.bc 0 Zdy<|.a<|.bi 2 Zm<|.bi 6 Zm<|.d0 [] 10 [] [9] []<|.c λq=>.r [(3,.app Zd (λ_=>kR) q)]<|.a<|.x2)
 (.u)) (λp=>.n<|.a<|.x2))
 (.u)) (λg=>.n<|.z (.share 0)<|.b λr88 t=>.r [(1,.cw [.of Zd g] Zuo t)]<|.e 0 [])
def Zva {b:ZL} {c:ZL}:KF prog glob 125 f125 [slc 10 Zd b,slc 10 Zd c] [] (Zfx b c) (λr=>.tup [slc 10 Zd r.1,i64 r.2]) (λ_=>[]):=Ww func125<|.a<|.bc 2 Zsb<|.a<|.e 0 []
def Z0e (r:(ZL×Int)):Exit→St→List Blk→Prop:=FnQ prog f123.results 0 λp K=>p=(.tup [slc 10 Zd r.1,i64 r.2])∧K=[]
def Zt3 {c:Zb} {b:Zs} {d:Int}:KF prog glob 123 f123 [Zu c,Zb1 b,i64 d] [] (Zj9 c b d) (λr=>.tup [slc 10 Zd r.1,i64 r.2]) (λ_=>[]):=Ww func123<|.a<|.bc 1 Zca<|.v<|.ge λl j=>.gw<|.rc [] [(5,.ca Zia j)] []<|.i (.a<|.e 0 [])
 (.v<|.rc [(6,.len Zav b.Statements)] [] []<|.i (.a<|.e 0 [])
 (.bi 3 Zav<|.a<|.bc 4 Zfs<|.a<|.a<|.i (.a<|.e 0 [])
 (.bc 4 Zfs<|.a<|.a<|.i (.a<|.e 0 [])
 (.bc 3 Zu8<|.a<|.a<|.i (.a<|.e 0 [])
 (.a<|.m 1 (Sum.elim (λ(f,g)=>.n [8,9,11,12,13,14] 3 [.s 13 (slc 2 Zm f),.s 14 (slc 2 Zm g)]) (λr=>.q (Z0e r))) (.a<|.i (.bc 4 Zfs<|.a<|.a<|.i (.a<|.q 0 [] rfl)
 (.bc 4 Zfs<|.a<|.a<|.i (.a<|.q 0 [] rfl)
 (.k)))
 (.y (.wn 13 2)<|.y (.wn 14 2)<|.k)) (fun
 |.inl (f,g)=>(.n<|.bc 2 Zu9<|.a<|.a<|.i (.a<|.e 0 [])
 (.bc 2 Zfd<|.a<|.v<|.rc [] [] []<|.i (.a<|.e 0 [])
 (.bc 2 Zu9<|.a<|.a<|.i (.a<|.e 0 [])
 (.bc 2 Zva<|.a<|.e 0 []))))
 |.inr o=>.r λ_ _ h=>h))))))
def Z22 (r:Bool):Exit→St→List Blk→Prop:=FnQ prog f173.results 0 λp K=>p=(vb r)∧K=[]
def Zrg {b:Zb} {c:ByteArray}:KF prog glob 173 f173 [Zu b,vstr c] [] (Zq9 b c) (λr=>vb r) (λ_=>[]):=Ww func173<|.a<|.a<|.p1 [1,2,5] 1 (λd=>[.s 5 (i64 d)]) (Sum.elim (λ_=>.n [] 1 []) (λr=>.q (Z22 r)))
 (λf d=>.r [(3,.len Zj b.Devices)]<|.i (.bi 3 Zj<|.a<|.i (.a<|.s 0 [] rfl)
 (.a<|.x1))
 (.u)) (fun
 |.inl ()=>(.n<|.a<|.e 0 [])
 |.inr g=>.r λ_ _ h=>h)
def Zle (r:Int):Exit→St→List Blk→Prop:=FnQ prog f120.results 0 λp K=>p=(i64 r)∧K=[]
def Zwq {w:Zb} {f:Zs}:KF prog glob 120 f120 [Zu w,Zb1 f] [] (Zla w f) (λr=>i64 r) (λ_=>[]):=Ww func120<|.a<|.bc 1 Zca<|.v<|.ge λb1 a3=>.gw<|.rc [] [(5,.ca Zia a3)] []<|.i (.a<|.e 0 [])
 (.a<|.p1 [2,3,5] 2 (λx=>[.s 5 (i64 x)]) (Sum.elim (λ_=>.n [2,3] 2 []) (λr=>.q (Zle r)))
 (λb2 x=>.r [(3,.len Zr f.Groups)]<|.i (.bi 5 Zr<|.bc 8 Zfs<|.d [] 13<|.a<|.i (.a<|.s 0 [] rfl)
 (.a<|.x1))
 (.u)) (fun
 |.inl ()=>(.n<|.a<|.p1 [2,3,8] 2 (λy=>[.s 8 (i64 y)]) (Sum.elim (λ_=>.n [2,3] 2 []) (λr=>.q (Zle r)))
 (λb3 y=>.r [(3,.len Zr f.Services)]<|.i (.bi 4 Zr<|.bc 7 Zu8<|.d [] 12<|.a<|.i (.a<|.s 0 [] rfl)
 (.a<|.x1))
 (.u)) (fun
 |.inl ()=>(.n<|.a<|.p1 [2,3,11] 2 (λz=>[.s 11 (i64 z)]) (Sum.elim (λ_=>.n [2,3] 2 []) (λr=>.q (Zle r)))
 (λb4 z=>.r [(3,.len Zav f.Statements)]<|.i (.bi 3 Zav<|.a<|.bc 3 Zt3<|.a<|.a<|.i (.a<|.s 0 [] rfl)
 (.l λa4 g=>.b λb5 a0=>.l λa5 k=>.b λa6 m=>.to [2,3,11] [.s 114 (vb a6)] (by
 cases a4
 ·cases a0
  subst k;obtain⟨o,c,a7⟩:=bindb (ifF m rfl)
  replace c:=someb c
  obtain⟨a8,j,⟨⟩⟩:=bindb a7;cases o
  ·cases j
   exact .r [(3,.bool g),(14,.bool c)]
  obtain⟨a9,p,⟨⟩⟩:=bindb (ifT j rfl);exact .r [(3,.bool g),(14,.bool c),(19,.ca Zf6 p)]
 obtain⟨b6,t,⟨⟩⟩:=bindb (ifT a0 rfl);cases a5
 ·obtain⟨o,c,b0⟩:=bindb (ifF m rfl)
  replace c:=someb c
  obtain⟨a8,j,⟨⟩⟩:=bindb b0;cases o
  ·cases j
   exact .r [(3,.bool g),(7,.ca Zrg t),(10,.bool k),(14,.bool c)]
  obtain⟨a9,p,⟨⟩⟩:=bindb (ifT j rfl);exact .r [(3,.bool g),(7,.ca Zrg t),(10,.bool k),(14,.bool c),(19,.ca Zf6 p)]
 cases m
 exact .r [(3,.bool g),(7,.ca Zrg t),(10,.bool k)])<|.i (.a<|.s 0 [] rfl)
 (.a<|.x1)))
 (.u)) (fun
 |.inl ()=>(.n<|.a<|.p1 [2,3,15] 2 (λa1=>[.s 15 (i64 a1)]) (Sum.elim (λ_=>.n [2,3] 2 []) (λr=>.q (Zle r)))
 (λb7 a1=>.r [(3,.len Zay f.Published)]<|.i (.bi 4 Zay<|.bc 7 Zjn<|.d [] 9<|.i (.a<|.s 0 [] rfl)
 (.a<|.x1))
 (.u)) (fun
 |.inl ()=>(.n<|.a<|.p1 [2,3,16] 2 (λa2=>[.s 16 (i64 a2)]) (Sum.elim (λ_=>.n [] 2 []) (λr=>.q (Zle r)))
 (λb8 a2=>.r [(3,.len Za1 f.Hidden)]<|.i (.bi 4 Za1<|.bc 7 Zjn<|.d [] 9<|.i (.a<|.s 0 [] rfl)
 (.bi 5 Za1<|.bc 8 Zfs<|.d [] 13<|.a<|.i (.a<|.s 0 [] rfl)
 (.a<|.x1)))
 (.u)) (fun
 |.inl ()=>(.n<|.a<|.e 0 [])
 |.inr b9=>.r λ_ _ h=>h))
 |.inr c0=>.r λ_ _ h=>h))
 |.inr c1=>.r λ_ _ h=>h))
 |.inr c2=>.r λ_ _ h=>h))
 |.inr c3=>.r λ_ _ h=>h))
def Zeq {b:Zb} {c:Int} {d:Int}:KF prog glob 138 f138 [Zu b,i64 c,i64 d] [] (Zbi b c d) (λr=>Zbo r) (λ_=>[]):=Ww func138<|.a<|.bc 0 Zdy<|.a<|.bi 3 Zk<|.bc 6 Zep<|.a<|.bi 3 Zk<|.bc 6 Zep<|.a<|.a<|.e 0 []
def Z67 {d:Zb}:KF prog glob 121 f121 [Zu d] [] (Ztu d) (λr=>.tup [slc 10 Zd r.1,i64 r.2]) (λ_=>[]):=Ww func121<|.a<|.bc 1 Zca<|.a<|.i (.a<|.e 0 [])
 (.a<|.z (.own 4 10 83)<|.a<|.p2 [1,4,5] 2 (λg j=>[.l 1 Zd g,.s 5 (i64 j)]) (λf=>.n [4] 2 [.l 1 Zd f])
 (λx g j=>.r [(3,.len Zk d.Edges)]<|.i (.a<|.p2 [1,4,5,6] 2 (λo p=>[.l 1 Zd o,.s 6 (i64 p)]) (λq=>.n [1,4,5] 2 [.l 1 Zd q])
 (λy o p=>.r [(3,.len Zk d.Edges)]<|.i (.m 2 (λt=>.n [1,4,5,6] 2 [.l 1 Zd t]) (.a<|.i (.bc 4 Zeq<|.c λv=>.r [(6,.app Zd (λ_=>kR) v)]<|.k)
 (.k)) (λt=>.n<|.a<|.x2))
 (.u)) (λq=>.n<|.a<|.x2))
 (.u)) (λf=>.n<|.z (.share 1)<|.b λa0 w=>.r [(1,.cw [.of Zd f] Zuo w)]<|.a<|.i (.a<|.e 0 [])
 (.bc 1 Zom<|.bc 2 Zfd<|.a<|.e 0 [])))
def Z5p {b:Yc} {c:Int}:KF prog glob 238 f238 [slc 2 Zm b,i64 c] [] (Zsw b c) (λr=>vb r) (λ_=>[]):=Ww func238<|.a<|.v<|.v<|.gt λf d=>.gw<|.rc [] [(10,.ca Zrf d)] []<|.e 0 []
def Z4a {f:Zs} {g:Int} {i:Int}:KF prog glob 176 f176 [Zb1 f,i64 g,i64 i] [] (Zr6 f g i) (λr=>vb r) (λ_=>[]):=Ww func176<|.a<|.bi 3 Zav<|.a<|.bc 3 Zf6<|.a<|.l λm d=>.b λn j=>.to [] [.s 6 (vb n)] (by
 cases m
 ·obtain⟨o,c,p⟩:=bindb (ifF j rfl)
  replace c:=someb c
  obtain⟨v,k,⟨⟩⟩:=bindb p;cases o
  ·cases k
   exact .r [(2,.bool d),(5,.bool c)]
  obtain⟨w,q,t⟩:=bindb (ifT k rfl);obtain⟨x,u,⟨⟩⟩:=bindb t;exact .r [(2,.bool d),(5,.bool c),(9,.idx Za0 q),(13,.ca Z5p u)]
 cases j
 exact .r [(2,.bool d)])<|.e 0 []
def Z5q {b:Zs} {f:Int}:KF prog glob 122 f122 [Zb1 b,i64 f] [] (Zsx b f) (λr=>slc 1 Ze r) (λ_=>[]):=Ww func122<|.a<|.bc 1 Zia<|.v<|.v<|.rc [] [] []<|.i (.a<|.e 0 [])
 (.a<|.z (.own 5 1 3)<|.a<|.p2 [1,2,5,6] 2 (λg j=>[.l 1 Ze g,.s 6 (i64 j)]) (λd=>.n [5] 2 [.l 1 Ze d])
 (λy g j=>.a<|.i (.a<|.p2 [1,2,5,6,7] 2 (λo p=>[.l 1 Ze o,.s 7 (i64 p)]) (λq=>.n [1,2,5,6] 2 [.l 1 Ze q])
 (λa0 o p=>.r [(3,.len Zav b.Statements)]<|.i (.m 2 (λt=>.n [1,2,5,6,7] 2 [.l 1 Ze t]) (.bi 3 Zav<|.v<|.gt λa1 w=>.gw<|.rc [] [(12,.ca Z4a w)] []<|.i (.c λx=>.r [(3,.app Ze (λ_=>kR) x)]<|.k)
 (.k)) (λt=>.n<|.a<|.x2))
 (.u)) (λq=>.n<|.a<|.x2))
 (.u)) (λd=>.n<|.a<|.e 0 [.of Ze d]))
def Z8o {d:Yu} {j:ByteArray} {g:ZL}:KF prog glob 127 f127 [slc 2 Zaf d,vstr j,slc 10 Zd g] [] (Zun d j g) (λr=>.tup [slc 2 Zaf r.1,i64 r.2]) (λ_=>[]):=Ww func127<|.a<|.v<|.rc [(4,.len Zd g)] [] []<|.i (.a<|.e 0 [])
 (.a<|.p1 [0,1,2,8] 0 (λo=>[.s 8 (i64 o)]) (λf=>.n [0,1,2,8] 0 [.s 8 (i64 f)])
 (λa4 o=>.v<|.gt λa5 q=>.gw<|.rc [(2,.len Zaf d)] [(7,.idx Zaf q)] []<|.i (.a<|.x1)
 (.u)) (λf=>.n<|.v<|.ge λa6 t=>.gw<|.rc [(2,.len Zaf d)] [(7,.idx Zaf t)] []<|.i (.c λw=>.c λx=>.c λy=>.c λa0=>.c λa1=>.d0 [(0,.m),(3,.slice Zaf d w),(4,.app Zaf (λ_=>kR) x),(9,.app Zaf (λ_=>kR) y),(12,.slice Zaf d a0),(13,.app Zaf (λ_=>kR) a1)] 14 [] [0,4,9,13] []<|.e 0 [.of Zaf (((([]:Yu)++(List.drop (Int.toNat (0:Int)) (List.take (Int.toNat f) d)))++[Z7.mk j g])++(List.drop (Int.toNat f) (List.take (Int.toNat (d.length:Int)) d)))])
 (.bi 2 Zaf<|.b λk a2=>.r [(6,.ca Zt2 a2)]<|.c λa3=>.r [(0,.m),(2,.app Zaf (λ_=>kR) a3)]<|.b λl p=>.r [(3,.idx Zaf p),(4,.fdE Zaf (([]:Yu)++d) f),(5,.stE Zaf p ({l with Set:=k.1}:Z7))]<|.z (.pick [10,11])<|.z (.ln 0 (lset (([]:Yu)++d) (Int.toNat f) ({l with Set:=k.1}:Z7)))<|.a<|.e 0 [.of Zaf (List.set (([]:Yu)++d) (Int.toNat f) ({l with Set:=k.1}:Z7))])))
def Z1f (r:(Zaa×Int)):Exit→St→List Blk→Prop:=FnQ prog f66.results 0 λp K=>p=(.tup [Zg8 r.1,i64 r.2])∧K=[]
def Zaal {f:Zb} {g:Zs} {j:Int}:KF prog glob 66 f66 [Zu f,Zb1 g,i64 j] [] (Zsm f g j) (λr=>.tup [Zg8 r.1,i64 r.2]) (λ_=>[]):=Ww func66<|.a<|.bc 1 Zca<|.v<|.ge λa5 a2=>.gw<|.rc [] [(5,.ca Zia a2)] []<|.i (.a<|.e 0 [])
 (.v<|.rc [] [] []<|.i (.a<|.e 0 [])
 (.bc 2 Zwq<|.a<|.a<|.i (.a<|.e 0 [])
 (.bc 1 Z67<|.a<|.a<|.i (.a<|.e 0 [])
 (.a<|.b λa3 a4=>.r [(2,.ca Z5q a4)]<|.a<|.p3 [3,4,6,9,11,12,13] 4 (λl o p=>[.c 3 (Zky l),.s 9 (slc 10 Zd o),.s 13 (i64 p)]) (Sum.elim (λt=>.n [6,11] 4 [.c 3 (Zky t)]) (λr=>.q (Z1f r)))
 (λa6 l o p=>.r [(2,.len Ze a3)]<|.i (.m 2 (Sum.elim (λ(w,x)=>.n [3,4,6,9,11,12,13] 4 [.c 3 (Zky w),.s 9 (slc 10 Zd x)]) (λr=>.q (Z1f r))) (.bi 4 Ze<|.bi 6 Zav<|.d0 [] 9 [] [8] []<|.bi 4 Ze<|.bc 6 Zt3<|.d [] 11<|.bc 2 Zfd<|.a<|.a<|.i (.a<|.q 0 [] rfl)
 (.bc 2 Zva<|.a<|.m 1 (λ(y,z)=>.n [3,4,6,9,11,12,13,14,17,18] 5 [.c 3 (Zky y),.s 18 (i64 z)]) (.v<|.rc [] [] []<|.i (.bc 3 Zt2<|.a<|.k)
 (.k)) (λ(y,z)=>.n<|.m 1 (λ(a0,a1)=>.n [3,4,6,9,11,12,13,18] 5 [.c 3 (Zky a0),.s 18 (i64 a1)]) (.v<|.rc [] [] []<|.i (.bc 5 Z8o<|.a<|.k)
 (.k)) (λ(a0,a1)=>.n<|.a<|.i (.a<|.q 0 [] rfl)
 (.k))))) (fun
 |.inl (w,x)=>(.n<|.a<|.x3)
 |.inr a7=>.r λ_ _ h=>Wbq ⟨rfl,h⟩))
 (.u)) (fun
 |.inl t=>(.n<|.a<|.e 0 [])
 |.inr a8=>.r λ_ _ h=>h)))))
def Zaam (r:Int):Exit→St→List Blk→Prop:=FnQ prog f107.results 0 λp K=>p=(i64 r)∧K=[]
def Zsq {b:Zb} {c:Int}:KF prog glob 107 f107 [Zu b,u32 c] [] (Zfk b c) (λr=>i64 r) (λ_=>[]):=Ww func107<|.a<|.a<|.p1 [1,2,5] 1 (λd=>[.s 5 (i64 d)]) (Sum.elim (λ_=>.n [] 1 []) (λr=>.q (Zaam r)))
 (λj d=>.r [(3,.len Zk b.Edges)]<|.i (.bi 3 Zk<|.v<|.gt λk f=>.gt λl g=>.gw<|.rc [] [(11,.idx Zk f),(15,.ca Zdg g)] []<|.i (.a<|.s 0 [] rfl)
 (.a<|.x1))
 (.u)) (fun
 |.inl ()=>(.n<|.a<|.e 0 [])
 |.inr m=>.r λ_ _ h=>h)
def Z5r (r:Bool):Exit→St→List Blk→Prop:=FnQ prog f179.results 0 λp K=>p=(vb r)∧K=[]
def Zwr {b:Zb} {c:Int}:KF prog glob 179 f179 [Zu b,u32 c] [] (Zlb b c) (λr=>vb r) (λ_=>[]):=Ww func179<|.a<|.a<|.p1 [1,2,5] 1 (λd=>[.s 5 (i64 d)]) (Sum.elim (λ_=>.n [1,2] 1 []) (λr=>.q (Z5r r)))
 (λf d=>.r [(3,.len Zy b.Pools)]<|.i (.bi 3 Zy<|.bc 6 Zdg<|.a<|.i (.a<|.s 0 [] rfl)
 (.a<|.x1))
 (.u)) (fun
 |.inl ()=>(.n<|.bc 2 Zsq<|.a<|.e 0 [])
 |.inr g=>.r λ_ _ h=>h)
def Z0f (r:Int):Exit→St→List Blk→Prop:=FnQ prog f128.results 0 λp K=>p=(i64 r)∧K=[]
def Z0g {v:Zb} {w:Yw} {x:Int}:KF prog glob 128 f128 [Zu v,slc 6 Zay w,i64 x] [] (Zka v w x) (λr=>i64 r) (λ_=>[]):=Ww func128<|.a<|.bi 2 Zay<|.a<|.bc 3 Zwr<|.a<|.i (.a<|.e 0 [])
 (.bc 3 Zsq<|.a<|.i (.a<|.e 0 [])
 (.bc 3 Zsq<|.bc 7 Zjn<|.d [] 10<|.i (.a<|.e 0 [])
 (.a<|.p1 [1,2,7,8] 2 (λy=>[.s 8 (i64 y)]) (Sum.elim (λ_=>.n [] 2 []) (λr=>.q (Z0f r)))
 (λa4 y=>.a<|.i (.bi 2 Zay<|.a<|.l λz f=>.l λa0 g=>.b λa1 m=>.to [1,2,7,8] [.s 83 (vb a1)] (by
 cases z
 ·subst g
  cases m;exact .r [(5,.bool f)]
 cases a0
 ·cases m
  exact .r [(5,.bool f),(12,.bool g)]
 obtain⟨a2,j,o⟩:=bindb (ifT m rfl)
 replace j:=someb j
 obtain⟨a3,k,o⟩:=bindb o
 replace k:=someb k
 obtain⟨a5,p,⟨⟩⟩:=bindb o;cases a2
 ·subst k
  obtain⟨t,c,⟨⟩⟩:=bindb (ifF p rfl)
  replace c:=someb c
  cases t
  ·exact .r [(5,.bool f),(12,.bool g),(18,.bool j),(31,.bool c)]
  exact .r [(5,.bool f),(12,.bool g),(18,.bool j),(31,.bool c)]
 cases a3
 ·obtain⟨t,c,⟨⟩⟩:=bindb (ifF p rfl)
  replace c:=someb c
  cases t
  ·exact .r [(5,.bool f),(12,.bool g),(18,.bool j),(25,.bool k),(31,.bool c)]
  exact .r [(5,.bool f),(12,.bool g),(18,.bool j),(25,.bool k),(31,.bool c)]
 cases p
 exact .r [(5,.bool f),(12,.bool g),(18,.bool j),(25,.bool k)])<|.i (.a<|.s 0 [] rfl)
 (.a<|.x1))
 (.u)) (fun
 |.inl ()=>(.n<|.a<|.e 0 [])
 |.inr a6=>.r λ_ _ h=>h))))
def Zvr (r:Int):Exit→St→List Blk→Prop:=FnQ prog f129.results 0 λp K=>p=(i64 r)∧K=[]
def Z4b {f:Zb} {c:Zs} {g:Int}:KF prog glob 129 f129 [Zu f,Zb1 c,i64 g] [] (Zn4 f c g) (λr=>i64 r) (λ_=>[]):=Ww func129<|.a<|.bi 3 Za1<|.a<|.bc 3 Zwr<|.a<|.i (.a<|.e 0 [])
 (.a<|.p1 [2,4,7,8] 3 (λj=>[.s 8 (i64 j)]) (Sum.elim (λ_=>.n [2,4,7] 3 []) (λr=>.q (Zvr r)))
 (λa3 j=>.r [(3,.len Zay c.Published)]<|.i (.b λa4 k=>.l λx m=>.b λy o=>.to [2,4,7,8] [.s 45 (vb y)] (by
 cases x
 ·cases o
  exact .d [(3,.idx Zay k),(9,.bool m)] 20
 obtain⟨a5,z,⟨⟩⟩:=bindb (ifT o rfl)
 exact .d [(3,.idx Zay k),(9,.bool m),(13,.idx Zay z)] 20)<|.i (.a<|.s 0 [] rfl)
 (.a<|.x1))
 (.u)) (fun
 |.inl ()=>(.n<|.a<|.p1 [2,4,7,9] 3 (λp=>[.s 9 (i64 p)]) (Sum.elim (λ_=>.n [] 3 []) (λr=>.q (Zvr r)))
 (λa6 p=>.a<|.i (.b λa7 t=>.l λa0 v=>.b λa1 w=>.to [2,4,7,9] [.s 70 (vb a1)] (by
 cases a0
 ·cases w
  exact .d [(3,.idx Za1 t),(9,.bool v)] 20
 obtain⟨a8,a2,⟨⟩⟩:=bindb (ifT w rfl)
 exact .d [(3,.idx Za1 t),(9,.bool v),(13,.idx Za1 a2)] 20)<|.i (.a<|.s 0 [] rfl)
 (.a<|.x1))
 (.u)) (fun
 |.inl ()=>(.n<|.a<|.e 0 [])
 |.inr a9=>.r λ_ _ h=>h))
 |.inr b0=>.r λ_ _ h=>h))
def Zvb {j:Zb} {f:Zs} {o:Int}:KF prog glob 72 f72 [Zu j,Zb1 f,i64 o] [] (Zfy j f o) (λr=>slc 13 Zat r) (λ_=>[]):=Ww func72<|.a<|.a<|.a<|.z (.own 8 13 86)<|.a<|.p2 [2,3,4,7,8,9] 3 (λp q=>[.l 2 Zat p,.s 9 (i64 q)]) (λg=>.n [8] 3 [.l 2 Zat g])
 (λa7 p q=>.r [(3,.len Za1 f.Hidden)]<|.i (.m 2 (λt=>.n [2,3,4,7,8,9] 3 [.l 2 Zat t]) (.bi 4 Za1<|.bc 7 Zjn<|.d [] 10<|.i (.k)
 (.bi 5 Za1<|.b λa4 a5=>.d [(8,.ca Zfs a5)] 13<|.a<|.p2 [2,3,4,7,8,9,10,12] 3 (λv w=>[.l 2 Zat v,.s 12 (i64 w)]) (λx=>.n [2,3,4,7,8,9] 3 [.l 2 Zat x])
 (λa8 v w=>.r [(2,.len Zm a4.1)]<|.i (.a<|.p2 [2,3,4,7,8,9,10,12,13] 3 (λy a0=>[.l 2 Zat y,.s 13 (i64 a0)]) (λa1=>.n [2,3,4,7,8,9,10,12] 3 [.l 2 Zat a1])
 (λa9 y a0=>.r [(2,.len Zm [Za.mk (6:Int) (6:Int),Za.mk (17:Int) (17:Int),Za.mk (1:Int) (1:Int),Za.mk (0:Int) (0:Int),Za.mk (2:Int) (5:Int),Za.mk (7:Int) (16:Int),Za.mk (18:Int) (255:Int)])]<|.i (.m 2 (λa2=>.n [2,3,4,7,8,9,10,12,13] 3 [.l 2 Zat a2]) (.bc 0 Zdy<|.bi 4 Za1<|.d0 [] 9 [] [8] []<|.bi 2 Zm<|.bi 6 Zm<|.d0 [] 12 [] [10] []<|.m 1 (λa3=>.n [2,3,4,7,8,9,10,12,13,14] 4 [.c 3 (Zat a3)]) (.a<|.i (.bi 3 Za1<|.a<|.k)
 (.k)) (λa3=>.n<|.c λa6=>.r [(3,.app Zat (λ_=>kR) a6)]<|.k)) (λa2=>.n<|.a<|.x2))
 (.u)) (λa1=>.n<|.a<|.x2))
 (.u)) (λx=>.n<|.k))) (λt=>.n<|.a<|.x2))
 (.u)) (λg=>.n<|.a<|.e 0 [.of Zat g])
def Zs5 (r:Int):Exit→St→List Blk→Prop:=FnQ prog f67.results 0 λp K=>p=(i64 r)∧K=[]
def Z5s {d:Zb} {c:Zs}:KF prog glob 67 f67 [Zu d,Zb1 c] [] (Zph d c) (λr=>i64 r) (λ_=>[]):=Ww func67<|.a<|.bc 2 Zwq<|.a<|.a<|.i (.a<|.e 0 [])
 (.a<|.p1 [2,3,6] 2 (λf=>[.s 6 (i64 f)]) (Sum.elim (λ_=>.n [2,3] 2 []) (λr=>.q (Zs5 r)))
 (λm f=>.r [(3,.len Zay c.Published)]<|.i (.bc 4 Z0g<|.a<|.a<|.i (.a<|.s 0 [] rfl)
 (.a<|.x1))
 (.u)) (fun
 |.inl ()=>(.n<|.a<|.p1 [2,3,8] 2 (λg=>[.s 8 (i64 g)]) (Sum.elim (λ_=>.n [2,3] 2 []) (λr=>.q (Zs5 r)))
 (λo g=>.r [(3,.len Za1 c.Hidden)]<|.i (.bc 3 Z4b<|.a<|.a<|.i (.a<|.s 0 [] rfl)
 (.a<|.x1))
 (.u)) (fun
 |.inl ()=>(.n<|.a<|.p1 [2,3,10] 2 (λj=>[.s 10 (i64 j)]) (Sum.elim (λ_=>.n [] 2 []) (λr=>.q (Zs5 r)))
 (λp j=>.r [(3,.len Zk d.Edges)]<|.i (.b λk l=>.r [(3,.ca Zvb l),(4,.len Zat k)]<|.i (.a<|.s 0 [] rfl)
 (.a<|.x1))
 (.u)) (fun
 |.inl ()=>(.n<|.a<|.e 0 [])
 |.inr t=>.r λ_ _ h=>h))
 |.inr v=>.r λ_ _ h=>h))
 |.inr w=>.r λ_ _ h=>h))
def Zpz {c:ZL} {d:ZL}:KF prog glob 182 f182 [slc 10 Zd c,slc 10 Zd d] [] (Zdn c d) (λr=>vb r) (λ_=>[]):=Ww func182<|.a<|.bc 1 Zqz<|.bc 3 Zqz<|.b λf g=>.r [(4,.ca Zq0 g),(5,.len Zd f)]<|.e 0 []
def Z68 {d:Zb} {g:ZL}:KF prog glob 181 f181 [Zu d,slc 10 Zd g] [] (Zqo d g) (λr=>vb r) (λ_=>[]):=Ww func181<|.a<|.a<|.z (.own 5 10 83)<|.a<|.p2 [1,2,5,6] 2 (λj o=>[.l 1 Zd j,.s 6 (i64 o)]) (λf=>.n [1,5] 2 [.l 1 Zd f])
 (λa2 j o=>.r [(3,.len Zk d.Edges)]<|.i (.a<|.p2 [1,2,5,6,7] 2 (λp q=>[.l 1 Zd p,.s 7 (i64 q)]) (λt=>.n [1,2,5,6] 2 [.l 1 Zd t])
 (λa3 p q=>.r [(3,.len Zk d.Edges)]<|.i (.m 2 (λw=>.n [1,2,5,6,7] 2 [.l 1 Zd w]) (.a<|.i (.bc 4 Zeq<|.c λx=>.r [(6,.app Zd (λ_=>kR) x)]<|.k)
 (.k)) (λw=>.n<|.a<|.x2))
 (.u)) (λt=>.n<|.a<|.x2))
 (.u)) (λf=>.n<|.z (.share 1)<|.b λa4 y=>.v<|.gt λa5 a0=>.gt λa6 a1=>.gw<|.rc [(2,.cw [.of Zd f] Zpz y)] [(5,.ca Zom a0),(6,.ca Zpz a1)] []<|.e 0 [])
def Zmk {b:ZB} {f:ZB}:KF prog glob 106 f106 [Zbo b,Zbo f] [] (Zc7 b f) (λr=>.tup [Zbo r.1,vb r.2]) (λ_=>[]):=Ww func106<|.a<|.a<|.a<|.p2 [2,3,4,6,7] 4 (λj g=>[.c 3 (Zd j),.s 7 (i64 g)]) (λk=>.n [2,3,4,6] 4 [.c 3 (Zd k)])
 (λy j g=>.a<|.i (.c λl=>.c λm=>.c λo=>.c λp=>.c λq=>.d [(2,.ixd l),(4,.ldA Zm (Arr5.get b) 0 2 0 l),(6,.ixd m),(8,.ldA Zm (Arr5.get f) 0 2 0 m),(11,.ixd o),(13,.ldA Zm (Arr5.get b) 0 2 1 o),(15,.ixd p),(17,.ldA Zm (Arr5.get f) 0 2 1 p),(20,.ixd q),(21,.stA (λt=>Zd (Arr5.set j t (Za.mk (iMax ((Arr5.get b g).Lo) ((Arr5.get f g).Lo)) (iMin ((Arr5.get b g).Hi) ((Arr5.get f g).Hi))))) 0 2 0 q)] 20<|.a<|.x2)
 (.u)) (λk=>.n<|.bc 1 Zci<|.v<|.ge λz w=>.gw<|.v<|.ge λa0 x=>.gw<|.rc [] [(5,.ca Zci w),(10,.ca Zci x)] []<|.i (.a<|.e 0 [])
 (.a<|.e 0 []))
def Zug (r:Bool):Exit→St→List Blk→Prop:=FnQ prog f183.results 0 λp K=>p=(vb r)∧K=[]
def Z1t {b:ZL} {c:ZL}:KF prog glob 183 f183 [slc 10 Zd b,slc 10 Zd c] [] (Zqb b c) (λr=>vb r) (λ_=>[]):=Ww func183<|.a<|.a<|.p1 [0,1,5] 0 (λd=>[.s 5 (i64 d)]) (Sum.elim (λ_=>.n [] 0 []) (λr=>.q (Zug r)))
 (λg d=>.r [(2,.len Zd b)]<|.i (.a<|.p1 [0,1,5,6] 0 (λf=>[.s 6 (i64 f)]) (Sum.elim (λ_=>.n [0,1,5] 0 []) (λr=>.q (Zug r)))
 (λj f=>.r [(2,.len Zd c)]<|.i (.bi 2 Zd<|.bi 6 Zd<|.bc 8 Zmk<|.d0 [] 14 [] [12,13] []<|.a<|.i (.a<|.s 0 [] rfl)
 (.a<|.x1))
 (.u)) (fun
 |.inl ()=>(.n<|.a<|.x1)
 |.inr k=>.r λ_ _ h=>Wbq ⟨rfl,h⟩))
 (.u)) (fun
 |.inl ()=>(.n<|.a<|.e 0 [])
 |.inr l=>.r λ_ _ h=>h)
def Zws (r:Bool):Exit→St→List Blk→Prop:=FnQ prog f130.results 0 λp K=>p=(vb r)∧K=[]
def Zwt {a0:Zb} {y:Zaa}:KF prog glob 130 f130 [Zu a0,Zg8 y] [] (Zpi a0 y) (λr=>vb r) (λ_=>[]):=Ww func130<|.a<|.bc 1 Zca<|.v<|.ge λb7 a7=>.gw<|.v<|.ge λb8 a8=>.gw<|.rc [] [(6,.ca Zjp a7),(13,.ca Z68 a8)] []<|.i (.a<|.e 0 [])
 (.a<|.p1 [3,5] 2 (λa1=>[.s 5 (i64 a1)]) (Sum.elim (λ_=>.n [] 2 []) (λr=>.q (Zws r)))
 (λb9 a1=>.r [(3,.len Zaf y.Inspect)]<|.i (.b λo a9=>.r [(3,.idx Zaf a9)]<|.b λc0 f=>.l λb0 g=>.b λc1 a2=>.l λb1 p=>.l λa3 j=>.b λc2 t=>.l λa4 k=>.b λb2 m=>.to [3,5,6] [.s 75 (vb b2)] (by
 cases b0
 ·obtain⟨b3,c,b4⟩:=bindb (ifF a2 rfl)
  replace c:=someb c
  obtain⟨c3,a5,⟨⟩⟩:=bindb b4;cases b3
  ·cases a5
   subst p;cases a3
   ·obtain⟨b5,w,⟨⟩⟩:=bindb (ifF t rfl)
    cases a4
    ·obtain⟨b6,z,⟨⟩⟩:=bindb (ifF m rfl)
     exact .d [(2,.ca Zae f),(4,.bool g),(7,.bool c),(23,.len Zd o.Set),(26,.bool j),(29,.ca Zjp w),(32,.bool k),(37,.ca Zpz z)] 40
    cases m;exact .d [(2,.ca Zae f),(4,.bool g),(7,.bool c),(23,.len Zd o.Set),(26,.bool j),(29,.ca Zjp w),(32,.bool k)] 40
   cases t;subst k;cases m;exact .d [(2,.ca Zae f),(4,.bool g),(7,.bool c),(23,.len Zd o.Set),(26,.bool j)] 40
  obtain⟨c4,x,⟨⟩⟩:=bindb (ifT a5 rfl);cases b1
  ·cases a3
   ·obtain⟨b5,w,⟨⟩⟩:=bindb (ifF t rfl)
    cases a4
    ·obtain⟨b6,z,⟨⟩⟩:=bindb (ifF m rfl)
     exact .d [(2,.ca Zae f),(4,.bool g),(7,.bool c),(14,.idx Zaf x),(20,.bool p),(23,.len Zd o.Set),(26,.bool j),(29,.ca Zjp w),(32,.bool k),(37,.ca Zpz z)] 40
    cases m;exact .d [(2,.ca Zae f),(4,.bool g),(7,.bool c),(14,.idx Zaf x),(20,.bool p),(23,.len Zd o.Set),(26,.bool j),(29,.ca Zjp w),(32,.bool k)] 40
   cases t;subst k;cases m;exact .d [(2,.ca Zae f),(4,.bool g),(7,.bool c),(14,.idx Zaf x),(20,.bool p),(23,.len Zd o.Set),(26,.bool j)] 40
  subst j;cases t;subst k;cases m;exact .d [(2,.ca Zae f),(4,.bool g),(7,.bool c),(14,.idx Zaf x),(20,.bool p)] 40
 cases a2;subst p;subst j;cases t;subst k;cases m
 exact .d [(2,.ca Zae f),(4,.bool g)] 40)<|.i (.a<|.s 0 [] rfl)
 (.a<|.p1 [3,5,6,7] 3 (λa6=>[.s 7 (i64 a6)]) (Sum.elim (λ_=>.n [3,5] 3 []) (λr=>.q (Zws r)))
 (λc5 a6=>.a<|.i (.bi 5 Zaf<|.bc 8 Z1t<|.d [] 10<|.i (.a<|.s 0 [] rfl)
 (.a<|.x1))
 (.u)) (fun
 |.inl ()=>(.n<|.a<|.x1)
 |.inr c6=>.r λ_ _ h=>Wbq ⟨rfl,h⟩)))
 (.u)) (fun
 |.inl ()=>(.n<|.a<|.e 0 [])
 |.inr c7=>.r λ_ _ h=>h))
def Zxx {b:Zb} {c:Zaa} {f:Int} {g:Int}:KF prog glob 134 f134 [Zu b,Zg8 c,i64 f,i64 g] [] (Znc b c f g) (λr=>.tup [slc 10 Zd r.1,i64 r.2]) (λ_=>[]):=Ww func134<|.a<|.bc 1 Zca<|.a<|.i (.a<|.e 0 [])
 (.v<|.v<|.v<|.rc [(6,.len Zk b.Edges),(17,.len Zk b.Edges)] [] []<|.i (.a<|.e 0 [])
 (.a<|.i (.a<|.e 0 [])
 (.bc 5 Zeq<|.bc 7 Zfd<|.d [] 10<|.e 0 [])))
def Z5t (r:Bool):Exit→St→List Blk→Prop:=FnQ prog f184.results 0 λp K=>p=(vb r)∧K=[]
def Z5u {b:ZL} {c:ZB}:KF prog glob 184 f184 [slc 10 Zd b,Zbo c] [] (Zsy b c) (λr=>vb r) (λ_=>[]):=Ww func184<|.a<|.a<|.p1 [0,3,5] 1 (λd=>[.s 5 (i64 d)]) (Sum.elim (λ_=>.n [] 1 []) (λr=>.q (Z5t r)))
 (λf d=>.r [(2,.len Zd b)]<|.i (.bi 2 Zd<|.bc 5 Zmk<|.d0 [] 11 [] [9,10] []<|.a<|.i (.a<|.s 0 [] rfl)
 (.a<|.x1))
 (.u)) (fun
 |.inl ()=>(.n<|.a<|.e 0 [])
 |.inr g=>.r λ_ _ h=>h)
def Zrh (r:(Yr×Int)):Exit→St→List Blk→Prop:=FnQ prog f131.results 0 λp K=>p=(.tup [slc 3 Zbs r.1,i64 r.2])∧K=[]
def Z23 {g:Zb} {o:Zaa}:KF prog glob 131 f131 [Zu g,Zg8 o] [] (Zra g o) (λr=>.tup [slc 3 Zbs r.1,i64 r.2]) (λ_=>[]):=Ww func131<|.a<|.a<|.z (.own 6 3 243)<|.a<|.p2 [2,3,6,7] 3 (λw x=>[.l 2 Zbs w,.s 7 (i64 x)]) (Sum.elim (λp=>.n [6] 3 [.l 2 Zbs p]) (λr=>.q (Zrh r)))
 (λb3 w x=>.r [(3,.len Zk g.Edges)]<|.i (.a<|.p2 [2,3,6,7,8] 3 (λa0 a1=>[.l 2 Zbs a0,.s 8 (i64 a1)]) (Sum.elim (λa2=>.n [2,3,6,7] 3 [.l 2 Zbs a2]) (λr=>.q (Zrh r)))
 (λb4 a0 a1=>.r [(3,.len Zk g.Edges)]<|.i (.m 2 (Sum.elim (λa3=>.n [2,3,6,7,8] 3 [.l 2 Zbs a3]) (λr=>.q (Zrh r))) (.b λa9 b0=>.r [(4,.ca Zxx b0)]<|.a<|.i (.a<|.q 0 [] rfl)
 (.r [(1,.len Zd a9.1)]<|.i (.k)
 (.bi 3 Zk<|.bi 9 Zk<|.d0 [(12,.m),(13,.m),(14,.m)] 14 [] [13] []<|.y (.gst (.ownF 3 2 1 9))<|.a<|.p4 [2,3,6,7,8,11,12] 5 (λa4 a5 a6 a7=>[.l 4 Zai a6,.f 3 0 (.sc (.int .i64 a4)),.f 3 1 (.sc (.int .i64 a5)),.s 12 (i64 a7)]) (λ(t,v,j)=>.n [2,3,6,7,8,11] 5 [.l 4 Zai j,.f 3 0 (.sc (.int .i64 t)),.f 3 1 (.sc (.int .i64 v))])
 (λb5 a4 a5 a6 a7=>.r [(3,.len Zaf o.Inspect)]<|.i (.m 2 (λa8=>.n [2,3,6,7,8,11,12] 5 [.l 4 Zai a8]) (.bi 3 Zaf<|.bc 9 Zeq<|.bc 10 Z5u<|.d [] 11<|.i (.bi 5 Zaf<|.c λb1=>.d0 [(1,.q),(9,.app Zai (λ_=>kR) b1),(11,.m)] 10 [] [9] []<|.k)
 (.k)) (λa8=>.n<|.a<|.x4))
 (.u)) (λ(t,v,j)=>.n<|.y (.share 4)<|.c λb2=>.r [(1,.wkP (Zbs (Zap.mk t v j)) [.of Zai j] .q),(3,.app Zbs (λ_=>kR) b2)]<|.k)))) (fun
 |.inl a3=>(.n<|.a<|.x2)
 |.inr b6=>.r λ_ _ h=>Wbq ⟨rfl,h⟩))
 (.u)) (fun
 |.inl a2=>(.n<|.a<|.x2)
 |.inr b7=>.r λ_ _ h=>Wbq ⟨rfl,h⟩))
 (.u)) (fun
 |.inl p=>(.n<|.a<|.e 0 [.of Zbs p])
 |.inr b8=>.r λ_ _ h=>h)
def Z1g {b:Zb} {j:Ya}:KF prog glob 185 f185 [Zu b,slc 1 Ze j] [] (Zsn b j) (λr=>Zax r) (λ_=>[]):=Ww func185<|.a<|.r [(0,.m)]<|.z (.gst (.ownF 2 0 1 3))<|.z (.gst (.ownF 2 1 1 3))<|.a<|.p3 [1,2,4,5,6] 5 (λo p t=>[.l 3 Ze o,.l 4 Ze p,.s 6 (i64 t)]) (λ(f,g)=>.n [4,5] 5 [.l 3 Ze f,.l 4 Ze g])
 (λa0 o p t=>.r [(2,.len Ze j)]<|.i (.m 2 (λ(v,w)=>.n [1,2,4,5,6] 5 [.l 3 Ze v,.l 4 Ze w]) (.bi 2 Ze<|.d [(6,.len Zj b.Devices)] 8<|.i (.bi 4 Ze<|.c λx=>.d0 [(1,.q),(7,.app Ze (λ_=>kR) x),(9,.m)] 8 [] [7] []<|.k)
 (.bi 4 Ze<|.c λy=>.d0 [(1,.q),(8,.len Zj b.Devices),(11,.app Ze (λ_=>kR) y),(13,.m)] 12 [] [11] []<|.k)) (λ(v,w)=>.n<|.a<|.x3))
 (.u)) (λ(f,g)=>.n<|.z (.share 3)<|.z (.share 4)<|.r [(0,.wkP (Zbb (Zp.mk f g)) [.of Ze f,.of Ze g] .q)]<|.e 0 [])
def Z8p {b:Zb}:KF prog glob 132 f132 [Zu b] [] (Zrp b) (λr=>slc 2 Zbb r) (λ_=>[]):=Ww func132<|.a<|.bc 1 Zpx<|.a<|.i (.a<|.e 0 [])
 (.r [(2,.len Zj b.Devices),(5,.len Zx b.Links)]<|.r [(1,.m)]<|.a<|.p2 [1,3,4,5] 2 (λf g=>[.l 1 Zbb f,.s 5 (i64 g)]) (λj=>.n [1,3,4] 2 [.l 1 Zbb j])
 (λy f g=>.v<|.rc [] [] []<|.i (.bc 4 Z1g<|.c λw=>.r [(6,.app Zbb (λ_=>kR) w)]<|.a<|.x2)
 (.u)) (λj=>.n<|.a<|.p2 [1,3,4,6] 2 (λk o=>[.l 1 Zbb k,.s 6 (i64 o)]) (λd=>.n [4] 2 [.l 1 Zbb d])
 (λz k o=>.v<|.rc [] [] []<|.i (.a<|.p2 [1,3,4,6,7] 2 (λp q=>[.l 1 Zbb p,.s 7 (i64 q)]) (λt=>.n [1,3,4,6] 2 [.l 1 Zbb t])
 (λa0 p q=>.a<|.i (.bc 5 Z1g<|.c λx=>.r [(7,.app Zbb (λ_=>kR) x)]<|.a<|.x2)
 (.u)) (λt=>.n<|.a<|.x2))
 (.u)) (λd=>.n<|.a<|.e 0 [.of Zbb d])))
def Z0h (r:Bool):Exit→St→List Blk→Prop:=FnQ prog f62.results 0 λp K=>p=(vb r)∧K=[]
def Zt4 {k:Ya} {p:Int}:KF prog glob 62 f62 [slc 1 Ze k,i64 p] [] (Zdo k p) (λr=>vb r) (λ_=>[]):=Ww func62<|.a<|.a<|.p1 [0,1,5] 0 (λt=>[.s 5 (i64 t)]) (Sum.elim (λ_=>.n [] 0 []) (λr=>.q (Z0h r)))
 (λa5 t=>.r [(2,.len Ze k)]<|.i (.b λa6 c=>.l λx f=>.b λa7 v=>.l λy g=>.b λz m=>.to [0,1,5] [.s 40 (vb z)] (by
 cases x
 ·obtain⟨a8,o,⟨⟩⟩:=bindb (ifF v rfl)
  cases y
  ·obtain⟨a0,j,a1⟩:=bindb (ifF m rfl)
   replace j:=someb j
   obtain⟨a9,w,⟨⟩⟩:=bindb a1;cases a0
   ·cases w
    exact .d [(2,.idx Ze c),(5,.bool f),(8,.idx Ze o),(13,.bool g),(16,.bool j)] 29
   obtain⟨b0,a2,a3⟩:=bindb (ifT w rfl);obtain⟨b1,a4,⟨⟩⟩:=bindb a3;exact .d [(2,.idx Ze c),(5,.bool f),(8,.idx Ze o),(13,.bool g),(16,.bool j),(19,.idx Ze a2),(24,.idx Ze a4)] 29
  cases m;exact .d [(2,.idx Ze c),(5,.bool f),(8,.idx Ze o),(13,.bool g)] 29
 cases v;subst g;cases m
 exact .d [(2,.idx Ze c),(5,.bool f)] 29)<|.i (.a<|.s 0 [] rfl)
 (.a<|.x1))
 (.u)) (fun
 |.inl ()=>(.n<|.a<|.e 0 [])
 |.inr b2=>.r λ_ _ h=>h)
def Zbz {b:Zb} {c:Zp}:KF prog glob 34 f34 [Zu b,Zax c] [] (Zbj b c) (λr=>vb r) (λ_=>[]):=Ww func34<|.a<|.bc 1 Zpx<|.v<|.gt λg d=>.gw<|.v<|.gt λi f=>.gw<|.rc [(7,.len Zx b.Links),(15,.len Zj b.Devices)] [(8,.ca Zt4 d),(16,.ca Zt4 f)] []<|.e 0 []
def Z8q (r:Bool):Exit→St→List Blk→Prop:=FnQ prog f40.results 0 λp K=>p=(vb r)∧K=[]
def Zrw {b:Ya} {c:Int}:KF prog glob 40 f40 [slc 1 Ze b,i64 c] [] (Zk1 b c) (λr=>vb r) (λ_=>[]):=Ww func40<|.a<|.a<|.p1 [0,1,5] 0 (λd=>[.s 5 (i64 d)]) (Sum.elim (λ_=>.n [] 0 []) (λr=>.q (Z8q r)))
 (λf d=>.r [(2,.len Ze b)]<|.i (.bi 2 Ze<|.a<|.i (.a<|.s 0 [] rfl)
 (.a<|.x1))
 (.u)) (fun
 |.inl ()=>(.n<|.a<|.e 0 [])
 |.inr g=>.r λ_ _ h=>h)
def Zbu {b:Zb} {c:Zp} {d:Int}:KF prog glob 15 f15 [Zu b,Zax c,i64 d] [] (Za2 b c d) (λr=>vb r) (λ_=>[]):=Ww func15<|.a<|.bc 2 Zbz<|.v<|.v<|.v<|.gt λg f=>.gw<|.rc [(11,.len Zj b.Devices)] [(18,.ca Zrw f)] []<|.e 0 []
def Ze3 {c:Zb} {t:Zp} {u:Int}:KF prog glob 89 f89 [Zu c,Zax t,i64 u] [] (Zc9 c t u) (λr=>vb r) (λ_=>[]):=Ww func89<|.a<|.b λa7 f=>.l λx g=>.l λy i=>.l λz j=>.b λa8 p=>.l λa0 k=>.b λa9 o=>.l λa1 m=>.b λa2 n=>.to [] [.s 6 (vb a2)] (by
 cases x
 ·subst i
  subst j;cases p;subst k;cases o;subst m;cases n;exact .d [(2,.ca Zbz f),(3,.bool g)] 43
 cases y
 ·subst j
  cases p;subst k;cases o;subst m;cases n;exact .d [(2,.ca Zbz f),(3,.bool g),(7,.bool i)] 43
 cases z
 ·cases p
  subst k;cases o;subst m;cases n;exact .d [(2,.ca Zbz f),(3,.bool g),(7,.bool i),(11,.len Zx c.Links),(14,.bool j)] 43
 obtain⟨b0,q,⟨⟩⟩:=bindb (ifT p rfl);cases a0
 ·cases o
  subst m;cases n;exact .d [(2,.ca Zbz f),(3,.bool g),(7,.bool i),(11,.len Zx c.Links),(14,.bool j),(18,.ca Zrw q),(21,.bool k)] 43
 obtain⟨b1,v,a3⟩:=bindb (ifT o rfl);obtain⟨b2,w,⟨⟩⟩:=bindb a3;cases a1
 ·cases n
  exact .d [(2,.ca Zbz f),(3,.bool g),(7,.bool i),(11,.len Zx c.Links),(14,.bool j),(18,.ca Zrw q),(21,.bool k),(27,.idx Zx v),(30,.ca Zbu w),(32,.bool m)] 43
 obtain⟨b3,a4,a5⟩:=bindb (ifT n rfl);obtain⟨b4,a6,⟨⟩⟩:=bindb a5
 exact .d [(2,.ca Zbz f),(3,.bool g),(7,.bool i),(11,.len Zx c.Links),(14,.bool j),(18,.ca Zrw q),(21,.bool k),(27,.idx Zx v),(30,.ca Zbu w),(32,.bool m),(38,.idx Zx a4),(41,.ca Zbu a6)] 43)<|.e 0 []
def Zzd {f:Zb} {q:Zp}:KF prog glob 114 f114 [Zu f,Zax q] [] (Zjc f q) (λr=>slc 1 Ze r) (λ_=>[]):=Ww func114<|.a<|.bc 2 Zbz<|.a<|.i (.a<|.e 0 [])
 (.a<|.z (.own 5 1 3)<|.a<|.p2 [2,3,5,6] 3 (λt v=>[.l 2 Ze t,.s 6 (i64 v)]) (λw=>.n [2,3,5] 3 [.l 2 Ze w])
 (λb7 t v=>.r [(3,.len Zj f.Devices)]<|.i (.m 2 (λx=>.n [2,3,5,6] 3 [.l 2 Ze x]) (.bc 3 Zbu<|.a<|.i (.c λb2=>.r [(3,.app Ze (λ_=>kR) b2)]<|.k)
 (.c λb3=>.r [(2,.app Ze (λ_=>kR) b3)]<|.k)) (λx=>.n<|.a<|.x2))
 (.u)) (λw=>.n<|.a<|.p2 [2,3,5,7] 3 (λa0 a1=>[.l 2 Ze a0,.s 7 (i64 a1)]) (λj=>.n [5] 3 [.l 2 Ze j])
 (λb8 a0 a1=>.r [(3,.len Zj f.Devices)]<|.i (.a<|.p2 [2,3,5,7,8] 3 (λg a2=>[.l 2 Ze g,.s 8 (i64 a2)]) (λa3=>.n [2,3,5,7] 3 [.l 2 Ze a3])
 (λb9 g a2=>.r [(3,.len Zx f.Links)]<|.i (.m 2 (λa4=>.n [2,3,5,7,8] 3 [.l 2 Ze a4]) (.bc 3 Ze3<|.a<|.i (.b λa5 b4=>.b λb5 b6=>.d [(3,.idx Zx b4),(9,.idx Zx b6)] 13<|.b λo a6=>.b λp a7=>.b λc0 a8=>.d [(4,.idx Ze a6),(5,.ldE Ze a6),(8,.idx Ze a7),(9,.ldE Ze a7),(11,.idx Ze a8),(12,.stE Ze a8 (iMin o p))] 11<|.y (.pick [2,3,5,7,8,9,10])<|.y (.ln 2 (lset g (Int.toNat a5.A) (iMin o p)))<|.b λa9 b0=>.b λc1 b1=>.r [(4,.idx Ze b0),(5,.ldE Ze b0),(6,.idx Ze b1),(7,.stE Ze b1 a9)]<|.y (.pick [2,3,5,7,8])<|.y (.ln 2 (lset (List.set g (Int.toNat a5.A) (iMin o p)) (Int.toNat b5.B) a9))<|.k)
 (.k)) (λa4=>.n<|.a<|.x2))
 (.u)) (λa3=>.n<|.a<|.x2))
 (.u)) (λj=>.n<|.a<|.e 0 [.of Ze j])))
def Zp0 {j:Zb} {k:Zp} {m:Int} {n:Int}:KF prog glob 63 f63 [Zu j,Zax k,i64 m,i64 n] [] (Zkd j k m n) (λr=>vb r) (λ_=>[]):=Ww func63<|.a<|.bc 2 Zzd<|.a<|.b λy c=>.l λq f=>.b λz o=>.l λt g=>.b λu i=>.to [] [.s 8 (vb u)] (by
 cases q
 ·cases o
  subst g;cases i;exact .d [(3,.ca Zbu c),(4,.bool f)] 21
 obtain⟨a0,p,⟨⟩⟩:=bindb (ifT o rfl);cases t
 ·cases i
  exact .d [(3,.ca Zbu c),(4,.bool f),(8,.ca Zbu p),(10,.bool g)] 21
 obtain⟨a1,v,w⟩:=bindb (ifT i rfl);obtain⟨a2,x,⟨⟩⟩:=bindb w
 exact .d [(3,.ca Zbu c),(4,.bool f),(8,.ca Zbu p),(10,.bool g),(13,.idx Ze v),(17,.idx Ze x)] 21)<|.e 0 []
def Zsc {b:Zb} {c:Zp} {d:Int}:KF prog glob 116 f116 [Zu b,Zax c,i64 d] [] (Zg5 b c d) (λr=>vb r) (λ_=>[]):=Ww func116<|.a<|.bc 2 Zbz<|.v<|.v<|.rc [(11,.len Zj b.Devices)] [] []<|.e 0 []
def Zwu {p:Nat} {q:Ya} (a:List Value) {f:Int} {c:Int} {m:Int}:KF prog glob 165 f165 [.vw 0 0 p,i64 f,i64 c,i64 m] [.cells (cel Ze q a)] (Zpk p q f c m) (λ_=>.tup []) (λr=>[.cells (cel Ze r a)]):=Ww func165<|.b λa4 g=>.l λz n=>.b λa0 t=>.to [0,1,2,3] [.s 32 (vb a0)] (by
 cases z
 ·cases t
  exact .d [(2,.idxV (Zrn g)),(3,.ldV Ze (s:=1) (λ_=>rfl) a (Zpa g) (0+Int.toNat c*1) (Wbk _) []),(5,.bool n)] 25
 obtain⟨a5,j,o⟩:=bindb (ifT t rfl);obtain⟨a1,k,o⟩:=bindb o
 replace k:=someb k
 obtain⟨a6,u,⟨⟩⟩:=bindb o;cases a1
 ·obtain⟨a7,v,a2⟩:=bindb (ifF u rfl)
  obtain⟨a8,w,⟨⟩⟩:=bindb a2;exact .d [(2,.idxV (Zrn g)),(3,.ldV Ze (s:=1) (λ_=>rfl) a (Zpa g) (0+Int.toNat c*1) (Wbk _) []),(5,.bool n),(8,.idxV (Zrn j)),(9,.ldV Ze (s:=1) (λ_=>rfl) a (Zpa j) (0+Int.toNat f*1) (Wbk _) []),(11,.bool k),(14,.idxV (Zrn v)),(15,.ldV Ze (s:=1) (λ_=>rfl) a (Zpa v) (0+Int.toNat c*1) (Wbk _) []),(20,.idxV (Zrn w)),(21,.ldV Ze (s:=1) (λ_=>rfl) a (Zpa w) (0+Int.toNat f*1) (Wbk _) [])] 25
 cases u
 exact .d [(2,.idxV (Zrn g)),(3,.ldV Ze (s:=1) (λ_=>rfl) a (Zpa g) (0+Int.toNat c*1) (Wbk _) []),(5,.bool n),(8,.idxV (Zrn j)),(9,.ldV Ze (s:=1) (λ_=>rfl) a (Zpa j) (0+Int.toNat f*1) (Wbk _) []),(11,.bool k)] 25)<|.i (.b λa3 x=>.b λa9 y=>.r [(4,.idxV (Zrn x)),(5,.ldV Ze (s:=1) (λ_=>rfl) a (Zpa x) (0+Int.toNat c*1) (Wbk _) []),(8,.idxV (Zrn y)),(9,.stV Ze (s:=1) (λ_=>rfl) a (Zpa y) (ZI (a3+m)) (0+Int.toNat f*1) (Wbk _) [])]<|.e 1 [])
 (.e 1 [])
def Zp1 {d:Zb} {o:Zp} {f:Int}:KF prog glob 117 f117 [Zu d,Zax o,i64 f] [] (Zdp d o f) (λr=>slc 1 Ze r) (λ_=>[]):=Ww func117<|.a<|.bc 3 Zsc<|.a<|.i (.a<|.e 0 [])
 (.a<|.z (.own 7 1 3)<|.a<|.p2 [2,3,4,7,8] 3 (λp q=>[.l 2 Ze p,.s 8 (i64 q)]) (λg=>.n [2,3,4,7] 3 [.l 2 Ze g])
 (λb1 p q=>.r [(3,.len Zj d.Devices)]<|.i (.c λa6=>.r [(2,.app Ze (λ_=>kR) a6)]<|.a<|.x2)
 (.u)) (λg=>.n<|.m 1 (λt=>.n [3,4,7] 3 [.l 2 Ze t]) (.bc 3 Zbu<|.a<|.i (.b λb2 v=>.r [(2,.idx Ze v),(3,.stE Ze v (0:Int))]<|.y (.pick [3,4,7])<|.y (.ln 2 (lset g (Int.toNat f) (0:Int)))<|.k)
 (.k)) (λt=>.n<|.a<|.p2 [3,4,7,9] 3 (λw x=>[.l 2 Ze w,.s 9 (i64 x)]) (λj=>.n [7] 3 [.l 2 Ze j])
 (λb3 w x=>.r [(3,.len Zj d.Devices)]<|.i (.a<|.p2 [3,4,7,9,10] 3 (λa0 a1=>[.l 2 Ze a0,.s 10 (i64 a1)]) (λa2=>.n [3,4,7,9] 3 [.l 2 Ze a2])
 (λb4 a0 a1=>.r [(3,.len Zx d.Links)]<|.i (.m 2 (λa3=>.n [3,4,7,9,10] 3 [.l 2 Ze a3]) (.bc 3 Ze3<|.a<|.i (.bi 4 Zx<|.bi 10 Zx<|.bi 16 Zx<|.c λa7=>.b λb5 a8=>.c λa4=>.d0 [(19,.callB (s:=1) Ze func165 (λ_=>rfl) a7 a4 (λsp_=>(Zwu sp_).run _ a8))] 20 [] [19] []<|.y (.pick [3,4,7,9,10])<|.y (.ln 2 a4)<|.bi 4 Zx<|.bi 10 Zx<|.bi 16 Zx<|.c λa9=>.b λb6 b0=>.c λa5=>.d0 [(19,.callB (s:=1) Ze func165 (λ_=>rfl) a9 a5 (λsp_=>(Zwu sp_).run _ b0))] 20 [] [19] []<|.y (.pick [3,4,7,9,10])<|.y (.ln 2 a5)<|.k)
 (.k)) (λa3=>.n<|.a<|.x2))
 (.u)) (λa2=>.n<|.a<|.x2))
 (.u)) (λj=>.n<|.a<|.e 0 [.of Ze j]))))
def Z4c {c:Zb} {f:Zp} {g:ByteArray} {j:Int} {o:Int}:KF prog glob 186 f186 [Zu c,Zax f,vstr g,i64 j,i64 o] [] (Zr7 c f g j o) (λr=>i64 r) (λ_=>[]):=Ww func186<|.a<|.a<|.b λa1 a2=>.b λa3 a4=>.d [(3,.ca Zp1 a2),(7,.ca Zp1 a4)] 9<|.a<|.p3 [2,5,11,12,13,14,15] 2 (λp q t=>[.s 11 (i64 p),.s 12 (i64 q),.s 15 (i64 t)]) (λw=>.n [11] 2 [.s 11 (i64 w)])
 (λb2 p q t=>.v<|.v<|.rc [(2,.len Ze a1),(7,.len Ze a3)] [] []<|.i (.m 2 (λ(x,y)=>.n [2,5,11,12,13,14,15] 2 [.s 11 (i64 x),.s 12 (i64 y)]) (.bi 3 Zj<|.v<|.ge λb3 a5=>.gw<|.v<|.ge λb4 a6=>.gw<|.rc [] [(11,.idx Ze a5),(18,.idx Ze a6)] []<|.i (.k)
 (.l λa7 z=>.b λa8 a0=>.to [2,5,11,12,13,14,15] [.s 76 (vb a8)] (by
 cases a7
 ·obtain⟨b5,a9,b0⟩:=bindb (ifF a0 rfl)
  obtain⟨b6,b1,⟨⟩⟩:=bindb b0;exact .d [(2,.bool z),(5,.idx Ze a9),(9,.idx Ze b1)] 15
 cases a0
 exact .d [(2,.bool z)] 15)<|.i (.bi 3 Ze<|.bi 7 Ze<|.d [] 11<|.k)
 (.k))) (λ(x,y)=>.n<|.a<|.x3))
 (.u)) (λw=>.n<|.a<|.e 0 [])
def Z24 (r:Int):Exit→St→List Blk→Prop:=FnQ prog f133.results 0 λp K=>p=(i64 r)∧K=[]
def Z25 {c:Zb} {f:Zp} {b:Zap}:KF prog glob 133 f133 [Zu c,Zax f,Z2t b] [] (Zrb c f b) (λr=>i64 r) (λ_=>[]):=Ww func133<|.a<|.bc 4 Zbu<|.v<|.ge λk j=>.gw<|.rc [] [(11,.ca Zbu j)] []<|.i (.a<|.e 0 [])
 (.bc 6 Zp0<|.a<|.i (.a<|.e 0 [])
 (.a<|.p1 [3,4,5,7] 3 (λg=>[.s 7 (i64 g)]) (Sum.elim (λ_=>.n [] 3 []) (λr=>.q (Z24 r)))
 (λl g=>.r [(3,.len Zai b.f_classes)]<|.i (.bi 5 Zai<|.bc 11 Z4c<|.d [] 13<|.i (.a<|.s 0 [] rfl)
 (.a<|.x1))
 (.u)) (fun
 |.inl ()=>(.n<|.a<|.e 0 [])
 |.inr m=>.r λ_ _ h=>h)))
def Zvs (r:(Zp×Int)):Exit→St→List Blk→Prop:=FnQ prog f68.results 0 λp K=>p=(.tup [Zax r.1,i64 r.2])∧K=[]
def Z4d {c:Zb} {f:Zaa}:KF prog glob 68 f68 [Zu c,Zg8 f] [] (Zr8 c f) (λr=>.tup [Zax r.1,i64 r.2]) (λ_=>[]):=Ww func68<|.a<|.bc 2 Zwt<|.a<|.i (.a<|.e 0 [])
 (.b λk l=>.r [(2,.ca Z23 l)]<|.a<|.i (.a<|.e 0 [])
 (.b λm o=>.r [(1,.ca Z8p o)]<|.a<|.p1 [2,4,6,8,9] 3 (λg=>[.s 9 (i64 g)]) (Sum.elim (λ_=>.n [4] 3 []) (λr=>.q (Zvs r)))
 (λp g=>.r [(2,.len Zbb m)]<|.i (.a<|.p1 [2,4,6,8,9,10] 3 (λj=>[.s 10 (i64 j)]) (Sum.elim (λ_=>.n [2,4,6,8,9] 3 []) (λr=>.q (Zvs r)))
 (λt j=>.r [(2,.len Zbs k.1)]<|.i (.bi 3 Zbb<|.bi 7 Zbs<|.bc 9 Z25<|.d [] 10<|.a<|.i (.bi 2 Zbb<|.a<|.s 0 [] rfl)
 (.a<|.x1))
 (.u)) (fun
 |.inl ()=>(.n<|.a<|.x1)
 |.inr v=>.r λ_ _ h=>Wbq ⟨rfl,h⟩))
 (.u)) (fun
 |.inl ()=>(.n<|.a<|.e 0 [])
 |.inr w=>.r λ_ _ h=>h)))
def Z5v {o:Za} {p:Int}:KF prog glob 289 f289 [Zk5 o,i64 p] [] (Zdq o p) (λr=>slc 2 Zm r) (λ_=>[]):=Ww func289<|.a<|.l λy f=>.l λa0 g=>.l λa1 j=>.b λa2 k=>.to [2] [.s 30 (vb a2)] (by
 cases y
 ·cases a0
  ·cases a1
   ·obtain⟨a3,⟨⟩⟩:=chkb (ifF k rfl)
    exact .r [(2,.bool f),(6,.bool g),(13,.bool j),(19,.sh a3)]
   cases k;exact .r [(2,.bool f),(6,.bool g),(13,.bool j)]
  subst j;cases k;exact .r [(2,.bool f),(6,.bool g)]
 subst g;subst j;cases k
 exact .r [(2,.bool f)])<|.i (.a<|.e 0 [])
 (.a<|.z (.own 5 2 73)<|.d [] 8<|.p2 [5,6,7] 2 (λq t=>[.l 1 Zm q,.s 6 (u64 t)]) (λm=>.n [5] 2 [.l 1 Zm m])
 (λa6 q t=>.a<|.i (.a<|.p1 [5,6,7,8] 2 (λw=>[.s 8 (u64 w)]) (λx=>.n [5,6,7,8] 2 [.s 8 (u64 x)])
 (λa7 w=>.c λa4=>.v<|.rc [(3,.rem a4)] [] []<|.i (.a<|.x1)
 (.u)) (λx=>.n<|.c λa5=>.r [(10,.app Zm (λ_=>kR) a5)]<|.a<|.x2))
 (.u)) (λm=>.n<|.a<|.e 0 [.of Zm m]))
def Z5w {b:ZB} {f:Int}:KF prog glob 242 f242 [Zbo b,i64 f] [] (Zsz b f) (λr=>slc 2 Zm r) (λ_=>[]):=Ww func242<|.a<|.a<|.c λg=>.c λi=>.bc 6 Z5v<|.d [(1,.ixd g),(2,.ldA Zm (Arr5.get b) 0 2 0 g),(4,.ixd i),(5,.ldA Ze (Arr5.get (Arr5.mk (32:Int) (32:Int) (8:Int) (16:Int) (16:Int))) 0 1 0 i)] 7<|.e 0 []
def Zze {c:ZB} {d:Bool}:KF prog glob 188 f188 [Zbo c,vb d] [] (Zrq c d) (λr=>i64 r) (λ_=>[]):=Ww func188<|.a<|.bc 1 Zci<|.a<|.i (.a<|.e 0 [])
 (.a<|.a<|.p2 [1,2,5,6] 1 (λf g=>[.s 5 (i64 f),.s 6 (i64 g)]) (λj=>.n [5] 1 [.s 5 (i64 j)])
 (λm f g=>.v<|.rc [] [] []<|.i (.b λk l=>.r [(3,.ca Z5w l),(4,.len Zm k)]<|.a<|.x2)
 (.u)) (λj=>.n<|.a<|.e 0 []))
def Zaan {b:ZL} {c:Bool}:KF prog glob 187 f187 [slc 10 Zd b,vb c] [] (Zso b c) (λr=>i64 r) (λ_=>[]):=Ww func187<|.a<|.a<|.a<|.p2 [0,1,5,6] 0 (λd f=>[.s 5 (i64 d),.s 6 (i64 f)]) (λg=>.n [5] 0 [.s 5 (i64 g)])
 (λj d f=>.r [(2,.len Zd b)]<|.i (.bi 3 Zd<|.bc 6 Zze<|.a<|.a<|.x2)
 (.u)) (λg=>.n<|.a<|.e 0 [])
def Zxy {t:Zb} {f:Ya} {u:Zaj}:KF prog glob 135 f135 [Zu t,slc 1 Ze f,Zaai u] [] (Znd t f u) (λr=>slc 1 Ze r) (λ_=>[]):=Ww func135<|.a<|.c λa0=>.r [(0,.m),(2,.app Ze (λ_=>kR) a0)]<|.bi 4 Zk<|.bi 11 Zk<|.d [] 15<|.m 1 (λ(g,j)=>.n [3,5,7,8,9] 3 [.s 8 (i64 g),.s 9 (i64 j)]) (.a<|.i (.a<|.k)
 (.k)) (λ(g,j)=>.n<|.b λl v=>.bi 9 Zj<|.b λo a1=>.b λa3 w=>.d [(2,.idx Ze v),(3,.ldE Ze v),(12,.ca Zaan a1),(14,.idx Ze w),(15,.stE Ze w (ZI (l+o)))] 14<|.z (.pick [3,5,7,9])<|.z (.ln 2 (lset (([]:Ya)++f) (Int.toNat g) (ZI (l+o))))<|.b λp x=>.bc 9 Zeq<|.bi 13 Zj<|.b λq a2=>.b λa4 y=>.d [(2,.idx Ze x),(3,.ldE Ze x),(16,.ca Zze a2),(18,.idx Ze y),(19,.stE Ze y (ZI (p+q)))] 18<|.z (.pick [7])<|.z (.ln 2 (lset (List.set (([]:Ya)++f) (Int.toNat g) (ZI (l+o))) (Int.toNat j) (ZI (p+q))))<|.a<|.e 0 [.of Ze (List.set (List.set (([]:Ya)++f) (Int.toNat g) (ZI (l+o))) (Int.toNat j) (ZI (p+q)))])
def Z69 (r:Bool):Exit→St→List Blk→Prop:=FnQ prog f136.results 0 λp K=>p=(vb r)∧K=[]
def Zxz {c:Zb} {b:Ya}:KF prog glob 136 f136 [Zu c,slc 1 Ze b] [] (Zqp c b) (λr=>vb r) (λ_=>[]):=Ww func136<|.a<|.a<|.p1 [1,2,5] 1 (λf=>[.s 5 (i64 f)]) (Sum.elim (λ_=>.n [] 1 []) (λr=>.q (Z69 r)))
 (λg f=>.r [(2,.len Ze b)]<|.i (.bi 2 Ze<|.bi 7 Zj<|.d [] 11<|.i (.a<|.s 0 [] rfl)
 (.a<|.x1))
 (.u)) (fun
 |.inl ()=>(.n<|.a<|.e 0 [])
 |.inr j=>.r λ_ _ h=>h)
def Zs6 (r:(Ym×Int)):Exit→St→List Blk→Prop:=FnQ prog f69.results 0 λp K=>p=(.tup [slc 4 Zbm r.1,i64 r.2])∧K=[]
def Z5x {d:Zb} {g:Zaa}:KF prog glob 69 f69 [Zu d,Zg8 g] [] (Zs0 d g) (λr=>.tup [slc 4 Zbm r.1,i64 r.2]) (λ_=>[]):=Ww func69<|.a<|.bc 2 Zwt<|.a<|.i (.a<|.e 0 [])
 (.a<|.z (.own 6 4 246)<|.a<|.c λb2=>.r [(2,.len Zj d.Devices),(3,.mkN Ze (0:Int) b2)]<|.a<|.z (.share 3)<|.z (.wo 8 Ze (List.replicate (Int.toNat (d.Devices.length:Int)) (0:Int)))<|.p5 [2,3,6,7,8,9] 4 (λj o p t w=>[.l 2 Zbm j,.l 3 Ze o,.s 7 (i64 p),.s 8 (slc 1 Ze t),.s 9 (i64 w)]) (Sum.elim (λ(f,x,y)=>.n [6,7] 4 [.l 2 Zbm f,.l 3 Ze x,.s 7 (i64 y)]) (λr=>.q (Zs6 r)))
 (λb6 j o p t w=>.r [(3,.len Zk d.Edges)]<|.i (.a<|.p4 [2,3,6,7,8,9,10] 4 (λa0 a1 a2 a3=>[.l 2 Zbm a0,.s 7 (i64 a1),.s 8 (slc 1 Ze a2),.s 10 (i64 a3)]) (Sum.elim (λ(a4,a5,a6)=>.n [2,3,6,7,8,9] 4 [.l 2 Zbm a4,.s 7 (i64 a5),.s 8 (slc 1 Ze a6)]) (λr=>.q (Zs6 r)))
 (λb7 a0 a1 a2 a3=>.r [(3,.len Zk d.Edges)]<|.i (.m 2 (Sum.elim (λ(a7,a8,a9)=>.n [2,3,6,7,8,9,10] 4 [.l 2 Zbm a7,.s 7 (i64 a8),.s 8 (slc 1 Ze a9)]) (λr=>.q (Zs6 r))) (.b λb3 b4=>.r [(4,.ca Zxx b4)]<|.a<|.i (.a<|.q 0 [] rfl)
 (.v<|.rc [(1,.len Zd b3.1)] [] []<|.i (.k)
 (.a<|.bc 3 Zxy<|.a<|.m 1 (λ(b0,b1)=>.n [2,3,6,7,8,9,10,13,14] 5 [.c 4 (Zbm b0),.s 14 (slc 1 Ze b1)]) (.bc 2 Zxz<|.a<|.i (.a<|.bc 3 Zxy<|.a<|.k)
 (.k)) (λ(b0,b1)=>.n<|.bc 2 Zxz<|.a<|.i (.a<|.k)
 (.c λb5=>.r [(3,.app Zbm (λ_=>kR) b5)]<|.k))))) (fun
 |.inl (a7,a8,a9)=>(.n<|.a<|.x4)
 |.inr b8=>.r λ_ _ h=>Wbq ⟨rfl,h⟩))
 (.u)) (fun
 |.inl (a4,a5,a6)=>(.n<|.a<|.x5)
 |.inr b9=>.r λ_ _ h=>Wbq ⟨rfl,h⟩))
 (.u)) (fun
 |.inl (f,x,y)=>(.n<|.a<|.i (.a<|.e 0 [])
 (.a<|.e 0 [.of Zbm f]))
 |.inr c0=>.r λ_ _ h=>h))
def Zabu {b:ZL}:KF prog glob 137 f137 [slc 10 Zd b] [] (Zwg b) (λr=>slc 11 Zan r) (λ_=>[]):=Ww func137<|.a<|.a<|.z (.own 3 11 132)<|.a<|.p2 [0,3,4] 1 (λf g=>[.l 0 Zan f,.s 4 (i64 g)]) (λd=>.n [3] 1 [.l 0 Zan d])
 (λk f g=>.r [(2,.len Zd b)]<|.i (.bi 3 Zd<|.c λj=>.r [(7,.app Zan (λ_=>kR) j)]<|.a<|.x2)
 (.u)) (λd=>.n<|.a<|.e 0 [.of Zan d])
def Zwv {f:Zb} {b:Ym} {g:Int} {j:Bool}:KF prog glob 70 f70 [Zu f,slc 4 Zbm b,i64 g,vb j] [] (Zpm f b g j) (λr=>slc 11 Zan r) (λ_=>[]):=Ww func70<|.a<|.a<|.z (.own 9 11 132)<|.a<|.p2 [1,2,3,4,9,10] 2 (λo p=>[.l 1 Zan o,.s 10 (i64 p)]) (λd=>.n [9] 2 [.l 1 Zan d])
 (λx o p=>.r [(2,.len Zbm b)]<|.i (.m 2 (λq=>.n [1,2,3,4,9,10] 2 [.l 1 Zan q]) (.bi 2 Zbm<|.a<|.m 1 (λt=>.n [1,2,3,4,9,10,11] 2 [.s 11 (i64 t)]) (.a<|.i (.bi 2 Zbm<|.a<|.k)
 (.k)) (λt=>.n<|.a<|.i (.k)
 (.bi 2 Zbm<|.a<|.i (.bi 3 Zbm<|.bc 6 Zabu<|.c λv=>.r [(7,.app Zan (λ_=>kR) v)]<|.k)
 (.bi 4 Zbm<|.bi 9 Zbm<|.bc 12 Zeq<|.c λw=>.d0 [(15,.app Zan (λ_=>kR) w)] 16 [] [15] []<|.k)))) (λq=>.n<|.a<|.x2))
 (.u)) (λd=>.n<|.a<|.e 0 [.of Zan d])
def Zvt {b:Int} {c:Int} {d:Int}:KF prog glob 139 f139 [u32 b,i64 c,i64 d] [] (Zn8 b c d) (λr=>Zbo r) (λ_=>[]):=Ww func139<|.a<|.bc 0 Zdy<|.a<|.a<|.a<|.a<|.a<|.e 0 []
def Z26 {f:Zb} {b:Zs} {g:Int}:KF prog glob 71 f71 [Zu f,Zb1 b,i64 g] [] (Zrc f b g) (λr=>slc 20 Zas r) (λ_=>[]):=Ww func71<|.a<|.a<|.z (.own 7 20 182)<|.a<|.p2 [2,3,4,7,8] 3 (λj o=>[.l 2 Zas j,.s 8 (i64 o)]) (λd=>.n [7] 3 [.l 2 Zas d])
 (λt j o=>.r [(3,.len Zay b.Published)]<|.i (.m 2 (λp=>.n [2,3,4,7,8] 3 [.l 2 Zas p]) (.bi 3 Zay<|.a<|.bc 3 Zjn<|.a<|.i (.bc 7 Zvt<|.bc 14 Zvt<|.c λq=>.d0 [(17,.app Zas (λ_=>kR) q)] 18 [] [17] []<|.k)
 (.k)) (λp=>.n<|.a<|.x2))
 (.u)) (λd=>.n<|.a<|.e 0 [.of Zas d])
def Z4e (r:(Yi×Int)):Exit→St→List Blk→Prop:=FnQ prog f73.results 0 λp K=>p=(.tup [slc 11 Zau r.1,i64 r.2])∧K=[]
def Z4f {j:Zb} {g:Zaa} {k:Int}:KF prog glob 73 f73 [Zu j,Zg8 g,i64 k] [] (Zn9 j g k) (λr=>.tup [slc 11 Zau r.1,i64 r.2]) (λ_=>[]):=Ww func73<|.a<|.a<|.z (.own 8 11 180)<|.bc 0 Zdy<|.a<|.bc 3 Zeq<|.a<|.a<|.p3 [4,8,9,10] 4 (λm o p=>[.l 2 Zau m,.c 3 (Zd o),.s 10 (i64 p)]) (Sum.elim (λ(f,t)=>.n [8] 4 [.l 2 Zau f,.c 3 (Zd t)]) (λr=>.q (Z4e r)))
 (λa2 m o p=>.r [(3,.len Zaf g.Inspect)]<|.i (.bi 3 Zaf<|.b λy a0=>.d [(8,.ca Zfd a0)] 13<|.a<|.i (.a<|.s 0 [] rfl)
 (.a<|.p2 [4,8,9,10,11,13] 4 (λv w=>[.l 2 Zau v,.s 13 (i64 w)]) (λx=>.n [4,8,9,10] 4 [.l 2 Zau x])
 (λa3 v w=>.r [(2,.len Zd y.1)]<|.i (.bi 3 Zd<|.bi 8 Zaf<|.c λa1=>.d0 [(13,.app Zau (λ_=>kR) a1)] 14 [] [13] []<|.a<|.x2)
 (.u)) (λx=>.n<|.a<|.x3)))
 (.u)) (fun
 |.inl (f,t)=>(.n<|.r [(1,.len Zau f)]<|.i (.a<|.e 0 [])
 (.a<|.e 0 [.of Zau f]))
 |.inr a4=>.r λ_ _ h=>h)
def Z5y (r:(Yh×Int)):Exit→St→List Blk→Prop:=FnQ prog f37.results 0 λp K=>p=(.tup [slc 1 Zab r.1,i64 r.2])∧K=[]
def Z5z {g:Zb} {y:Zs} {a0:Int}:KF prog glob 37 f37 [Zu g,Zb1 y,i64 a0] [] (Zs1 g y a0) (λr=>.tup [slc 1 Zab r.1,i64 r.2]) (λ_=>[]):=Ww func37<|.a<|.bc 3 Zaal<|.a<|.a<|.i (.a<|.e 0 [])
 (.bc 2 Z5s<|.a<|.a<|.i (.a<|.e 0 [])
 (.bc 2 Z4d<|.a<|.a<|.i (.a<|.e 0 [])
 (.bc 2 Z5x<|.a<|.a<|.i (.a<|.e 0 [])
 (.c λa1=>.r [(2,.len Zj g.Devices),(3,.post (.ownAs (List.length (List.replicate (Int.toNat (g.Devices.length:Int)) ([.sc (.slice none 0 0)]:List PV))) (List.length (List.replicate (Int.toNat (g.Devices.length:Int)) Zej)) (by simp only[Wc4]) (.mkN (λ(x_:List PV)=>x_) [.sc (.slice none 0 0)] a1)) (.toTz 4 Zq Zej (Int.toNat (g.Devices.length:Int)) (.own .nil)))]<|.a<|.z (.kpt [3,4,8,13,14,15] 5 [(4,.of Zq (List.replicate (Int.toNat (g.Devices.length:Int)) Zej) (λz_=>Wbh (Zbr (row:=Zz) (λ_=>rfl) _) Wbi))])<|.p2 [3,4,8,13,14,15] 5 (λj f=>[.k 4 (.tr 81 1 (j.length) (cellsO Zq j)),.s 14 (.own 4 (j.length)),.s 15 (i64 f)]) (Sum.elim (λl=>.n [14] 5 [.k 4 (.tr 81 1 (l.length) (cellsO Zq l)),.s 14 (.own 4 (l.length))]) (λr=>.q (Z5y r)))
 (λa9 j f=>.r [(3,.len Zk g.Edges)]<|.i (.b λm a2=>.b λo a3=>.d0 [(4,.ca Zwv a2),(8,.ca Zwv a3)] 11 [] [10] []<|.b λp a4=>.b λt a5=>.d0 [(3,.ca Z26 a4),(7,.ca Zvb a5)] 10 [] [9] []<|.b λu a6=>.r [(3,.ca Z4f a6)]<|.a<|.i (.a<|.s 0 [] rfl)
 (.b λx a7=>.r [(3,.idx Zk a7)]<|.b λd v=>.w (.gst (.takeB 4 Zq (λ_=>rfl) v (off:=0) dC Zz (λ_=>rfl) (λ_=>rfl) d.Ports 93 rfl))<|.c λa8=>.d0 [(4,.idxT v),(5,.fdT),(6,.ldH Zq (λ_=>rfl) v (.own 6 (d.Ports.length))),(9,.app Zz (λ_=>kR) a8),(10,.idxT v),(11,.fdT),(12,.stO Zq (λ_=>rfl) v 0 (some (.own 6 (d.Ports.length))))] 10 [] [9] []<|.a<|.w (.gst (.giveB 4 6 Zq (λ_=>rfl) v (off:=0) dC Zz 6 (d.Ports++[({({({(Zw.mk f m o ([]:Yj) ([]:Yn) ([]:Yi))with Moves:=p}:Zw)with Hides:=t}:Zw)with Steers:=u.1}:Zw)]) 93 (List.length (d.Ports++[({({({(Zw.mk f m o ([]:Yj) ([]:Yn) ([]:Yi))with Moves:=p}:Zw)with Hides:=t}:Zw)with Steers:=u.1}:Zw)])) rfl ({d with Ports:=(d.Ports++[({({({(Zw.mk f m o ([]:Yj) ([]:Yn) ([]:Yi))with Moves:=p}:Zw)with Hides:=t}:Zw)with Steers:=u.1}:Zw)])}:Zo) rfl))<|.w (.pick [3,4,8,13,14,15])<|.w (.ln 4 (lset j (Int.toNat x.Device) ({d with Ports:=(d.Ports++[({({({(Zw.mk f m o ([]:Yj) ([]:Yn) ([]:Yi))with Moves:=p}:Zw)with Hides:=t}:Zw)with Steers:=u.1}:Zw)])}:Zo)))<|.w (.kpt [3,4,8,13,14,15] 5 [(4,.of Zq (List.set j (Int.toNat x.Device) ({d with Ports:=(d.Ports++[({({({(Zw.mk f m o ([]:Yj) ([]:Yn) ([]:Yi))with Moves:=p}:Zw)with Hides:=t}:Zw)with Steers:=u.1}:Zw)])}:Zo)) (λz_=>Wbh (Zbr (row:=Zz) (λ_=>rfl) _) Wbi))])<|.xo ((List.set j (Int.toNat x.Device) ({d with Ports:=(d.Ports++[({({({(Zw.mk f m o ([]:Yj) ([]:Yn) ([]:Yi))with Moves:=p}:Zw)with Hides:=t}:Zw)with Steers:=u.1}:Zw)])}:Zo)),ZI (f+(1:Int)))))
 (.w (.kpt [14] 5 [(4,.of Zq j (λz_=>Wbh (Zbr (row:=Zz) (λ_=>rfl) _) Wbi))])<|.u0)) (fun
 |.inl l=>(.n<|.a<|.z (.gst (.toBuf 4 Zq Zab (λ_=>rfl) (λz_=>FZs.c (FZ.owB (row:=Zz) (s:=6) (λ_=>rfl) (λ_=>rfl) _) FZs.n) l))<|.e 0 [.of Zab l])
 |.inr b0=>.r λ_ _ h=>h)))))
def Zjt {j:Yh}:KF prog glob 25 f25 [slc 1 Zab j] [] (Zcw j) (λr=>.own 0 (r.length)) (λr=>[.tr 81 1 (r.length) (cellsO Zq r)]):=Ww func25<|.a<|.a<|.z (.own 3 1 81)<|.z (.gst (.toTr 0 Zq Zab ([]:Yh) rfl))<|.a<|.z (.kpt [0,3,4] 1 [(0,.of Zq ([]:Yh) (λz_=>Wbh (Zbr (row:=Zz) (λ_=>rfl) _) Wbi))])<|.p2 [0,3,4] 1 (λd l=>[.k 0 (.tr 81 1 (d.length) (cellsO Zq d)),.s 3 (.own 0 (d.length)),.s 4 (i64 l)]) (λg=>.n [3] 1 [.k 0 (.tr 81 1 (g.length) (cellsO Zq g)),.s 3 (.own 0 (g.length))])
 (λt d l=>.r [(2,.len Zab j)]<|.i (.b λf o=>.c λp=>.c λq=>.r [(1,.m),(4,.idx Zab o),(7,.app Zz (λ_=>kR) p),(8,.m),(9,.litFb),(10,.post (.post (.appT Zq d [Zo.mk (([]:Yo)++f.Ports)] [.pv (.own 1 (List.length (([]:Yo)++f.Ports)))] q) (.giveA 0 1 Zq d [.pv (.own 1 (List.length (([]:Yo)++f.Ports)))] 0 Zz 6 (([]:Yo)++f.Ports) 93 (List.length (([]:Yo)++f.Ports)) rfl rfl)) (.eqC 0 (ca:=cellsO Zq d++[owB 93 6 Zz (([]:Yo)++f.Ports)]) (cb:=cellsO Zq (d++[Zo.mk (([]:Yo)++f.Ports)])) (Z2q (m:=[Zo.mk (([]:Yo)++f.Ports)]))))]<|.a<|.w (.kpt [0,3,4] 1 [(0,.of Zq (d++[Zo.mk (([]:Yo)++f.Ports)]) (λz_=>Wbh (Zbr (row:=Zz) (λ_=>rfl) _) Wbi))])<|.xo ((d++[Zo.mk (([]:Yo)++f.Ports)]),ZI (l+(1:Int))))
 (.w (.kpt [3] 1 [(0,.of Zq d (λz_=>Wbh (Zbr (row:=Zz) (λ_=>rfl) _) Wbi))])<|.u0)) (λg=>.n<|.a<|.z (.kpt [2] 1 [(0,.of Zq g (λz_=>Wbh (Zbr (row:=Zz) (λ_=>rfl) _) Wbi))])<|.o3 1 [] (retT (λz_=>Wbh (Zbr (row:=Zz) (λ_=>rfl) _) Wbi) retN))
def Zr4 {b:Zc}:KF prog glob 193 f193 [.ptr 0 0] [.cells (Zf b)] (Zex b) (λr=>Zk5 r.1) (λr=>[.cells (Zf r.2)]):=Ww func193<|.a<|.bc 1 Zi<|.a<|.a<|.i (.bc 1 Zi<|.bc 2 Zqu<|.bc 3 Zep<|.a<|.a<|.e 1 [])
 (.a<|.i (.bc 1 Zf5<|.bc 3 Zf5<|.a<|.a<|.e 1 [])
 (.a<|.i (.bc 1 Zf5<|.a<|.a<|.e 1 [])
 (.a<|.e 1 [])))
def Z4g {b:Zc}:KF prog glob 141 f141 [.ptr 0 0] [.cells (Zf b)] (Zoa b) (λr=>Zbo r.1) (λr=>[.cells (Zf r.2)]):=Ww func141<|.a<|.bc 0 Zdy<|.a<|.bc 1 Zi<|.a<|.p3 [0,2,3,4] 3 (λd f g=>[.c 0 (Zf d),.c 2 (Zd f),.s 4 (i64 g)]) (λ(j,l)=>.n [2,3] 3 [.c 0 (Zf j),.c 2 (Zd l)])
 (λq d f g=>.a<|.i (.m 2 (λ(o,p)=>.n [0,2,3,4] 3 [.c 0 (Zf o),.c 2 (Zd p)]) (.bc 1 Zi<|.a<|.a<|.i (.bc 1 Zr4<|.a<|.k)
 (.a<|.i (.bc 1 Zr4<|.a<|.k)
 (.a<|.i (.bc 2 Zi<|.bi 3 Zi0<|.a<|.a<|.k)
 (.a<|.i (.bc 1 Zqe<|.a<|.k)
 (.bc 1 Zqe<|.a<|.k))))) (λ(o,p)=>.n<|.a<|.x3))
 (.u)) (λ(j,l)=>.n<|.a<|.e 1 [])
def Zeg {f:Zc} {d:Zb}:KF prog glob 76 f76 [.ptr 0 0,Zu d] [.cells (Zf f)] (Zcp f d) (λr=>Zbo r.1) (λr=>[.cells (Zf r.2)]):=Ww func76<|.a<|.bc 1 Z4g<|.a<|.m 1 (λ(g,j)=>.n [0,4,5] 4 [.c 0 (Zf g),.c 3 (Zd j)]) (.l λv o=>.b λp q=>.to [0,3,4,5] [.c 0 (Zf p.2),.s 17 (vb p.1)] (by
 cases v
 ·cases q
  exact .r [(2,.len Zk d.Edges),(4,.bool o)]
 obtain⟨x,w,⟨⟩⟩:=bindb (ifT q rfl)
 exact .r [(2,.len Zk d.Edges),(4,.bool o),(6,.ca Zi w)])<|.i (.bc 6 Zi<|.bi 7 Zk<|.bc 10 Zep<|.d0 [(5,.len Zk d.Edges)] 16 [] [6,15] []<|.bc 6 Zi<|.bi 7 Zk<|.bc 10 Zep<|.d0 [(5,.len Zk d.Edges)] 16 [] [6,15] []<|.k)
 (.k)) (λ(g,j)=>.n<|.m 1 (λ(t,u)=>.n [4,5] 4 [.c 0 (Zf t),.c 3 (Zd u)]) (.bc 1 Zi<|.a<|.i (.bc 2 Zi<|.bi 3 Zi0<|.a<|.a<|.k)
 (.k)) (λ(t,u)=>.n<|.a<|.e 1 []))
def Zri {b:Zc} {d:Zb} {f:Int}:KF prog glob 75 f75 [.ptr 0 0,Zu d,i64 f] [.cells (Zf b)] (Zem b d f) (λr=>.own 1 (r.1.length)) (λr=>[.cells (Zf r.2),bf 11 132 Zan r.1 false]):=Ww func75<|.a<|.a<|.z (.own 7 11 132)<|.bc 3 Zi<|.a<|.p3 [0,4,7,8] 3 (λg j k=>[.l 2 Zan j,.c 0 (Zf g),.s 8 (i64 k)]) (λ(m,p)=>.n [7] 3 [.l 2 Zan p,.c 0 (Zf m)])
 (λt g j k=>.a<|.i (.bc 3 Zeg<|.bc 5 Zi<|.c λq=>.r [(9,.app Zan (λ_=>kR) q)]<|.a<|.x3)
 (.u)) (λ(m,p)=>.n<|.a<|.z (.kp [6] 3)<|.z (.swap 2 1)<|.o 2 [])
def Zjq {d:Zc} {f:Zb} {g:Int}:KF prog glob 75 f75 [.ptr 0 0,Zu f,i64 g] [.cells (Zf d)] (Zdb d f g) (λr=>slc 11 Zan r.1) (λr=>[.cells (Zf r.2)]):=Ww func75<|.a<|.a<|.z (.own 7 11 132)<|.bc 3 Zi<|.a<|.p3 [0,4,7,8] 3 (λj k m=>[.l 2 Zan k,.c 0 (Zf j),.s 8 (i64 m)]) (λ(o,b)=>.n [7] 3 [.l 2 Zan b,.c 0 (Zf o)])
 (λq j k m=>.a<|.i (.bc 3 Zeg<|.bc 5 Zi<|.c λp=>.r [(9,.app Zan (λ_=>kR) p)]<|.a<|.x3)
 (.u)) (λ(o,b)=>.n<|.a<|.e 1 [.of Zan b])
def Z0i {f:Zc} {g:Zb} {d:Zw}:KF prog glob 74 f74 [.ptr 0 0,Zu g,Zsf d] [.cells (Zf f)] (Zpn f g d) (λr=>Zsf r.1) (λr=>[.cells (Zf r.2)]):=Ww func74<|.a<|.m 1 (λ(j,l)=>.n [5,6] 4 [.c 0 (Zf j),.c 2 (Zz l)]) (.bc 1 Zi<|.a<|.a<|.i (.b λo p=>.c λq=>.d0 [(2,.ca Zri p),(5,.app Zan (λ_=>kR) q),(7,.stShA Zan (o.1++d.Ingress))] 6 [] [2,5] []<|.k)
 (.a<|.i (.b λs t=>.c λu=>.d0 [(2,.ca Zri t),(5,.app Zan (λ_=>kR) u),(7,.stShA Zan (s.1++d.Egress))] 6 [] [2,5] []<|.k)
 (.a<|.i (.r [(2,.len Zan d.Ingress)]<|.i (.c λv=>.r [(2,.slice Zan d.Ingress v)]<|.k)
 (.k))
 (.a<|.i (.r [(2,.len Zan d.Egress)]<|.i (.c λw=>.r [(2,.slice Zan d.Egress w)]<|.k)
 (.k))
 (.a<|.i (.bc 2 Zeg<|.a<|.k)
 (.a<|.i (.b λx y=>.bc 5 Zi<|.b λz a0=>.c λa1=>.d0 [(2,.ca Zeg y),(6,.idx Zai a0),(9,.m),(12,.app Zau (λ_=>kR) a1),(14,.stShA Zau ([Zak.mk x.1 z]++d.Steers))] 13 [] [2,5,6,7,8,9,12] []<|.k)
 (.a<|.i (.a<|.k)
 (.bc 2 Zjq<|.bc 5 Zjq<|.d0 [] 8 [] [2,5,7] []<|.k)))))))) (λ(j,l)=>.n<|.a<|.e 1 [])
def Z0j {a1:Zc} {u:Zb} {a2:Yh}:KF prog glob 38 f38 [.ptr 0 0,Zu u,slc 1 Zab a2] [.cells (Zf a1)] (Zkh a1 u a2) (λr=>slc 1 Zab r.1) (λr=>[.cells (Zf r.2)]):=Ww func38<|.a<|.b λb1 b2=>.r [(1,.callC func25 [] Wfi (closedH.t (Zto (λz_=>Wbh (Zbr (row:=Zz) (λ_=>rfl) _) Wbi)) Wfi) ((Zjt).run _ b2))]<|.bc 1 Zi<|.a<|.z (.kpt [0,4,7,8] 3 [(2,.of Zq b1 (λz_=>Wbh (Zbr (row:=Zz) (λ_=>rfl) _) Wbi))])<|.p3 [0,4,7,8] 3 (λa3 d v=>[.c 0 (Zf a3),.k 2 (.tr 81 1 (d.length) (cellsO Zq d)),.s 7 (.own 2 (d.length)),.s 8 (i64 v)]) (λ(a4,o)=>.n [7] 3 [.c 0 (Zf a4),.k 2 (.tr 81 1 (o.length) (cellsO Zq o)),.s 7 (.own 2 (o.length))])
 (λb8 a3 d v=>.a<|.i (.m 2 (λ(a0,p)=>.n [0,4,7,8] 3 [.c 0 (Zf a0),.k 2 (.tr 81 1 (p.length) (cellsO Zq p)),.s 7 (.own 2 (p.length))]) (.b λx b3=>.r [(2,.lenT d),(3,.ca Zi b3)]<|.l λb4 a5=>.b λb5 a6=>.to [0,4,7,8,9] [.s 36 (vb b5)] (by
 cases b4
 ·cases a6
  exact .r [(2,.lenT d),(4,.bool a5)]
 obtain⟨b9,a7,⟨⟩⟩:=bindb (ifT a6 rfl)
 exact .r [(2,.lenT d),(4,.bool a5),(7,.idxT a7),(8,.fdT),(9,.ldT Zq (λ_=>rfl) a7),(10,.lenL)])<|.i (.b λc0 a8=>.b λj b6=>.r [(3,.idxT a8),(4,.fdT),(5,.ldT Zq (λ_=>rfl) a8),(6,.lenL),(7,.ca Zi b6)]<|.b λf q=>.y (.gst (.takeB 2 Zq (λ_=>rfl) q (off:=0) dC Zz (λ_=>rfl) (λ_=>rfl) f.Ports 93 rfl))<|.b λc1 a9=>.b λg b7=>.b λc2 b0=>.d0 [(2,.idxT q),(3,.fdT),(4,.ldH Zq (λ_=>rfl) q (.own 3 (f.Ports.length))),(10,.idxT q),(11,.fdT),(12,.ldH Zq (λ_=>rfl) q (.own 3 (f.Ports.length))),(14,.idx Zz a9),(15,.ldE Zz a9),(16,.ca Z0i b7),(17,.idx Zz b0),(18,.stE Zz b0 g.1)] 17 [] [16] []<|.y (.pick [0,4,7,8])<|.y (.re (S:=[(0,.ptr 0 0),(4,.ptr 1 0),(7,.own 2 (d.length)),(8,i64 v)]) (K:=[.cells (Zf g.2),.cells (Z3 u),.tr 81 1 (d.length) (List.set (cellsO Zq d) (Int.toNat x.1*1+0) (.pv (.own 3 (f.Ports.length)))),bf 6 93 Zz (List.set f.Ports (Int.toNat j.1) g.1) false]) (K':=[.cells (Zf g.2),.cells (Z3 u),.tr 81 1 (d.length) (List.set (cellsO Zq d) (Int.toNat x.1*1+0) (.pv (.own 3 (List.length (List.set f.Ports (Int.toNat j.1) g.1))))),bf 6 93 Zz (List.set f.Ports (Int.toNat j.1) g.1) false]) rfl (by simp only[Wa9]))<|.y (.gst (.giveB 2 3 Zq (λ_=>rfl) q (off:=0) dC Zz 6 (List.set f.Ports (Int.toNat j.1) g.1) 93 (List.length (List.set f.Ports (Int.toNat j.1) g.1)) rfl ({f with Ports:=(List.set f.Ports (Int.toNat j.1) g.1)}:Zo) rfl))<|.y (.pick [0,4,7,8])<|.y (.ln 2 (lset d (Int.toNat x.1) ({f with Ports:=(List.set f.Ports (Int.toNat j.1) g.1)}:Zo)))<|.y (.kpt [0,4,7,8] 3 [(2,.of Zq (List.set d (Int.toNat x.1) ({f with Ports:=(List.set f.Ports (Int.toNat j.1) g.1)}:Zo)) (λz_=>Wbh (Zbr (row:=Zz) (λ_=>rfl) _) Wbi))])<|.k0)
 (.y (.kpt [0,4,7,8] 3 [(2,.of Zq d (λz_=>Wbh (Zbr (row:=Zz) (λ_=>rfl) _) Wbi))])<|.k0)) (λ(a0,p)=>.n<|.a<|.w (.kpt [0,4,7,8] 3 [(2,.of Zq p (λz_=>Wbh (Zbr (row:=Zz) (λ_=>rfl) _) Wbi))])<|.xo (a0,p,ZI (v-(1:Int)))))
 (.w (.kpt [7] 3 [(2,.of Zq d (λz_=>Wbh (Zbr (row:=Zz) (λ_=>rfl) _) Wbi))])<|.u0)) (λ(a4,o)=>.n<|.a<|.z (.gst (.toBuf 2 Zq Zab (λ_=>rfl) (λz_=>FZs.c (FZ.owB (row:=Zz) (s:=6) (λ_=>rfl) (λ_=>rfl) _) FZs.n) o))<|.e 1 [.of Zab o])
def Zww {b:Zb} {f:Int}:KF prog glob 59 f59 [Zu b,i64 f] [] (Zc5 b f) (λr=>slc 1 Ze r) (λ_=>[]):=Ww func59<|.a<|.a<|.z (.own 5 1 3)<|.a<|.p2 [1,2,5,6] 2 (λg j=>[.l 1 Ze g,.s 6 (i64 j)]) (λd=>.n [5] 2 [.l 1 Ze d])
 (λq g j=>.r [(3,.len Zk b.Edges)]<|.i (.m 2 (λo=>.n [1,2,5,6] 2 [.l 1 Ze o]) (.bi 3 Zk<|.a<|.i (.c λp=>.r [(3,.app Ze (λ_=>kR) p)]<|.k)
 (.k)) (λo=>.n<|.a<|.x2))
 (.u)) (λd=>.n<|.a<|.e 0 [.of Ze d])
def Zsr:KF prog glob 26 f26 [] [] (Zmt) (λr=>Zbo r) (λ_=>[]):=Ww func26<|.a<|.a<|.e 0 []
def Zxh {d:Zc} {b:Zb}:KF prog glob 77 f77 [.ptr 0 0,Zu b] [.cells (Zf d)] (Zhp d b) (λr=>Zse r.1) (λr=>[.cells (Zf r.2)]):=Ww func77<|.a<|.bc 0 Zsr<|.bc 1 Zsr<|.a<|.bc 2 Zi<|.bi 3 Zi0<|.a<|.a<|.m 1 (λ(f,g)=>.n [0,4,5,6,7] 4 [.c 0 (Zf f),.s 7 (u32 g)]) (.r [(2,.len Zk b.Edges)]<|.i (.bc 6 Zi<|.bi 7 Zk<|.d0 [(5,.len Zk b.Edges)] 11 [] [6] []<|.k)
 (.k)) (λ(f,g)=>.n<|.bc 1 Zi<|.a<|.a<|.a<|.a<|.a<|.e 1 [])
def Z27 {a3:Zc} {l:Zb}:KF prog glob 39 f39 [.ptr 0 0,Zu l] [.cells (Zf a3)] (Znf a3 l) (λr=>slc 1 Zab r.1) (λr=>[.cells (Zf r.2)]):=Ww func39<|.a<|.c λb5=>.r [(2,.len Zj l.Devices),(3,.post (.ownAs (List.length (List.replicate (Int.toNat (l.Devices.length:Int)) ([.sc (.slice none 0 0)]:List PV))) (List.length (List.replicate (Int.toNat (l.Devices.length:Int)) Zej)) (by simp only[Wc4]) (.mkN (λ(x_:List PV)=>x_) [.sc (.slice none 0 0)] b5)) (.toTz 2 Zq Zej (Int.toNat (l.Devices.length:Int)) (.own .nil)))]<|.a<|.z (.kpt [0,3,5,6] 3 [(2,.of Zq (List.replicate (Int.toNat (l.Devices.length:Int)) Zej) (λz_=>Wbh (Zbr (row:=Zz) (λ_=>rfl) _) Wbi))])<|.p3 [0,3,5,6] 3 (λa4 p x=>[.c 0 (Zf a4),.k 2 (.tr 81 1 (p.length) (cellsO Zq p)),.s 5 (.own 2 (p.length)),.s 6 (i64 x)]) (λ(a5,q)=>.n [5] 3 [.c 0 (Zf a5),.k 2 (.tr 81 1 (q.length) (cellsO Zq q)),.s 5 (.own 2 (q.length))])
 (λc4 a4 p x=>.r [(3,.len Zj l.Devices)]<|.i (.b λb6 b7=>.r [(2,.ca Zww b7)]<|.a<|.w (.kpt [0,3,5,6,7,8] 3 [(2,.of Zq p (λz_=>Wbh (Zbr (row:=Zz) (λ_=>rfl) _) Wbi))])<|.p3 [0,3,5,6,7,8] 3 (λa6 f a0=>[.c 0 (Zf a6),.k 2 (.tr 81 1 (f.length) (cellsO Zq f)),.s 5 (.own 2 (f.length)),.s 8 (i64 a0)]) (λ(a1,t)=>.n [0,3,5,6] 3 [.c 0 (Zf a1),.k 2 (.tr 81 1 (t.length) (cellsO Zq t)),.s 5 (.own 2 (t.length))])
 (λc5 a6 f a0=>.r [(2,.len Ze b6)]<|.i (.m 2 (λ(a2,u)=>.n [0,3,5,6,7,8] 3 [.c 0 (Zf a2),.k 2 (.tr 81 1 (u.length) (cellsO Zq u)),.s 5 (.own 2 (u.length))]) (.b λb8 b9=>.b λc0 c1=>.b λa7 c2=>.to [0,3,5,6,7,8] [.c 0 (Zf a7.2),.k 3 (.cells (Zz (Zw.mk b8 c0.1 a7.1 ([]:Yj) ([]:Yn) ([]:Yi)))),.s 9 (.ptr 3 0)] (by
 exact .g [(2,.idx Ze b9),(6,.ca Zjq c1),(9,.ca Zjq c2)] 12 (.e 11 6 (.e 11 9 (.d [] [6,9,11] []) (.d [0,1,2,3,4,5,6,7,8,11,9,10] [6,11,9] [])) (.d [0,1,2,3,4,5,7,8,11,6,9,10] [11,6,9] [])))<|.m 1 (λ(a8,a9)=>.n [0,3,5,6,7,8,9] 4 [.c 0 (Zf a8),.c 3 (Zz a9)]) (.bc 1 Zi<|.a<|.i (.bc 0 Zsr<|.a<|.y (.kpt [0,3,5,6,7,8,9] 4 [(2,.of Zq f (λz_=>Wbh (Zbr (row:=Zz) (λ_=>rfl) _) Wbi))])<|.k0)
 (.y (.kpt [0,3,5,6,7,8,9] 4 [(2,.of Zq f (λz_=>Wbh (Zbr (row:=Zz) (λ_=>rfl) _) Wbi))])<|.k0)) (λ(a8,a9)=>.n<|.m 1 (λ(b0,b1)=>.n [0,3,5,6,7,8,9] 4 [.c 0 (Zf b0),.c 3 (Zz b1)]) (.bc 1 Zi<|.a<|.i (.bc 2 Zeg<|.bc 5 Zi<|.bi 6 Zai<|.a<|.y (.kpt [0,3,5,6,7,8,9] 4 [(2,.of Zq f (λz_=>Wbh (Zbr (row:=Zz) (λ_=>rfl) _) Wbi))])<|.k0)
 (.y (.kpt [0,3,5,6,7,8,9] 4 [(2,.of Zq f (λz_=>Wbh (Zbr (row:=Zz) (λ_=>rfl) _) Wbi))])<|.k0)) (λ(b0,b1)=>.n<|.m 1 (λ(b2,b3)=>.n [0,3,5,6,7,8,9] 4 [.c 0 (Zf b2),.c 3 (Zz b3)]) (.bc 1 Zi<|.a<|.i (.bc 2 Zeg<|.bc 4 Zi<|.a<|.y (.kpt [0,3,5,6,7,8,9] 4 [(2,.of Zq f (λz_=>Wbh (Zbr (row:=Zz) (λ_=>rfl) _) Wbi))])<|.k0)
 (.y (.kpt [0,3,5,6,7,8,9] 4 [(2,.of Zq f (λz_=>Wbh (Zbr (row:=Zz) (λ_=>rfl) _) Wbi))])<|.k0)) (λ(b2,b3)=>.n<|.m 1 (λ(b4,o)=>.n [0,3,5,6,7,8,9] 4 [.c 0 (Zf b4),.c 3 (Zz o)]) (.bc 1 Zi<|.a<|.i (.bc 2 Zxh<|.a<|.y (.kpt [0,3,5,6,7,8,9] 4 [(2,.of Zq f (λz_=>Wbh (Zbr (row:=Zz) (λ_=>rfl) _) Wbi))])<|.k0)
 (.y (.kpt [0,3,5,6,7,8,9] 4 [(2,.of Zq f (λz_=>Wbh (Zbr (row:=Zz) (λ_=>rfl) _) Wbi))])<|.k0)) (λ(b4,o)=>.n<|.b λj v=>.y (.gst (.takeB 2 Zq (λ_=>rfl) v (off:=0) dC Zz (λ_=>rfl) (λ_=>rfl) j.Ports 93 rfl))<|.c λc3=>.d0 [(4,.idxT v),(5,.fdT),(6,.ldH Zq (λ_=>rfl) v (.own 4 (j.Ports.length))),(9,.app Zz (λ_=>kR) c3),(10,.idxT v),(11,.fdT),(12,.stO Zq (λ_=>rfl) v 0 (some (.own 4 (j.Ports.length))))] 10 [] [9] []<|.y (.gst (.giveB 2 4 Zq (λ_=>rfl) v (off:=0) dC Zz 6 (j.Ports++[o]) 93 (List.length (j.Ports++[o])) rfl ({j with Ports:=(j.Ports++[o])}:Zo) rfl))<|.y (.pick [0,3,5,6,7,8])<|.y (.ln 2 (lset f (Int.toNat x) ({j with Ports:=(j.Ports++[o])}:Zo)))<|.y (.kpt [0,3,5,6,7,8] 3 [(2,.of Zq (List.set f (Int.toNat x) ({j with Ports:=(j.Ports++[o])}:Zo)) (λz_=>Wbh (Zbr (row:=Zz) (λ_=>rfl) _) Wbi))])<|.k0))))) (λ(a2,u)=>.n<|.a<|.w (.kpt [0,3,5,6,7,8] 3 [(2,.of Zq u (λz_=>Wbh (Zbr (row:=Zz) (λ_=>rfl) _) Wbi))])<|.xo (a2,u,ZI (a0+(1:Int)))))
 (.w (.kpt [0,3,5,6] 3 [(2,.of Zq f (λz_=>Wbh (Zbr (row:=Zz) (λ_=>rfl) _) Wbi))])<|.u0)) (λ(a1,t)=>.n<|.a<|.w (.kpt [0,3,5,6] 3 [(2,.of Zq t (λz_=>Wbh (Zbr (row:=Zz) (λ_=>rfl) _) Wbi))])<|.xo (a1,t,ZI (x+(1:Int)))))
 (.w (.kpt [5] 3 [(2,.of Zq p (λz_=>Wbh (Zbr (row:=Zz) (λ_=>rfl) _) Wbi))])<|.u0)) (λ(a5,q)=>.n<|.a<|.z (.gst (.toBuf 2 Zq Zab (λ_=>rfl) (λz_=>FZs.c (FZ.owB (row:=Zz) (s:=6) (λ_=>rfl) (λ_=>rfl) _) FZs.n) q))<|.e 1 [.of Zab q])
def Zzf (r:(Yh×Zc)):Exit→St→List Blk→Prop:=FnQ prog f14.results 1 λp K=>p=(slc 1 Zab r.1)∧K=[.cells (Zf r.2)]
def Zzg {b:Zc} {d:Zb} {f:Zs} {g:Int}:KF prog glob 14 f14 [.ptr 0 0,Zu d,Zb1 f,i64 g] [.cells (Zf b)] (Zox b d f g) (λr=>slc 1 Zab r.1) (λr=>[.cells (Zf r.2)]):=Ww func14<|.a<|.m 1 (Sum.elim (λj=>.n [0,5] 3 [.c 0 (Zf j)]) (λr=>.q (Zzf r))) (.bc 1 Zi<|.a<|.i (.bc 3 Z5z<|.a<|.a<|.i (.bc 1 Zi<|.a<|.i (.bc 3 Z0j<|.a<|.q 1 [] rfl)
 (.a<|.q 1 [] rfl))
 (.k))
 (.k)) (fun
 |.inl j=>(.n<|.bc 2 Z27<|.a<|.e 1 [])
 |.inr l=>.r λ_ _ h=>h)
def Z7a (r:Bool):Exit→St→List Blk→Prop:=FnQ prog f101.results 0 λp K=>p=(vb r)∧K=[]
def Zq1 {b:Yq}:KF prog glob 101 f101 [slc 11 Zan b] [] (Zgt b) (λr=>vb r) (λ_=>[]):=Ww func101<|.a<|.a<|.p1 [0,3] 0 (λc=>[.s 3 (i64 c)]) (Sum.elim (λ_=>.n [0] 0 []) (λr=>.q (Z7a r)))
 (λd c=>.r [(2,.len Zan b)]<|.i (.bi 2 Zan<|.bc 5 Zci<|.a<|.i (.a<|.s 0 [] rfl)
 (.a<|.x1))
 (.u)) (fun
 |.inl ()=>(.n<|.r [(1,.len Zan b)]<|.e 0 [])
 |.inr f=>.r λ_ _ h=>h)
def Z1u (r:Bool):Exit→St→List Blk→Prop:=FnQ prog f161.results 0 λp K=>p=(vb r)∧K=[]
def Z1v {b:Z9}:KF prog glob 161 f161 [Zse b] [] (Zhw b) (λr=>vb r) (λ_=>[]):=Ww func161<|.a<|.a<|.p1 [1,3] 1 (λf=>[.s 3 (i64 f)]) (Sum.elim (λ_=>.n [1] 1 []) (λr=>.q (Z1u r)))
 (λo f=>.a<|.i (.c λg=>.c λj=>.c λk=>.c λl=>.d [(2,.ixd g),(4,.ldA Zm (Arr5.get b.From) 0 2 1 g),(7,.ixd j),(9,.ldA Zm (Arr5.get b.From) 0 2 0 j),(13,.ixd k),(15,.ldA Zm (Arr5.get b.To) 10 2 1 k),(18,.ixd l),(20,.ldA Zm (Arr5.get b.To) 10 2 0 l)] 23<|.i (.a<|.s 0 [] rfl)
 (.a<|.x1))
 (.u)) (fun
 |.inl ()=>(.n<|.bc 2 Zci<|.v<|.gt λp m=>.gw<|.rc [] [(6,.ca Zci m)] []<|.e 0 [])
 |.inr t=>.r λ_ _ h=>h)
def Zx0 (r:Bool):Exit→St→List Blk→Prop:=FnQ prog f102.results 0 λp K=>p=(vb r)∧K=[]
def Zx1 {b:Yj}:KF prog glob 102 f102 [slc 20 Zas b] [] (Zgu b) (λr=>vb r) (λ_=>[]):=Ww func102<|.a<|.r [(1,.len Zas b)]<|.i (.a<|.e 0 [])
 (.a<|.p1 [0,3] 0 (λc=>[.s 3 (i64 c)]) (Sum.elim (λ_=>.n [] 0 []) (λr=>.q (Zx0 r)))
 (λf c=>.r [(2,.len Zas b)]<|.i (.bi 2 Zas<|.bc 4 Z1v<|.a<|.i (.a<|.s 0 [] rfl)
 (.a<|.p1 [0,3,4] 0 (λd=>[.s 4 (i64 d)]) (Sum.elim (λ_=>.n [0,3] 0 []) (λr=>.q (Zx0 r)))
 (λg d=>.a<|.i (.bi 2 Zas<|.bi 7 Zas<|.bc 10 Zmk<|.d0 [] 16 [] [14,15] []<|.a<|.i (.a<|.s 0 [] rfl)
 (.a<|.x1))
 (.u)) (fun
 |.inl ()=>(.n<|.a<|.x1)
 |.inr j=>.r λ_ _ h=>Wbq ⟨rfl,h⟩)))
 (.u)) (fun
 |.inl ()=>(.n<|.a<|.e 0 [])
 |.inr k=>.r λ_ _ h=>h))
def Z1w {b:Zad}:KF prog glob 162 f162 [Z4z b] [] (Zl8 b) (λr=>vb r) (λ_=>[]):=Ww func162<|.a<|.bc 2 Zci<|.v<|.v<|.rc [] [] []<|.e 0 []
def Z0k (r:Bool):Exit→St→List Blk→Prop:=FnQ prog f103.results 0 λp K=>p=(vb r)∧K=[]
def Zt5 {b:Yn}:KF prog glob 103 f103 [slc 13 Zat b] [] (Zgv b) (λr=>vb r) (λ_=>[]):=Ww func103<|.a<|.a<|.p1 [0,3] 0 (λc=>[.s 3 (i64 c)]) (Sum.elim (λ_=>.n [0] 0 []) (λr=>.q (Z0k r)))
 (λd c=>.r [(2,.len Zat b)]<|.i (.bi 2 Zat<|.bc 4 Z1w<|.a<|.i (.a<|.s 0 [] rfl)
 (.a<|.x1))
 (.u)) (fun
 |.inl ()=>(.n<|.r [(1,.len Zat b)]<|.e 0 [])
 |.inr f=>.r λ_ _ h=>h)
def Zvu {b:Z9}:KF prog glob 104 f104 [Zse b] [] (Zjz b) (λr=>vb r) (λ_=>[]):=Ww func104<|.a<|.a<|.v<|.gm λd c=>.gw<|.rc [(9,.bool c)] [] []<|.i (.a<|.e 0 [])
 (.v<|.v<|.rc [] [] []<|.e 0 [])
def Z28 (r:Bool):Exit→St→List Blk→Prop:=FnQ prog f105.results 0 λp K=>p=(vb r)∧K=[]
def Z29 {b:Zb} {c:Za}:KF prog glob 105 f105 [Zu b,Zk5 c] [] (Ziq b c) (λr=>vb r) (λ_=>[]):=Ww func105<|.a<|.a<|.p1 [2,3,5] 2 (λd=>[.s 5 (i64 d)]) (Sum.elim (λ_=>.n [] 2 []) (λr=>.q (Z28 r)))
 (λf d=>.r [(3,.len Zk b.Edges)]<|.i (.bc 3 Zeq<|.a<|.v<|.rc [] [] []<|.i (.a<|.s 0 [] rfl)
 (.a<|.x1))
 (.u)) (fun
 |.inl ()=>(.n<|.a<|.e 0 [])
 |.inr g=>.r λ_ _ h=>h)
def Zks (r:Bool):Exit→St→List Blk→Prop:=FnQ prog f60.results 0 λp K=>p=(vb r)∧K=[]
def Z0l {f:Zb} {c:Zw}:KF prog glob 60 f60 [Zu f,Zsf c] [] (Zgw f c) (λr=>vb r) (λ_=>[]):=Ww func60<|.a<|.bc 2 Zq1<|.v<|.ge λa7 x=>.gw<|.v<|.ge λa8 y=>.gw<|.v<|.ge λa9 z=>.gw<|.v<|.rc [(25,.len Zau c.Steers)] [(7,.ca Zq1 x),(13,.ca Zx1 y),(19,.ca Zt5 z)] []<|.i (.a<|.e 0 [])
 (.a<|.p1 [2,3,5] 2 (λg=>[.s 5 (i64 g)]) (Sum.elim (λ_=>.n [2,3] 2 []) (λr=>.q (Zks r)))
 (λb0 g=>.r [(3,.len Zas c.Moves)]<|.i (.b λb1 j=>.b λb2 k=>.l λa0 m=>.b λa1 o=>.to [2,3,5] [.s 64 (vb a1)] (by
 cases a0
 ·obtain⟨b3,a2,a3⟩:=bindb (ifF o rfl)
  obtain⟨b4,a4,⟨⟩⟩:=bindb a3;exact .d [(3,.idx Zas j),(5,.ca Zvu k),(7,.bool m),(12,.idx Zas a2),(16,.ca Z29 a4)] 19
 cases o
 exact .d [(3,.idx Zas j),(5,.ca Zvu k),(7,.bool m)] 19)<|.i (.a<|.s 0 [] rfl)
 (.a<|.p1 [2,3,5,6] 2 (λp=>[.s 6 (i64 p)]) (Sum.elim (λ_=>.n [2,3,5] 2 []) (λr=>.q (Zks r)))
 (λb5 p=>.a<|.i (.bi 3 Zas<|.bi 9 Zas<|.bc 12 Zmk<|.d0 [] 18 [] [16,17] []<|.a<|.i (.a<|.s 0 [] rfl)
 (.a<|.x1))
 (.u)) (fun
 |.inl ()=>(.n<|.a<|.x1)
 |.inr r88=>.r λ_ _ h=>Wbq ⟨rfl,h⟩)))
 (.u)) (fun
 |.inl ()=>(.n<|.a<|.p1 [2,3,9] 2 (λt=>[.s 9 (i64 t)]) (Sum.elim (λ_=>.n [3] 2 []) (λr=>.q (Zks r)))
 (λb6 t=>.r [(3,.len Zat c.Hides)]<|.i (.bi 4 Zat<|.bc 7 Zsq<|.d [] 9<|.i (.a<|.s 0 [] rfl)
 (.a<|.x1))
 (.u)) (fun
 |.inl ()=>(.n<|.a<|.p1 [3,10] 2 (λw=>[.s 10 (i64 w)]) (Sum.elim (λ_=>.n [] 2 []) (λr=>.q (Zks r)))
 (λb7 w=>.r [(3,.len Zau c.Steers)]<|.i (.bi 3 Zau<|.bc 6 Zci<|.v<|.ge λb8 a5=>.ge λb9 a6=>.gw<|.rc [] [(12,.idx Zau a5),(15,.ca Zae a6)] []<|.i (.a<|.s 0 [] rfl)
 (.a<|.x1))
 (.u)) (fun
 |.inl ()=>(.n<|.a<|.e 0 [])
 |.inr c0=>.r λ_ _ h=>h))
 |.inr c1=>.r λ_ _ h=>h))
 |.inr c2=>.r λ_ _ h=>h))
def Zwx (r:Bool):Exit→St→List Blk→Prop:=FnQ prog f33.results 0 λp K=>p=(vb r)∧K=[]
def Zs7 {f:Zb} {c:Yh}:KF prog glob 33 f33 [Zu f,slc 1 Zab c] [] (Zfr f c) (λr=>vb r) (λ_=>[]):=Ww func33<|.a<|.bc 1 Zca<|.v<|.rc [(5,.len Zab c),(8,.len Zj f.Devices)] [] []<|.i (.a<|.e 0 [])
 (.a<|.p1 [1,2,5] 1 (λj=>[.s 5 (i64 j)]) (Sum.elim (λ_=>.n [] 1 []) (λr=>.q (Zwx r)))
 (λa6 j=>.r [(2,.len Zab c)]<|.i (.b λk y=>.r [(2,.ca Zww y)]<|.b λz a0=>.r [(2,.idx Zab a0),(5,.len Zz z.Ports),(7,.len Ze k)]<|.i (.a<|.s 0 [] rfl)
 (.a<|.p1 [1,2,5,6,7] 1 (λm=>[.s 7 (i64 m)]) (Sum.elim (λ_=>.n [1,2,5] 1 []) (λr=>.q (Zwx r)))
 (λa7 m=>.r [(2,.len Ze k)]<|.i (.b λa8 o=>.b λa9 p=>.b λb0 t=>.l λa1 w=>.b λa2 x=>.to [1,2,5,6,7] [.s 69 (vb a2)] (by
 cases a1
 ·obtain⟨b1,a3,g⟩:=bindb (ifF x rfl)
  obtain⟨b2,a4,g⟩:=bindb g;obtain⟨b3,a5,⟨⟩⟩:=bindb g;exact .d [(2,.idx Zab o),(6,.idx Zz p),(11,.idx Ze t),(14,.bool w),(18,.idx Zab a3),(22,.idx Zz a4),(24,.ca Z0l a5)] 27
 cases x
 exact .d [(2,.idx Zab o),(6,.idx Zz p),(11,.idx Ze t),(14,.bool w)] 27)<|.i (.a<|.s 0 [] rfl)
 (.a<|.x1))
 (.u)) (fun
 |.inl ()=>(.n<|.a<|.x1)
 |.inr b4=>.r λ_ _ h=>Wbq ⟨rfl,h⟩)))
 (.u)) (fun
 |.inl ()=>(.n<|.a<|.e 0 [])
 |.inr b5=>.r λ_ _ h=>h))
def Zx2 {b:Zn} {c:Zn}:KF prog glob 115 f115 [Za6 b,Za6 c] [] (Zjh b c) (λr=>vb r) (λ_=>[]):=Ww func115<|.a<|.v<|.gm λf d=>.gw<|.rc [(11,.bool d)] [] []<|.e 0 []
def Zzh {f:Yd} {j:Zg}:KF prog glob 64 f64 [slc 4 Zv f,Zwd j] [] (Zrr f j) (λr=>slc 4 Zv r) (λ_=>[]):=Ww func64<|.a<|.a<|.p1 [0,3,5] 1 (λk=>[.s 5 (i64 k)]) (λg=>.n [0,3,5] 1 [.s 5 (i64 g)])
 (λa3 k=>.l λq o=>.b λt p=>.to [0,3,5] [.s 19 (vb t)] (by
 cases q
 ·cases p
  exact .d [(2,.len Zv f),(4,.bool o)] 14
 obtain⟨a4,v,w⟩:=bindb (ifT p rfl);obtain⟨a5,x,⟨⟩⟩:=bindb w
 exact .d [(2,.len Zv f),(4,.bool o),(7,.idx Zv v),(12,.ca Zx2 x)] 14)<|.i (.a<|.x1)
 (.u)) (λg=>.n<|.c λy=>.c λz=>.c λa0=>.c λa1=>.c λa2=>.d0 [(0,.m),(3,.slice Zv f y),(4,.app Zv (λ_=>kR) z),(7,.app Zv (λ_=>kR) a0),(10,.slice Zv f a1),(11,.app Zv (λ_=>kR) a2)] 12 [] [0,4,7,11] []<|.e 0 [.of Zv (((([]:Yd)++(List.drop (Int.toNat (0:Int)) (List.take (Int.toNat g) f)))++[j])++(List.drop (Int.toNat g) (List.take (Int.toNat (f.length:Int)) f)))])
def Zwy {b:Zag} {c:Int}:KF prog glob 118 f118 [Zac8 b,i64 c] [] (Zpo b c) (λr=>i64 r) (λ_=>[]):=Ww func118<|.a<|.a<|.a<|.i (.a<|.e 0 [])
 (.a<|.i (.a<|.e 0 [])
 (.a<|.e 0 []))
def Z7b (r:Int):Exit→St→List Blk→Prop:=FnQ prog f65.results 0 λp K=>p=(i64 r)∧K=[]
def Zt6 {m:Zb} {t:Zp} {w:Int} {x:Int}:KF prog glob 65 f65 [Zu m,Zax t,i64 w,i64 x] [] (Znh m t w x) (λr=>i64 r) (λ_=>[]):=Ww func65<|.a<|.bc 3 Zsc<|.v<|.ge λa8 a0=>.gw<|.v<|.rc [] [(9,.ca Zsc a0)] []<|.i (.a<|.e 0 [])
 (.bc 3 Zp1<|.a<|.a<|.p1 [2,4,5,9,10] 2 (λy=>[.s 10 (i64 y)]) (Sum.elim (λ_=>.n [] 2 []) (λr=>.q (Z7b r)))
 (λa9 y=>.r [(3,.len Zx m.Links)]<|.i (.bi 3 Zx<|.bc 6 Zwy<|.a<|.b λb0 c=>.l λa1 f=>.l λa2 g=>.b λb1 o=>.l λa3 j=>.b λa4 k=>.to [2,4,5,9,10] [.s 79 (vb a4)] (by
 cases a1
 ·subst g
  cases o;subst j;cases k;exact .d [(3,.ca Ze3 c),(4,.bool f)] 33
 cases a2
 ·cases o
  subst j;cases k;exact .d [(3,.ca Ze3 c),(4,.bool f),(8,.bool g)] 33
 obtain⟨b2,z,⟨⟩⟩:=bindb (ifT o rfl);cases a3
 ·cases k
  exact .d [(3,.ca Ze3 c),(4,.bool f),(8,.bool g),(11,.idx Ze z),(15,.bool j)] 33
 obtain⟨b3,a5,p⟩:=bindb (ifT k rfl);obtain⟨b4,a6,p⟩:=bindb p;obtain⟨b5,a7,⟨⟩⟩:=bindb p
 exact .d [(3,.ca Ze3 c),(4,.bool f),(8,.bool g),(11,.idx Ze z),(15,.bool j),(18,.idx Ze a5),(23,.idx Zx a6),(29,.idx Ze a7)] 33)<|.i (.a<|.s 0 [] rfl)
 (.a<|.x1))
 (.u)) (fun
 |.inl ()=>(.n<|.a<|.e 0 [])
 |.inr b6=>.r λ_ _ h=>h))
def Z4h {b:Zb} {g:Zp}:KF prog glob 35 f35 [Zu b,Zax g] [] (Zoc b g) (λr=>slc 1 Z8 r) (λ_=>[]):=Ww func35<|.a<|.bc 1 Zca<|.v<|.ge λa1 y=>.gw<|.rc [] [(6,.ca Zbz y)] []<|.i (.a<|.e 0 [])
 (.a<|.z (.own 5 1 94)<|.a<|.p2 [2,3,5,6] 3 (λj o=>[.l 2 Z8 j,.s 6 (i64 o)]) (λf=>.n [5] 3 [.l 2 Z8 f])
 (λa2 j o=>.r [(3,.len Zj b.Devices)]<|.i (.a<|.a<|.w (.wn 7 4)<|.p2 [2,3,5,6,7,8] 3 (λp q=>[.s 7 (slc 4 Zv p),.s 8 (i64 q)]) (λt=>.n [2,3,5,6,7] 3 [.s 7 (slc 4 Zv t)])
 (λa3 p q=>.r [(3,.len Zk b.Edges)]<|.i (.m 2 (λx=>.n [2,3,5,6,7,8] 3 [.s 7 (slc 4 Zv x)]) (.bi 3 Zk<|.a<|.bc 5 Zp0<|.a<|.i (.k)
 (.a<|.i (.bc 5 Zzh<|.a<|.k)
 (.bc 8 Zt6<|.bc 10 Zzh<|.d [] 11<|.k))) (λx=>.n<|.a<|.x2))
 (.u)) (λt=>.n<|.c λa0=>.r [(3,.app Z8 (λ_=>kR) a0)]<|.a<|.x2))
 (.u)) (λf=>.n<|.a<|.e 0 [.of Z8 f]))
def Z4i {b:Zb} {g:Zp}:KF prog glob 36 f36 [Zu b,Zax g] [] (Zod b g) (λr=>slc 1 Zar r) (λ_=>[]):=Ww func36<|.a<|.bc 2 Zbz<|.a<|.i (.a<|.e 0 [])
 (.a<|.z (.own 5 1 22)<|.a<|.p2 [2,3,5,6] 3 (λj k=>[.l 2 Zar j,.s 6 (i64 k)]) (λd=>.n [5] 3 [.l 2 Zar d])
 (λt j k=>.r [(3,.len Zj b.Devices)]<|.i (.a<|.w (.own 7 1 3)<|.a<|.p2 [2,3,5,6,7,8] 4 (λm o=>[.l 3 Ze m,.s 8 (i64 o)]) (λf=>.n [2,3,5,6,7] 4 [.l 3 Ze f])
 (λv m o=>.r [(3,.len Zj b.Devices)]<|.i (.bc 5 Zt6<|.c λp=>.r [(7,.app Ze (λ_=>kR) p)]<|.a<|.x2)
 (.u)) (λf=>.n<|.c λq=>.r [(2,.rd (.pre (.share 3) (.wkO 3 Ze f (.s)))),(3,.app Zar (λ_=>kR) q)]<|.a<|.x2))
 (.u)) (λd=>.n<|.a<|.e 0 [.of Zar d]))
def Z1x {b:Zb} {c:Zp} {f:Yh}:KF prog glob 12 f12 [Zu b,Zax c,slc 1 Zab f] [] (Zl9 b c f) (λr=>.tup [Zbw r.1,i64 r.2]) (λ_=>[]):=Ww func12<|.a<|.bc 2 Zs7<|.v<|.ge λj g=>.gw<|.rc [] [(7,.ca Zbz g)] []<|.i (.a<|.e 0 [])
 (.bc 5 Z4h<|.bc 8 Z4i<|.d [] 10<|.e 0 [])
def Z1y {b:Zb} {d:Int}:KF prog glob 41 f41 [Zu b,i64 d] [] (Zma b d) (λr=>.own 0 (r.length)) (λr=>[bf 1 3 Ze r false]):=Ww func41<|.a<|.a<|.z (.own 5 1 3)<|.a<|.p2 [1,2,5,6] 2 (λf g=>[.l 1 Ze f,.s 6 (i64 g)]) (λj=>.n [5] 2 [.l 1 Ze j])
 (λw f g=>.r [(3,.len Zx b.Links)]<|.i (.m 2 (λp=>.n [1,2,5,6] 2 [.l 1 Ze p]) (.bi 3 Zx<|.v<|.ge λx q=>.gw<|.rc [] [(12,.idx Zx q)] []<|.i (.c λt=>.r [(3,.app Ze (λ_=>kR) t)]<|.k)
 (.k)) (λp=>.n<|.a<|.x2))
 (.u)) (λj=>.n<|.a<|.z (.kp [4] 2)<|.z (.swap 1 0)<|.o 1 [])
def Zzi {a6:Zc} {j:Z1} {o:Int}:KF prog glob 16 f16 [.ptr 0 0,Zbw j,i64 o] [.cells (Zf a6)] (Zji a6 j o) (λr=>Zbw r.1) (λr=>[.cells (Zf r.2)]):=Ww func16<|.a<|.z (.toFar 1)<|.b λt c7=>.r [(1,.q),(3,.ca Z1y c7)]<|.c λc8=>.r [(0,.m),(2,.q),(3,.app Z8 (λ_=>kR) c8),(5,.m)]<|.c λc9=>.r [(0,.m),(2,.q),(3,.app Zar (λ_=>kR) c9),(5,.m)]<|.b λf a7=>.c λd1=>.r [(0,.m),(2,.q),(4,.idx Z8 a7),(5,.ldE Z8 a7),(6,.app Zv (λ_=>kR) d1)]<|.b λa3 a8=>.c λd2=>.r [(0,.m),(2,.q),(4,.idx Zar a8),(5,.ldE Zar a8),(6,.app Ze (λ_=>kR) d2)]<|.b λg d3=>.r [(2,.len Zv (([]:Yd)++f)),(3,.ca Zi d3)]<|.m 1 (λ(a9,b0,b1,p,u)=>.n [2,4,6,8,9] 8 [.l 3 Ze b0,.l 7 Ze p,.c 0 (Zf a9),.k 6 (bf 4 97 Zv b1 true),.s 8 (slc 4 Zv u)]) (.bc 1 Zi<|.a<|.v<|.rc [(4,.len Zv (([]:Yd)++f))] [] []<|.i (.y (.share 6)<|.c λd4=>.c λd5=>.c λd6=>.c λd7=>.d0 [(0,.m),(3,.slice Zv (([]:Yd)++f) d4),(4,.app Zv (λ_=>kR) d5),(8,.slice Zv (([]:Yd)++f) d6),(9,.app Zv (λ_=>kR) d7)] 10 [] [0,4,9] []<|.y (.share 8)<|.y (.wo 8 Zv ((([]:Yd)++(List.drop (Int.toNat (0:Int)) (List.take (Int.toNat g.1) (([]:Yd)++f))))++(List.drop (Int.toNat (ZI (g.1+(1:Int)))) (List.take (Int.toNat (List.length (([]:Yd)++f):Int)) (([]:Yd)++f)))))<|.k)
 (.v<|.v<|.rc [(4,.len Zv (([]:Yd)++f)),(9,.len Ze t)] [] []<|.i (.bc 8 Zi<|.b λa4 b2=>.b λw b3=>.b λa5 b4=>.r [(7,.len Ze t),(9,.idx Ze b2),(10,.ldE Ze b2),(11,.idx Zv b3),(12,.fdE Zv (([]:Yd)++f) g.1),(13,.stE Zv b3 ({w with Edge:=false}:Zg)),(14,.idx Zv b4 (m0:=List.length (([]:Yd)++f)) (hm:=by simp only[Wa9])),(15,.fdE Zv (List.set (([]:Yd)++f) (Int.toNat g.1) ({w with Edge:=false}:Zg)) g.1 (m0:=List.length (([]:Yd)++f)) (hm:=by simp only[Wa9])),(16,.stE Zv b4 ({a5 with Port:=a4}:Zg) (m0:=List.length (([]:Yd)++f)) (hm:=by simp only[Wa9]))]<|.y (.pick [2,4,6,8,9])<|.y (.ln 6 ((lset (List.set (([]:Yd)++f) (Int.toNat g.1) ({w with Edge:=false}:Zg)) (Int.toNat g.1) ({a5 with Port:=a4}:Zg)).trans (lset (([]:Yd)++f) (Int.toNat g.1) ({w with Edge:=false}:Zg))))<|.y (.share 6)<|.y (.wo 8 Zv (List.set (List.set (([]:Yd)++f) (Int.toNat g.1) ({w with Edge:=false}:Zg)) (Int.toNat g.1) ({a5 with Port:=a4}:Zg)))<|.k)
 (.l λd8 x=>.l λd9 a0=>.l λe0 a1=>.b λe1 a2=>.to [0,2,4,6,7,8,9,10] [.s 95 (vb e1)] (by
 cases d8
 ·subst a0
  subst a1;cases a2;exact .r [(2,.bool x)]
 cases d9
 ·subst a1
  cases a2;exact .r [(2,.bool x),(4,.len Zv (([]:Yd)++f)),(7,.bool a0)]
 cases e0
 ·cases a2
  exact .r [(2,.bool x),(4,.len Zv (([]:Yd)++f)),(7,.bool a0),(9,.len Ze t),(12,.bool a1)]
 obtain⟨f3,b5,⟨⟩⟩:=bindb (ifT a2 rfl)
 exact .r [(2,.bool x),(4,.len Zv (([]:Yd)++f)),(7,.bool a0),(9,.len Ze t),(12,.bool a1),(15,.idx Zv b5),(16,.fdE Zv (([]:Yd)++f) g.1),(17,.fdE Zv (([]:Yd)++f) g.1),(18,.ldE Zv b5)])<|.i (.b λb6 b7=>.r [(2,.idx Zv b7),(3,.fdE Zv (([]:Yd)++f) g.1),(4,.ldE Zv b7)]<|.a<|.l λe2 b8=>.b λe3 b9=>.to [0,2,4,6,7,8,9,10,12] [.s 140 (vb e3)] (by
 cases e2
 ·cases b9
  exact .d [(3,.len Zv (([]:Yd)++f)),(5,.bool b8)] 15
 obtain⟨f4,c0,⟨⟩⟩:=bindb (ifT b9 rfl)
 exact .d [(3,.len Zv (([]:Yd)++f)),(5,.bool b8),(9,.idx Zv c0),(10,.fdE Zv (([]:Yd)++f) (ZI (g.1+(1:Int)))),(11,.ldE Zv c0)] 15)<|.i (.y (.share 6)<|.y (.wo 8 Zv (([]:Yd)++f))<|.k)
 (.y (.share 6)<|.c λe4=>.c λe5=>.bc 11 Zi<|.b λe6 c1=>.c λe7=>.d0 [(0,.m),(4,.slice Zv (([]:Yd)++f) e4),(5,.app Zv (λ_=>kR) e5),(10,.len Ze t),(12,.idx Ze c1),(13,.ldE Ze c1),(16,.app Zv (λ_=>kR) e7)] 17 [] [0,5,11,16] []<|.c λe8=>.c λe9=>.r [(4,.slice Zv (([]:Yd)++f) e8),(5,.app Zv (λ_=>kR) e9)]<|.y (.share 9)<|.y (.wo 8 Zv (((([]:Yd)++(List.drop (Int.toNat (0:Int)) (List.take (Int.toNat (ZI (g.1+(1:Int)))) (([]:Yd)++f))))++[Zg.mk ({b6.Prefix with Bits:=(ZI (b6.Prefix.Bits+(1:Int)))}:Zn) false e6])++(List.drop (Int.toNat (ZI (g.1+(1:Int)))) (List.take (Int.toNat (List.length (([]:Yd)++f):Int)) (([]:Yd)++f)))))<|.k))
 (.v<|.rc [(1,.len Ze (([]:Ya)++a3)),(5,.len Ze t)] [] []<|.i (.b λf0 f1=>.r [(2,.len Ze (([]:Ya)++a3)),(3,.ca Zi f1)]<|.a<|.i (.c λf2=>.bc 9 Zi<|.b λc2 c3=>.b λf5 c4=>.r [(4,.app Ze (λ_=>kR) f2),(7,.lenO),(10,.idx Ze c3),(11,.ldE Ze c3),(12,.idx Ze c4),(13,.stE Ze c4 c2)]<|.y (.pick [2,4,6,8,9])<|.y (.ln 7 (lset (([]:Ya)++a3) (Int.toNat f0.1) c2))<|.y (.share 6)<|.y (.wo 8 Zv (([]:Yd)++f))<|.k)
 (.y (.share 6)<|.y (.wo 8 Zv (([]:Yd)++f))<|.k))
 (.y (.share 6)<|.y (.wo 8 Zv (([]:Yd)++f))<|.k))))) (λ(a9,b0,b1,p,u)=>.n<|.z (.share 7)<|.b λf6 c5=>.b λf7 c6=>.d0 [(1,.q),(4,.q),(8,.idx Z8 c5),(9,.stE Z8 c5 u),(10,.idx Zar c6),(11,.rd (.wkO 7 Ze p (.stE Zar c6 p)))] 10 [] [9] []<|.z (.pick [4,6])<|.z (.ln 4 (lset (([]:(List Yd))++j.Routes) (Int.toNat o) u))<|.z (.ln 5 (lset (([]:(List Ya))++j.Labels) (Int.toNat o) p))<|.z (.share 4)<|.z (.share 5)<|.r [(0,.wkP (Zbv (Z1.mk j.Topology j.Failure j.Configs (List.set (([]:(List Yd))++j.Routes) (Int.toNat o) u) (List.set (([]:(List Ya))++j.Labels) (Int.toNat o) p))) [.of Z8 (List.set (([]:(List Yd))++j.Routes) (Int.toNat o) u),.of Zar (List.set (([]:(List Ya))++j.Labels) (Int.toNat o) p)] .q)]<|.e 1 [])
def Zzj {f:Zc} {j:Int} {l:Int} {o:Bool}:KF prog glob 5 f5 [.ptr 0 0,i64 j,i64 l,vb o] [.cells (Zf f)] (Zoy f j l o) (λr=>Zbw r.1) (λr=>[.cells (Zf r.2)]):=Ww func5<|.a<|.b λa0 a1=>.r [(3,.ca Z37 a1)]<|.b λa7 a2=>.b λa3 a4=>.b λa5 a6=>.to [0,3,8,9] [.c 0 (Zf a3.2),.k 4 (.cells (Zbv a5.1)),.s 12 (.ptr 4 0)] (by
 exact .g [(3,.ca Zy8 a2),(8,.ca Zzg a4),(9,.ca Z1x a6)] 15 (.e 13 3 (.e 13 8 (.d [] [3,8,13,14] []) (.d [0,1,2,3,4,5,6,7,13,8,9,10,11,12,14] [3,13,8,14] [])) (.d [0,1,2,4,5,6,7,13,3,8,9,10,11,12,14] [13,3,8,14] [])))<|.bc 1 Zi<|.a<|.p3 [0,3,8,9,12,14] 5 (λp q t=>[.c 0 (Zf p),.c 4 (Zbv q),.s 14 (i64 t)]) (λ(w,x)=>.n [8,12] 5 [.c 0 (Zf w),.c 4 (Zbv x)])
 (λa8 p q t=>.v<|.rc [] [] []<|.i (.m 2 (λ(y,z)=>.n [0,3,8,9,12,14] 5 [.c 0 (Zf y),.c 4 (Zbv z)]) (.bc 4 Zi<|.r [(3,.len Zj a0.1.Devices)]<|.bc 4 Zbu<|.a<|.i (.bc 3 Zzi<|.a<|.k)
 (.k)) (λ(y,z)=>.n<|.a<|.x3))
 (.u)) (λ(w,x)=>.n<|.a<|.e 1 [])
def Z3a (r:Bool):Exit→St→List Blk→Prop:=FnQ prog f203.results 0 λp K=>p=(vb r)∧K=[]
def Zcf {c:ByteArray}:KF prog glob 203 f203 [vstr c] [] (Zb5 c) (λr=>vb r) (λ_=>[]):=Ww func203<|.a<|.v<|.v<|.v<|.ge λt f=>.gw<|.v<|.ge λw g=>.gw<|.rc [] [(13,.str f),(18,.str g)] []<|.i (.a<|.e 0 [])
 (.a<|.p1 [0,3] 0 (λd=>[.s 3 (i64 d)]) (Sum.elim (λ_=>.n [] 0 []) (λr=>.q (Z3a r)))
 (λx d=>.a<|.i (.b λy j=>.v<|.gt λz k=>.gw<|.rc [(2,.str j)] [(7,.str k)] []<|.b λa0 l=>.v<|.gt λa1 m=>.gw<|.rc [(2,.str l)] [(7,.str m)] []<|.v<|.v<|.gt λa2 o=>.gw<|.v<|.gt λa3 p=>.gw<|.rc [] [(9,.str o),(15,.str p)] []<|.i (.a<|.s 0 [] rfl)
 (.a<|.x1))
 (.u)) (fun
 |.inl ()=>(.n<|.a<|.e 0 [])
 |.inr a4=>.r λ_ _ h=>h))
def Zyn {k:Z5}:KF prog glob 204 f204 [Z05 k] [] (Zif k) (λr=>vb r) (λ_=>[]):=Ww func204<|.a<|.b λw c=>.l λn d=>.l λo f=>.l λp g=>.b λq i=>.to [] [.s 2 (vb q)] (by
 cases n
 ·subst f
  subst g;cases i;exact .r [(2,.ca Zcf c),(3,.bool d)]
 cases o
 ·subst g
  cases i;exact .r [(2,.ca Zcf c),(3,.bool d),(8,.bool f)]
 cases p
 ·cases i
  exact .r [(2,.ca Zcf c),(3,.bool d),(8,.bool f),(13,.bool g)]
 obtain⟨t,j,u⟩:=bindb (ifT i rfl)
 replace j:=someb j
 obtain⟨x,m,⟨⟩⟩:=bindb u;cases t
 ·obtain⟨y,v,⟨⟩⟩:=bindb (ifF m rfl)
  exact .r [(2,.ca Zcf c),(3,.bool d),(8,.bool f),(13,.bool g),(17,.bool j),(20,.ca Zcf v)]
 cases m
 exact .r [(2,.ca Zcf c),(3,.bool d),(8,.bool f),(13,.bool g),(17,.bool j)])<|.e 0 []
def Z1z {c:Z5} {b:ByteArray}:KF prog glob 257 f257 [Z05 c,.ptr 0 0] [.cells (Zai b)] (Zuf c b) (λr=>vb r) (λ_=>[.cells (Zai b)]):=Ww func257<|.a<|.a<|.e 1 []
def Zju (a:ByteArray) (r:Int):Exit→St→List Blk→Prop:=FnQ prog f256.results 1 λp K=>p=(i64 r)∧K=[.cells (Zai a)]
def Zjv {d:Ys} {c:ByteArray}:KF prog glob 256 f256 [slc 5 Zj d,.fn 257 [.ptr 0 0]] [.cells (Zai c)] (Zdv d c) (λr=>i64 r) (λ_=>[.cells (Zai c)]):=Ww func256<|.a<|.r [(1,.len Zj d)]<|.p1 [0,1,7,8] 1 (λf=>[.s 8 (i64 f)]) (Sum.elim (λ_=>.n [] 1 []) (λr=>.q (Zju c r)))
 (λj f=>.a<|.i (.a<|.bi 3 Zj<|.b λk g=>.r [(5,.callF func257 [] ((Z1z).run _ g))]<|.i (.a<|.s 1 [] rfl)
 (.a<|.x1))
 (.u)) (fun
 |.inl ()=>(.n<|.a<|.e 1 [])
 |.inr l=>.r λ_ _ h=>h)
def Z4j {b:Zb} {c:ByteArray}:KF prog glob 205 f205 [Zu b,vstr c] [] (Zsa b c) (λr=>i64 r) (λ_=>[]):=Ww func205<|.a<|.bc 3 Zjv<|.r [(2,.q)]<|.e 0 []
def Zvk {b:Int}:KF prog glob 149 f149 [i64 b] [] (Zmu b) (λr=>u32 r) (λ_=>[]):=Ww func149<|.a<|.c λd=>.r [(3,.sh d)]<|.e 0 []
def Zdz {i:Zn}:KF prog glob 148 f148 [Za6 i] [] (Zew i) (λr=>vb r) (λ_=>[]):=Ww func148<|.a<|.l λj c=>.l λk f=>.b λm g=>.to [] [.s 2 (vb m)] (by
 cases j
 ·subst f
  cases g;exact .d [(3,.bool c)] 17
 cases k
 ·cases g
  exact .d [(3,.bool c),(8,.bool f)] 17
 obtain⟨o,n,⟨⟩⟩:=bindb (ifT g rfl)
 exact .d [(3,.bool c),(8,.bool f),(13,.ca Zvk n)] 17)<|.e 0 []
def Z0m {b:Zb} {c:Z2}:KF prog glob 206 f206 [Zu b,Znu c] [] (Zkm b c) (λr=>vb r) (λ_=>[]):=Ww func206<|.a<|.v<|.rc [(8,.len Zj b.Devices)] [] []<|.bc 2 Zcf<|.v<|.gt λi d=>.gw<|.rc [] [(6,.ca Zcf d)] []<|.v<|.v<|.gt λj f=>.gw<|.v<|.v<|.gl λk g=>.gw<|.rc [(19,.bool g)] [(7,.ca Zdz f)] []<|.e 0 []
def Z4k {c:Z2} {b:ByteArray}:KF prog glob 259 f259 [Znu c,.ptr 0 0] [.cells (Zai b)] (Zvp c b) (λr=>vb r) (λ_=>[.cells (Zai b)]):=Ww func259<|.a<|.a<|.e 1 []
def Zmo (a:ByteArray) (r:Int):Exit→St→List Blk→Prop:=FnQ prog f258.results 1 λp K=>p=(i64 r)∧K=[.cells (Zai a)]
def Zmp {d:Yk} {c:ByteArray}:KF prog glob 258 f258 [slc 6 Zk d,.fn 259 [.ptr 0 0]] [.cells (Zai c)] (Zey d c) (λr=>i64 r) (λ_=>[.cells (Zai c)]):=Ww func258<|.a<|.r [(1,.len Zk d)]<|.p1 [0,1,7,8] 1 (λf=>[.s 8 (i64 f)]) (Sum.elim (λ_=>.n [] 1 []) (λr=>.q (Zmo c r)))
 (λj f=>.a<|.i (.a<|.bi 3 Zk<|.b λk g=>.r [(5,.callF func259 [] ((Z4k).run _ g))]<|.i (.a<|.s 1 [] rfl)
 (.a<|.x1))
 (.u)) (fun
 |.inl ()=>(.n<|.a<|.e 1 [])
 |.inr l=>.r λ_ _ h=>h)
def Z7c {b:Zb} {c:ByteArray}:KF prog glob 207 f207 [Zu b,vstr c] [] (Ztv b c) (λr=>i64 r) (λ_=>[]):=Ww func207<|.a<|.bc 3 Zmp<|.r [(2,.q)]<|.e 0 []
def Zon {c:Zn} {f:Int}:KF prog glob 83 f83 [Za6 c,u32 f] [] (Ze1 c f) (λr=>vb r) (λ_=>[]):=Ww func83<|.a<|.b λo g=>.l λk i=>.b λm j=>.to [] [.s 4 (vb m)] (by
 cases k
 ·cases j
  exact .d [(1,.ca Zdz g),(2,.bool i)] 12
 obtain⟨p,n,⟨⟩⟩:=bindb (ifT j rfl)
 exact .d [(1,.ca Zdz g),(2,.bool i),(6,.ca Zvk n)] 12)<|.e 0 []
def Zx3 {b:Zn} {c:Zn}:KF prog glob 260 f260 [Za6 b,Za6 c] [] (Zni b c) (λr=>vb r) (λ_=>[]):=Ww func260<|.a<|.bc 1 Zdz<|.v<|.v<|.gt λf d=>.gw<|.rc [] [(13,.ca Zon d)] []<|.e 0 []
def Zvc {b:Zn} {c:Zn}:KF prog glob 208 f208 [Za6 b,Za6 c] [] (Zir b c) (λr=>vb r) (λ_=>[]):=Ww func208<|.a<|.bc 2 Zx3<|.v<|.ge λf d=>.gw<|.rc [] [(6,.ca Zx3 d)] []<|.e 0 []
def Z3b {c:Zn} {b:Zn}:KF prog glob 210 f210 [Za6 c,.ptr 0 0] [.cells (Zy b)] (Zrd c b) (λr=>vb r) (λ_=>[.cells (Zy b)]):=Ww func210<|.a<|.bc 2 Zvc<|.a<|.e 1 []
def Zj2 (a:Zn) (r:Int):Exit→St→List Blk→Prop:=FnQ prog f261.results 1 λp K=>p=(i64 r)∧K=[.cells (Zy a)]
def Zj3 {d:Yl} {c:Zn}:KF prog glob 261 f261 [slc 2 Zy d,.fn 210 [.ptr 0 0]] [.cells (Zy c)] (Zd1 d c) (λr=>i64 r) (λ_=>[.cells (Zy c)]):=Ww func261<|.a<|.r [(1,.len Zy d)]<|.p1 [0,1,7,8] 1 (λf=>[.s 8 (i64 f)]) (Sum.elim (λ_=>.n [] 1 []) (λr=>.q (Zj2 c r)))
 (λj f=>.a<|.i (.a<|.bi 3 Zy<|.b λk g=>.r [(5,.callF func210 [] ((Z3b).run _ g))]<|.i (.a<|.s 1 [] rfl)
 (.a<|.x1))
 (.u)) (fun
 |.inl ()=>(.n<|.a<|.e 1 [])
 |.inr l=>.r λ_ _ h=>h)
def Ziu {c:Yl} {b:Zn}:KF prog glob 209 f209 [slc 2 Zy c,.fn 210 [.ptr 0 0]] [.cells (Zy b)] (Zb6 c b) (λr=>vb r) (λ_=>[.cells (Zy b)]):=Ww func209<|.a<|.bc 2 Zj3<|.a<|.e 1 []
def Zlf (r:Bool):Exit→St→List Blk→Prop:=FnQ prog f145.results 0 λp K=>p=(vb r)∧K=[]
def Zwz {d:Zb}:KF prog glob 145 f145 [Zu d] [] (Zlc d) (λr=>vb r) (λ_=>[]):=Ww func145<|.a<|.v<|.v<|.v<|.v<|.v<|.v<|.rc [(2,.len Zj d.Devices),(7,.len Zj d.Devices),(13,.len Zx d.Links),(19,.len Zk d.Edges),(25,.len Zy d.Pools)] [] []<|.i (.a<|.e 0 [])
 (.r [(2,.len Zj d.Devices)]<|.p1 [1,52,53,54] 1 (λg=>[.s 54 (i64 g)]) (Sum.elim (λ_=>.n [1] 1 []) (λr=>.q (Zlf r)))
 (λa5 g=>.a<|.i (.bi 1 Zj<|.a<|.bc 1 Zyn<|.v<|.ge λa6 w=>.gw<|.rc [] [(7,.ca Z4j w)] []<|.i (.a<|.s 0 [] rfl)
 (.a<|.x1))
 (.u)) (fun
 |.inl ()=>(.n<|.r [(2,.len Zx d.Links)]<|.p1 [1,72,73,74] 1 (λj=>[.s 74 (i64 j)]) (Sum.elim (λ_=>.n [1] 1 []) (λr=>.q (Zlf r)))
 (λa7 j=>.a<|.i (.bi 0 Zx<|.a<|.v<|.v<|.v<|.v<|.rc [(15,.len Zj d.Devices)] [] []<|.i (.a<|.s 0 [] rfl)
 (.a<|.x1))
 (.u)) (fun
 |.inl ()=>(.n<|.r [(2,.len Zk d.Edges)]<|.p1 [1,108,109,110] 1 (λf=>[.s 110 (i64 f)]) (Sum.elim (λ_=>.n [1] 1 []) (λr=>.q (Zlf r)))
 (λa8 f=>.a<|.i (.bi 1 Zk<|.a<|.bc 2 Z0m<|.v<|.ge λa9 x=>.gw<|.rc [] [(8,.ca Z7c x)] []<|.i (.a<|.s 0 [] rfl)
 (.c λy=>.r [(3,.slice Zk d.Edges y),(4,.len Zk (List.drop (Int.toNat (0:Int)) (List.take (Int.toNat f) d.Edges)))]<|.p1 [1,8,108,109,110,130,131,132] 2 (λk=>[.s 132 (i64 k)]) (Sum.elim (λ_=>.n [1,108,109,110] 2 []) (λr=>.q (Zlf r)))
 (λb0 k=>.a<|.i (.bi 0 Zk<|.a<|.v<|.v<|.gt λb1 z=>.gw<|.rc [] [(13,.ca Zvc z)] []<|.i (.a<|.s 0 [] rfl)
 (.a<|.x1))
 (.u)) (fun
 |.inl ()=>(.n<|.a<|.x1)
 |.inr b2=>.r λ_ _ h=>Wbq ⟨rfl,h⟩)))
 (.u)) (fun
 |.inl ()=>(.n<|.r [(2,.len Zy d.Pools)]<|.p1 [1,154,155,156] 1 (λm=>[.s 156 (i64 m)]) (Sum.elim (λ_=>.n [] 1 []) (λr=>.q (Zlf r)))
 (λb3 m=>.a<|.i (.bi 1 Zy<|.a<|.b λb4 o=>.l λa0 p=>.b λa1 t=>.to [1,154,155,156] [.s 171 (vb a1)] (by
 cases a0
 ·obtain⟨a2,a3⟩:=chkb (ifF t rfl)
  obtain⟨b5,a4,⟨⟩⟩:=bindb a3;exact .r [(1,.ca Zdz o),(3,.bool p),(7,.slice Zy d.Pools a2),(8,.q),(9,.ca Ziu a4)]
 cases t
 exact .r [(1,.ca Zdz o),(3,.bool p)])<|.i (.a<|.s 0 [] rfl)
 (.a<|.x1))
 (.u)) (fun
 |.inl ()=>(.n<|.a<|.e 0 [])
 |.inr b6=>.r λ_ _ h=>h))
 |.inr b7=>.r λ_ _ h=>h))
 |.inr b8=>.r λ_ _ h=>h))
 |.inr b9=>.r λ_ _ h=>h))
def Zzk {b:Z2}:KF prog glob 245 f245 [Znu b] [] (Ztl b) (λr=>vb r) (λ_=>[]):=Ww func245<|.a<|.a<|.e 0 []
def Zkt (r:Int):Exit→St→List Blk→Prop:=FnQ prog f258.results 0 λp K=>p=(i64 r)∧K=[]
def Zku {b:Yk}:KF prog glob 258 f258 [slc 6 Zk b,.sc (.func (.func 245) #[] #[])] [] (Zeb b) (λr=>i64 r) (λ_=>[]):=Ww func258<|.a<|.r [(1,.len Zk b)]<|.p1 [0,1,7,8] 0 (λc=>[.s 8 (i64 c)]) (Sum.elim (λ_=>.n [] 0 []) (λr=>.q (Zkt r)))
 (λd c=>.a<|.i (.a<|.bi 3 Zk<|.bc 5 Zzk<|.a<|.i (.a<|.s 0 [] rfl)
 (.a<|.x1))
 (.u)) (fun
 |.inl ()=>(.n<|.a<|.e 0 [])
 |.inr f=>.r λ_ _ h=>h)
def Zix {b:Yk}:KF prog glob 244 f244 [slc 6 Zk b,.sc (.func (.func 245) #[] #[])] [] (Zdt b) (λr=>vb r) (λ_=>[]):=Ww func244<|.a<|.bc 2 Zku<|.a<|.e 0 []
def Z10 {b:Zb}:KF prog glob 194 f194 [Zu b] [] (Zmc b) (λr=>vb r) (λ_=>[]):=Ww func194<|.a<|.bc 1 Zwz<|.v<|.gt λd c=>.gw<|.rc [] [(5,.ca Zix c)] []<|.e 0 []
def Zade (r:Bool):Exit→St→List Blk→Prop:=FnQ prog f202.results 0 λp K=>p=(vb r)∧K=[]
def Zfj {f:ZB}:KF prog glob 202 f202 [Zbo f] [] (Zer f) (λr=>vb r) (λ_=>[]):=Ww func202<|.a<|.a<|.p1 [5,6] 1 (λg=>[.s 6 (i64 g)]) (Sum.elim (λ_=>.n [] 1 []) (λr=>.q (Zade r)))
 (λv g=>.a<|.i (.c λo=>.r [(1,.ixA Zm (Arr5.get f) o)]<|.l λp j=>.b λt k=>.to [5,6] [.s 22 (vb t)] (by
 cases p
 ·obtain⟨m,⟨⟩⟩:=chkb (ifF k rfl)
  exact .d [(5,.bool j),(9,.ixd m),(10,.ldA Zi0 (Arr5.get Zmr) 0 1 0 m)] 13
 cases k
 exact .d [(5,.bool j)] 13)<|.i (.a<|.s 0 [] rfl)
 (.a<|.x1))
 (.u)) (fun
 |.inl ()=>(.n<|.a<|.e 0 [])
 |.inr w=>.r λ_ _ h=>h)
end
end
end Go.AM

/- Parts of a proof, printed short. No condition. -/
import Derived.Test.YtibpgdnenoehfaaGreatDoorDQ11
set_option maxRecDepth 100000
set_option linter.all false
namespace Go.AM
noncomputable section
open Go
open Go.Proofs.Tryz
section
set_option maxRecDepth 1000000
open Go.Proofs
def x8:XF prog glob 82 f82 [.ptr 126 0,xi64 1] Y10 (xi64 6) Y10:=Wh0 (xX hk2) func82
end
section
set_option maxRecDepth 1000000
open Go.Proofs
noncomputable def hk3:Hk prog glob:=λf ps H=>match hk2 f ps H with
 |some k=>some k
 |none=>bif Nat.beq f 31 then(bif Nat.beq H.length 0 then some (.xf x1)else none)else bif Nat.beq f 82 then(bif Nat.beq H.length 55 then some (.xf x2)else bif Nat.beq H.length 91 then some (.xf x5)else bif Nat.beq H.length 92 then some (.xf x6)else bif Nat.beq H.length 127 then some (.xf x8)else none)else bif Nat.beq f 83 then(bif Nat.beq H.length 74 then some (.xf x3)else bif Nat.beq H.length 110 then some (.xf x7)else none)else none
def xs:XF prog glob 11 f11 [] [] (.sc (.bool true)) []:=Wh0 (xX hk3) func11
def Zqz (r:Bool) (hF:Zix=some r):ACall prog glob 11 [] [] λp K=>p=vb r∧K=[]:=by
 have hr:=someb hF;subst hr;exact xs.pure
end
section
open Go.Proofs
def Zwg {q:Ya} {c:Z0} {t:Int}:KF prog glob 3 f3 [slc 1 Ze q,Zbt c,i64 t] [] (Zf9 q c t) (λr=>vb r) (λ_=>[]):=Wv func3<|.a<|.bc 1 Zacs<|.a<|.bc 1 Zz0<|.a<|.b λf b2=>.r [(2,.ca Zvp b2)]<|.b λd4 u=>.b λd5 w=>.l λb3 x=>.b λb4 y=>.to [2,4,9] [.s 31 (vb b4)] (by
 cases b3
 ·obtain⟨d6,b5,b6⟩:=bindb (ifF y rfl)
  obtain⟨d7,b7,⟨⟩⟩:=bindb b6;exact .d [(1,.ca Zes u),(3,.ca Zdn w),(5,.bool x),(7,.ca Zes b5),(9,.ca Zdn b7)] 12
 cases y
 exact .d [(1,.ca Zes u),(3,.ca Zdn w),(5,.bool x)] 12)<|.i (.a<|.e 0 [])
 (.j (λ_=>.bc 2 Z8b<|.a<|.bc 1 Zdn<|.a<|.l λz a0=>.to [2,4,9,10,11,12] [.s 40 (vb (z&&true))] (by
 cases z
 ·exact .r [(2,.bool a0)]
 exact .r [(2,.bool a0)])<|.i (.a<|.e 0 [])
 (.l λb8 k=>.b λd8 a1=>.l λa2 m=>.to [2,4,9,10,11,12] [.s 51 (vb (a2&&true))] (by
 cases b8
 ·cases a1
  subst m;exact .r [(1,.bool k)]
 obtain⟨b9,g,⟨⟩⟩:=bindb (ifT a1 rfl)
 replace g:=someb g
 cases b9
 ·cases a2
  ·exact .r [(1,.bool k),(4,.bool g),(9,.len Zh f.1.Topology.Devices),(13,.bool m)]
  exact .r [(1,.bool k),(4,.bool g),(9,.len Zh f.1.Topology.Devices),(13,.bool m)]
 subst m
 exact .r [(1,.bool k),(4,.bool g)])<|.i (.a<|.e 0 [])
 (.l λc0 n=>.l λc1 o=>.l λa3 p=>.to [4] [.s 73 (vb (a3&&false))] (by
 cases c0
 ·subst o
  subst p;exact .r [(1,.bool n)]
 cases c1
 ·subst p
  exact .r [(1,.bool n),(5,.bool o)]
 cases a3
 ·exact .r [(1,.bool n),(5,.bool o),(10,.len Zh f.1.Topology.Devices),(13,.bool p)]
 exact .r [(1,.bool n),(5,.bool o),(10,.len Zh f.1.Topology.Devices),(13,.bool p),(18,.ptrNil)])<|.i (.a<|.e 0 [])
 (.bc 2 Ztn<|.v<|.v<|.v<|.v<|.v<|.rc [(6,.len Z7 c.Configs),(12,.len Z6 c.Routes),(18,.len Zan c.Labels),(25,.len Ze c.Failure.Links),(32,.len Ze c.Failure.Devices)] [] []<|.i (.b λd9 c2=>.r [(0,.call func11 [] (Zqz _ c2))]<|.e 0 [])
 (.b λe0 a4=>.b λe1 a5=>.l λc3 a6=>.b λc4 a7=>.to [] [.s 6 (vb c4)] (by
 cases c3
 ·cases a7
  exact .d [(1,.ca Zes a4),(3,.ca Zdn a5),(5,.bool a6)] 8
 obtain⟨e2,c5,⟨⟩⟩:=bindb (ifT a7 rfl)
 exact .d [(1,.ca Zes a4),(3,.ca Zdn a5),(5,.bool a6),(6,.call func11 [] (Zqz _ c5))] 8)<|.e 0 [])))))
 (λ_=>.bc 2 Z39<|.a<|.bc 1 Zdn<|.a<|.v<|.gl λe3 c6=>.gw<|.rc [(5,.bool c6)] [] []<|.i (.a<|.e 0 [])
 (.v<|.gl λe4 c7=>.gw<|.v<|.gl λe5 c8=>.gw<|.rc [(4,.bool c7),(9,.len Zh f.1.Topology.Devices),(16,.bool c8)] [] []<|.i (.a<|.e 0 [])
 (.v<|.v<|.v<|.gl λe6 c9=>.gw<|.rc [(10,.len Zh f.1.Topology.Devices),(16,.bool c9)] [] []<|.i (.a<|.e 0 [])
 (.bc 2 Ztn<|.v<|.v<|.v<|.v<|.v<|.rc [(6,.len Z7 c.Configs),(12,.len Z6 c.Routes),(18,.len Zan c.Labels),(25,.len Ze c.Failure.Links),(32,.len Ze c.Failure.Devices)] [] []<|.i (.b λe7 d0=>.r [(0,.call func11 [] (Zqz _ d0))]<|.e 0 [])
 (.b λe8 a8=>.b λe9 a9=>.l λd1 b0=>.b λd2 b1=>.to [] [.s 6 (vb d2)] (by
 cases d1
 ·cases b1
  exact .d [(1,.ca Zes a8),(3,.ca Zdn a9),(5,.bool b0)] 8
 obtain⟨f0,d3,⟨⟩⟩:=bindb (ifT b1 rfl)
 exact .d [(1,.ca Zes a8),(3,.ca Zdn a9),(5,.bool b0),(6,.call func11 [] (Zqz _ d3))] 8)<|.e 0 []))))))
end
end
end Go.AM

/- Parts of a proof, printed short. No condition. -/
import Derived.Test.YtdbopohjgcdpmaaGreatDoorLQ7
set_option maxRecDepth 100000
set_option linter.all false
namespace Go.AM
noncomputable section
open Go
open Go.Proofs.Tryz
section
set_option maxRecDepth 1000000
open Go.Proofs
def xt0:Zb:=⟨[⟨⟨#[114]⟩,0,false,false,⟨#[]⟩⟩,⟨⟨#[115]⟩,0,false,false,⟨#[]⟩⟩,⟨⟨#[116]⟩,0,false,false,⟨#[]⟩⟩],[⟨0,1,1⟩,⟨1,2,1⟩],[⟨⟨#[97]⟩,0,⟨#[122]⟩,⟨167772160,24⟩,false⟩,⟨⟨#[98]⟩,2,⟨#[122]⟩,⟨167772416,24⟩,false⟩],[],0⟩
def xf0:Zp:=⟨[],[]⟩
def xp0:List Zal:=[⟨⟨⟨0,4294967295⟩,⟨0,4294967295⟩,⟨0,255⟩,⟨0,65535⟩,⟨0,65535⟩⟩,true⟩]
def xc0:List Zo:=[⟨[⟨0,xp0,[],[],[],[]⟩]⟩,⟨[]⟩,⟨[⟨1,[],xp0,[],[],[]⟩]⟩]
def xm0:Z1:=⟨xt0,xf0,xc0,[[⟨⟨167772160,24⟩,true,0⟩,⟨⟨167772416,24⟩,false,0⟩],[⟨⟨167772160,24⟩,false,0⟩,⟨⟨167772416,24⟩,false,0⟩],[⟨⟨167772160,24⟩,false,1⟩,⟨⟨167772416,24⟩,true,1⟩]],[[-1,0,0],[0,-1,1],[1,1,-1]]⟩
def xdRt:List PV→Zg
 |[.sc (.int _ a),.sc (.int _ b),.sc (.bool e),.sc (.int _ p)]=>⟨⟨a,b⟩,e,p⟩
 |_=>Zu1
def xorR (l:List Zg):List OV:=[owB 97 4 Zv l]
def xroR (l:List Zg):List PV:=[.sl 4 (l.map Zv)]
def xdOv:OV→List Zg
 |.own _ _ n cs=>(rowsOf 4 n (cs.map λc=>match c with|.pv p=>p|_=>.z)).map xdRt
 |_=>[]
def xapT (H:List Blk) (i b:Nat):Option (Hnd prog glob):=match H[i]?,H[b]? with
 |some (.tr _ _ _ cs),some (.fb _ _ [[.own j m]])=>match H[j]? with
  |some (.buf _ _ xs _)=>if h:(cs.map xdOv).length+[xs.map xdRt].length≤lim then if hm:(xs.map xdRt).length=m then
    some (.post (.post (.appT xorR (cs.map xdOv) [xs.map xdRt] [.pv (.own j m)] h) (.giveA i j xorR (cs.map xdOv) [.pv (.own j m)] 0 Zv 4 (xs.map xdRt) 97 m hm rfl)) (.eqC i (ca:=cellsO xorR (cs.map xdOv)++[owB 97 4 Zv (xs.map xdRt)]) (cb:=cellsO xorR (cs.map xdOv++[xs.map xdRt])) (Z2q (m:=[xs.map xdRt]))))else none else none
  |_=>none
 |_,_=>none
def xoT (st:St) (H:List Blk) (x:Operand):Option (Nat×Nat×Nat×List OV):=match opd glob st x with
 |some (.own i n)=>match H[i]? with
  |some (.tr _ _ _ cs)=>some (i,n,0,cs)
  |_=>none
 |some (.ept i n k _)=>match H[i]? with
  |some (.tr _ _ _ cs)=>some (i,n,k,cs)
  |_=>none
 |_=>none
def ho33 (o:Oper) (st:St) (H:List Blk):Option (Hnd prog glob):=match o.op with
 |.buildSlice t _ _=>bif Nat.beq t 35 then some .litFb else bif Nat.beq t 79||Nat.beq t 34 then some (.shr .litN)else match o.dst with
  |some d=>bif Nat.beq t 22&&Nat.beq d 20||Nat.beq t 68&&Nat.beq d 27 then some .m else none
  |none=>none
 |.call cl=>match cl.callee,cl.args.toList with
  |.builtin .clear,_=>some .cx
  |.builtin .append,[x,y]=>match xoT st H x,opd glob st y with
   |some r,some (.own b _)=>xapT H r.1 b
   |_,_=>none
  |_,_=>none
 |.indexAddr _ x y=>match xoT st H x,opd glob st y with
  |some r,some (.sc (.int _ j))=>match h:idx r.2.2.2 j with
   |some _=>some (.idxT h)
   |none=>none
  |_,_=>none
 |.load _ x=>match xoT st H x with
  |some r=>match r.2.2.2[r.2.2.1]?,h:idx (r.2.2.2.map xdOv) (r.2.2.1:Int)with
   |some (.pv p),some _=>some (.ldH xorR (λ_=>rfl) h p)
   |_,_=>none
  |none=>none
 |_=>none
def xfT:Nat→List Blk→Option (Nat×List OV)
 |_,[]=>none
 |i,.tr _ _ _ cs::_=>some (i,cs)
 |i,_::H=>xfT (i+1) H
def hz33:Hz glob:=λ_ nt id st H=>bif Nat.beq nt 73&&Nat.beq id 16 then match st.get 5 with
  |some (.own _ _)=>[]
  |_=>[.own 5 1 94,.gst (.toTr H.length xorR xroR [] rfl)]
 else bif Nat.beq nt 46&&Nat.beq id 5 then match xfT 0 H with
  |some r=>match h:idx (r.2.map xdOv) 1 with
   |some z=>[.gst (.takeB r.1 xorR (λ_=>rfl) h (off:=0) dC Zv (λ_=>rfl) (λ_=>rfl) z 97 rfl)]
   |none=>[]
  |none=>[]
 else bif Nat.beq nt 46&&Nat.beq id 6 then match xfT 0 H with
  |some r=>match r.2[1]? with
   |some (OV.pv (PV.own j m))=>match H[j]? with
    |some (Blk.buf _ _ xs _)=>match h:idx (r.2.map xdOv) 1 with
     |some z=>if hm:(xs.map xdRt).length=m then[.gst (.giveB r.1 j xorR (λ_=>rfl) h (off:=0) dC Zv 4 (xs.map xdRt) 97 m hm (xs.map xdRt) rfl),.gst (.toBuf r.1 xorR xroR (λ_=>rfl) (λz=>FZs.c (FZ.owB (s:=4) (row:=Zv) (λ_=>rfl) (λ_=>rfl) z) FZs.n) ((r.2.map xdOv).set 1 (xs.map xdRt))),.share r.1]else[]
     |none=>[]
    |_=>[]
   |_=>[]
  |none=>[]
 else[]
def hk33:Hk prog glob:=λf ps _=>bif Nat.beq f 33 then match ps with
  |[_,_]=>hkC (@Zs7 xt0 xc0)
  |_=>none
 else bif Nat.beq f 34 then match ps with
  |[_,_]=>hkC (@Zbz xt0 xf0)
  |_=>none
 else bif Nat.beq f 58 then match ps with
  |[_]=>hkC (@Zca xt0)
  |_=>none
 else bif Nat.beq f 63 then match ps with
  |[_,_,.sc (.int _ d),.sc (.int _ e)]=>hkC (@Zp0 xt0 xf0 d e)
  |_=>none
 else bif Nat.beq f 65 then match ps with
  |[_,_,.sc (.int _ d),.sc (.int _ e)]=>hkC (@Zt6 xt0 xf0 d e)
  |_=>none
 else bif Nat.beq f 42 then match ps with
  |[.agg (.sl _ _::_)]=>hkC (@Zzo xm0)
  |_=>none
 else bif Nat.beq f 44 then match ps with
  |[.agg (.sl _ _::_),.sc (.int _ d),.sc (.int _ v),.sc (.int _ a),.sc (.bool b)]=>hkC (@Zzp xm0 d v a b)
  |_=>none
 else bif Nat.beq f 93 then match ps with
  |[.sc (.agg ⟨[.int _ a,.int _ b]⟩)]=>hkC (@Z41 ⟨a,b⟩)
  |_=>none
 else bif Nat.beq f 43 then match ps with
  |[_,_,.sc (.int _ d)]=>hkC (@Zx9 xt0 xf0 d)
  |_=>none
 else bif Nat.beq f 150 then match ps with
  |[_,_,.sc (.int _ d)]=>hkC (@Zw1 xt0 xf0 d)
  |_=>none
 else none
def xs:XF prog glob 10 f10 [] [] (.sc (.bool true)) []:=XF.of (xEz prog glob hk33 ho33 hz33 (λ_ _=>none) 200) func10
def Z7h (r:Bool) (hF:Zxp=some r):ACall prog glob 10 [] [] λp K=>p=vb r∧K=[]:=by
 have hr:=someb hF;subst hr;exact xs.pure
end
section
open Go.Proofs
def Zyv {k:Ya} {m:Int} {o:Int} {p:Int}:KF prog glob 3 f3 [slc 1 Ze k,i64 m,i64 o,u32 p] [] (Znx k m o p) (λr=>vb r) (λ_=>[]):=Ww func3<|.a<|.bc 1 Zabt<|.a<|.b λt a1=>.r [(1,.ca Zzj a1)]<|.a<|.p2 [1,2,3,9,10,11] 2 (λv w=>[.c 0 (Zf v),.s 11 (i64 w)]) (Sum.elim (λx=>.n [1,2,3,9,10] 2 [.c 0 (Zf x)]) (λr=>.q (Zyu r)))
 (λb2 v w=>.a<|.i (.b λb3 a2=>.b λb4 a3=>.b λb5 a4=>.b λb6 a5=>.d0 [(7,.k1 Zi a2),(15,.k1 Zi a3),(18,.k1 Zf5 a4),(19,.ca Zf8 a5),(5,.len Zj t.1.Topology.Devices),(13,.len Zj t.1.Topology.Devices)] 21 [] [7,15,18] []<|.i (.a<|.s 0 [] rfl)
 (.a<|.x2))
 (.u)) (fun
 |.inl x=>(.n<|.b λb7 d=>.l λa6 f=>.b λa7 y=>.l λa8 g=>.b λa9 j=>.to [] [.c 0 (Zf a7.2),.s 8 (vb a9)] (by
 cases a6
 ·cases y
  subst g;cases j;exact .r [(4,.ca Zf8 d),(5,.bool f)]
 obtain⟨b8,z,b0⟩:=bindb (ifT y rfl);obtain⟨b9,a0,⟨⟩⟩:=bindb b0;cases a8
 ·cases j
  exact .r [(4,.ca Zf8 d),(5,.bool f),(8,.ca Zp4 z),(10,.ca Zf8 a0),(12,.bool g)]
 obtain⟨c0,b1,⟨⟩⟩:=bindb (ifT j rfl)
 exact .r [(4,.ca Zf8 d),(5,.bool f),(8,.ca Zp4 z),(10,.ca Zf8 a0),(12,.bool g),(13,.call func10 [] (Z7h _ b1))])<|.e 0 [])
 |.inr c1=>.r λ_ _ h=>h)
end
end
end Go.AM

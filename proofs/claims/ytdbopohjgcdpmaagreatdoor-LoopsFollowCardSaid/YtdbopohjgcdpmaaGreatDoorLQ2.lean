/- Parts of a proof, printed short. No condition. -/
import Derived.OpenShut
import Derived.Carry
import Derived.ChangeArms
import Derived.WideShapes
import Derived.ChangeShapes
import Derived.Lib.LaidTab
import Derived.Test.YtdbopohjgcdpmaaGreatDoorLQ1
set_option maxRecDepth 100000
set_option linter.all false
namespace Go.AM
noncomputable section
open Go
section
def bindb {α γ:Type} {x:Option α} {f:α→Option γ} {r:γ} (h:x.bind f=some r):∃ v,x=some v∧f v=some r:=by
 cases x
 simp at h
 grind
def chkb {γ:Type} {c:Prop} [Decidable c] {x:Option γ} {r:γ} (h:(if c then x else none)=some r):c∧x=some r:=by
 grind
def ifT {γ:Type} {b:Bool} {x y:Option γ} {r:γ} (h:(if b=true then x else y)=some r) (hb:b=true):x=some r:=gD
def ifF {γ:Type} {b:Bool} {x y:Option γ} {r:γ} (h:(if b=true then x else y)=some r) (hb:b=false):y=some r:=gD
def noneb {γ:Type} {r:γ} {p:Prop} (h:none=some r):p:=by cases h
def Waw:=@Option.some.inj
def someb {γ:Type} {x r:γ} (h:some x=some r):x=r:=Waw h
def idx {α:Type} (l:List α) (i:Int):Option α:=if 0≤i then l[i.toNat]? else none
def Zo8 {α:Type} {l:List α} {i:Int} {x:α} (h:idx l i=some x):0≤i∧i<l.length∧l[i.toNat]? = some x:=by
 unfold idx at h
 grind
def Z79 {α γ:Type} {l:List α} {i:Int} {x:α} (f:α→γ) (h:idx l i=some x):(l.map f)[i.toNat]? = some (f x):=by
 rw[Wba,(Zo8 h).2.2];rfl
def fuel:Nat:=1180591620717411303424
def lim:Nat:=2147483648
def opn (ops:Array Oper) (i:Nat):Oper:=(ops[i]?).getD default
def opn_of {ops:Array Oper} {i:Nat} (h:(ops[i]?).isSome=true):ops[i]? = some (opn ops i):=by
 obtain⟨o,ho⟩:=Was.1 h;simp[opn,ho]
section
variable {P:Program} {G:Glob} {n0 nt:Nat} {o:Oper} {st:St} {H:List Blk} {ops:Array Oper} {Q:Exit→St→List Blk→Prop}
inductive LeQ (G:Glob) (n0 nt:Nat) (Q:Exit→St→List Blk→Prop) (e:Exit) (st:St) (H:List Blk):Prop where
 |mk (st':St) (H':List Blk) (hle:Le G n0 nt st H st' H') (hq:Q e st' H')
def AWP.mid {x:Code} (Qm:Exit→St→List Blk→Prop) (h:AWP P G n0 nt x (LeQ G n0 nt Qm) st H) (k:∀ e st H,Qm e st H→Q e st H):AWP P G n0 nt x Q st H:=by
 intro c a w β h0 h1 hr
 refine wp_mono (h c a w β h0 h1 hr) λe a' w' ⟨st1,H1,β1,hl,hr1⟩=>?_
 obtain⟨st2,H2,hle,hq⟩:=hl;obtain⟨β2,hr2⟩:=hle c a' w' β1 h0 h1 hr1;exact⟨st2,H2,β2,k _ _ _ hq,hr2⟩
def roundQ (G:Glob) (n0 nt:Nat) (id:Nat) (I:Nat→St→List Blk→Prop) (n:Nat) (Q:Exit→St→List Blk→Prop):Exit→St→List Blk→Prop
 |.normal,st,H=>LeQ G n0 nt (λ_ st H=>∃ m,m<n∧I m st H) .normal st H
 |.exit j,st,H=>match Nat.beq j id with|true=>Q .normal st H|false=>Q (.exit j) st H
 |e,st,H=>Q e st H
def AWP.bround {id:Nat} {x:Code} (I:Nat→St→List Blk→Prop) (n:Nat) (hI:I n st H) (round:∀ n st H,I n st H→AWP P G n0 nt x (roundQ G n0 nt id I n Q) st H):AWP P G n0 nt (.block id (.loop x)) Q st H:=by
 refine AWP.bloop I n hI λn st H h=>?_
 refine AWP.mid (loopQ id I n Q) ((round n st H h).mono λe st' H' hq=>?_) λ_ _ _ h=>h
 cases e<;>simp  [roundQ]at hq
 case normal=>
  obtain⟨st2,H2,h2,h3⟩:=hq;exact⟨st2,H2,h2,h3⟩
 all_goals exact⟨st',H',Le.refl,hq⟩
def To (S:St) (K:List Blk) (e:Exit) (st:St) (H:List Blk):Prop:=e=.normal∧st=S∧H=K
def AWP.to {x:Code} (S:St) (K:List Blk) (h:AWP P G n0 nt x (To S K) st H) (hq:Q .normal S K):AWP P G n0 nt x Q st H:=
 h.mono λe st H ⟨h1,h2,h3⟩=>gD
def To.mk {S S':St} {K K':List Blk} (h1:S'=S) (h2:K'=K):To S K .normal S' K':=⟨rfl,h1,h2⟩
def Zac5 {k:Blk} (m:Nat) (h:k.isCells=true):(k.isRet&&k.farO m)=true:=by cases k<;>first|rfl|cases h
def W2:=@Nat.le_of_ble_eq_true
def fin {rs:Array ResultVar} {R:PV→List Blk→Prop} {e:Exit} {K:List Blk} {p:PV} (he:e=.normal∨e=.ret) (q:PV) (m:Nat) (h1:ares P st K rs=some p) (h2:WkR K p q) (h3:Nat.ble n0 m=true) (h4:Nat.ble m K.length=true)
  (h5:q.ids (λj=>decide (j<m))=true) (h6:(K.take m).all Blk.isCells=true) (h7:R q (K.take m)):FnQ P rs n0 R e st K:=
 have hm:=W2 h3
 ⟨he,true,p,q,m,λ_=>W7.2 λk hk=>W7.1 h6 k (Wby hk),h1,h2,hm,W2 h4,h5,by
  simp only[okOut,Wh]
  refine⟨W7.2 λk hk=>W7.1 h6 k ?_,W7.2 λk hk=>Zac5 m gD⟩
  have:K.take n0=(K.take m).take n0:=gD
  grind,h7⟩
def finO {rs:Array ResultVar} {R:PV→List Blk→Prop} {e:Exit} {K:List Blk} {p:PV} (he:e=.normal∨e=.ret) (q:PV) (m:Nat) (h1:ares P st K rs=some p) (h2:WkG false K p q) (h3:Nat.ble n0 m=true) (h4:Nat.ble m K.length=true)
  (h5:q.ids (λj=>decide (j<m))=true) (h6:okOut n0 m K=true) (h7:R q (K.take m)):FnQ P rs n0 R e st K:=
 ⟨he,false,p,q,m,(λh=>by cases h),h1,h2,W2 h3,W2 h4,h5,h6,h7⟩
def ACall.body {f:FuncId} {fn:Func} {code:Code} {args:List PV} {R:PV→List Blk→Prop} (hfn:P.funcs[f]? = some fn) (hb:fn.body=some code) (hnt:Nat.ble args.length fn.ntmps=true)
  (h:AWP P G H.length fn.ntmps code (FnQ P fn.results H.length R) (numb 0 args) H):ACall P G f args H R:=ACall.of_AWP hfn hb sA h
variable {α:Type} {row:α→List PV}
def Wk.ownT {any:Bool} {i s t:Nat} {l:List α} {sh:Bool} (h:H[i]? = some (.buf s t (l.map row) sh)) (hs:any=true∨sh=true):Wk H any (.own i l.length) (.sl s (l.map row)):=by
 have:=Wk.own (any:=any) i s t (l.map row) sh h hs
 grind
def Src.ownT {i s t:Nat} {l:List α} {sh:Bool} (h:H[i]? = some (.buf s t (l.map row) sh)):Src H s (.own i l.length) (l.map row):=by
 have:=Src.own (s:=s) i t (l.map row) sh h
 grind
def OpT.indexT {t e:TypeId} {x y:Operand} {k:IntKind} {j:Int} {l:List α} {z:α} {q:PV} {s:Nat} (ho:o.op=.indexAddr t x y) (hu:P.underlying t=some (.slice e)) (hz:P.cellsOf e=s) (hs0:Nat.beq s 0=false)
  (hx:opd G st x=some (.sl s (l.map row))) (hy:opd G st y=some (.sc (.int k j))) (h1:idx l j=some z) (hq:q=.ro (row z) 0):OpT P G n0 o st H q H:=by
 subst hz hq;exact OpT.index_sl ho hu (λh=>sA) hx hy (Zo8 h1).1 (Z79 row h1)
def OpT.indexOwnT {t e:TypeId} {x y:Operand} {k:IntKind} {j:Int} {i s ty:Nat} {l:List α} {z:α} {sh:Bool} {q:PV} (ho:o.op=.indexAddr t x y) (hu:P.underlying t=some (.slice e)) (hz:P.cellsOf e=s) (hs0:Nat.beq s 0=false)
  (hx:opd G st x=some (.own i l.length)) (hb:H[i]? = some (.buf s ty (l.map row) sh)) (hy:opd G st y=some (.sc (.int k j))) (h1:idx l j=some z) (hq:q=.ept i l.length j.toNat 0):OpT P G n0 o st H q H:=by
 obtain⟨h2,h3,h4⟩:=Zo8 h1;have:=OpT.index_own (n0:=n0) ho hu hz (λh=>sA) gD hb hy h2 gD
 grind
def OpT.loadEptT {t:TypeId} {x:Operand} {i off s ty:Nat} {j:Int} {l:List α} {z:α} {sh:Bool} {p:PV} (ho:o.op=.load t x) (hx:opd G st x=some (.ept i l.length j.toNat off)) (hb:H[i]? = some (.buf s ty (l.map row) sh)) (h1:idx l j=some z)
  (hl:ldPV P t ((row z).drop off)=some p):OpT P G n0 o st H p H:=
 OpT.load_ept ho hx hb gD (Z79 row h1) hl
def Wd:=@Nat.eq_of_beq_eq_true
def OpT.storeEptT {t:TypeId} {x y:Operand} {i off s ty:Nat} {j:Int} {l:List α} {z z':α} {p u:PV} {H':List Blk} (ho:o.op=.store t x y) (hx:opd G st x=some (.ept i l.length j.toNat off)) (hy:opd G st y=some p)
  (hb:H[i]? = some (.buf s ty (l.map row) false)) (h1:idx l j=some z) (ht:Nat.beq (P.cellsOf t) p.cells.length=true) (hti:(P.info? t).isSome=true) (hl:Nat.ble (off+p.cells.length) (row z).length=true) (h2:(p.cells.all PV.one)=true) (hcl:PV.idss (λ_=>false) p.cells=true)
  (hz:row z'=(row z).take off++p.cells++(row z).drop (off+p.cells.length)) (hu:u=.sc undef) (hH:H'=H.set i (.buf s ty ((l.set j.toNat z').map row) false)):OpT P G n0 o st H u H':=by
 have:=OpT.store_ept (n0:=n0) ho hx hy hb gD (Z79 row h1) (Wd ht) hti (W2 hl) h2 hcl;simp_all
def Wh0:=@OpT.storeEptT
def OpT.lenT {cl:Call} {x:Operand} {T e s:Nat} {l:List α} {q:PV} (ho:o.op=.call cl) (hcl:cl={callee:=.builtin .len,args:=#[x],argTypes:=#[T]}) (hT:P.underlying T=some (.slice e)) (hx:opd G st x=some (.sl s (l.map row))) (hq:q=.sc (.int .i64 l.length)) :
  OpT P G n0 o st H q H:=by
 have:=OpT.len_sl (n0:=n0) (H:=H) ho hcl hT hx
 grind
def Wt:=@List.length_map
def OpT.lenOwnT {cl:Call} {x:Operand} {T e s t i:Nat} {l:List α} {sh:Bool} {q:PV} (ho:o.op=.call cl) (hcl:cl={callee:=.builtin .len,args:=#[x],argTypes:=#[T]}) (hT:P.underlying T=some (.slice e)) (hx:opd G st x=some (.own i l.length)) (hb:H[i]? = some (.buf s t (l.map row) sh)) (hq:q=.sc (.int .i64 l.length)) :
  OpT P G n0 o st H q H:=by
 have:=OpT.len_own (n0:=n0) ho hcl hT (by rw[Wt];omega) hb
 grind
def Wdy:=@Nat.mul_le_mul
def OpT.appendT {cl:Call} {x y:Operand} {T U e:TypeId} {i s t:Nat} {ti:TypeInfo} {z:Value} {l m:List α} {sh:Bool} {q p:PV} {H':List Blk}
  (ho:o.op=.call cl) (hcl:cl={callee:=.builtin .append,args:=#[x,y],argTypes:=#[T,U]}) (hT:P.underlying T=some (.slice t)) (hU:P.underlying U=some (.slice e)) (hi:P.info? t=some ti) (hz:ti.zero=some z)
  (hs:ti.size=s) (hzs:z.cells.size=s) (hby:Nat.ble ti.bytes 65536=true) (hx:opd G st x=some (.own i l.length)) (hb:H[i]? = some (.buf s t (l.map row) sh)) (hy:opd G st y=some q) (hq:Src H s q (m.map row)) (h1:∀ z,((row z).all PV.one)=true)
  (hn:l.length+m.length≤lim) (hp:p=.own i (l++m).length) (hH:H'=H.set i (.buf s t ((l++m).map row) sh)):OpT P G n0 o st H p H':=by
 have hall:((m.map row).flatten.all PV.one)=true:=by
  grind
 have hlim:=by
  have h2:(l.length+m.length)*ti.bytes≤2147483648*65536:=Wdy hn sA;omega
 have:=OpT.append (n0:=n0) ho hcl hT hU hi hz hs hzs gD hb hy hq hall gD (by rw[Wt,Wt];unfold lim at hn;omega)
 grind
def Wgz:=@OpT.appendT
def OpT.sliceT {t e s:Nat} {x:Operand} {lo hi:Option Operand} {a b:Int} {p q:PV} {l:List α} (ho:o.op=.slice t x lo hi none) (hu:P.underlying t=some (.slice e)) (hz:P.cellsOf e=s) (hs0:Nat.beq s 0=false)
  (hx:opd G st x=some q) (hq:Wk H false q (.sl s (l.map row))) (hlo:loOf G st lo=some a) (hhi:hiOf G st l.length hi=some b) (h0:0≤a) (h1:a≤b) (h2:b≤l.length) (hp:p=.sl s (((l.take b.toNat).drop a.toNat).map row)):OpT P G n0 o st H p H:=by
 refine OpT.slice ho hu hz (λh=>sA) hx hq hlo (h:=b) ?_ h0 h1 gD sA
 grind
def Whn:=@OpT.sliceT
def OpT.shl {k ky:IntKind} {x y:Operand} {t t':TypeId} {a b:Int} {p:PV} (ho:o.op=.binOp .shl t x y t') (hx:opd G st x=some (.sc (.int k a))) (hy:opd G st y=some (.sc (.int ky b))) (h0:0≤b) (hp:p=.sc (.int k (k.wrap (a*2^min b.toNat k.bits)))):OpT P G n0 o st H p H:=by
 subst hp
 refine Waa λc a' w β hn hr=>⟨(.int k (k.wrap (a*2^min b.toNat k.bits))),?_,by simp  [VR]⟩
 have h1:=hr.opd hx;have h2:=hr.opd hy
 simp  [VR]at h1 h2
 have hb:¬b<0:=om
 simp[execOp,ho,h1,h2,eqGuard,binOp,Op.shift,hb]
def OpT.shr {k ky:IntKind} {x y:Operand} {t t':TypeId} {a b:Int} {p:PV} (ho:o.op=.binOp .shr t x y t') (hx:opd G st x=some (.sc (.int k a))) (hy:opd G st y=some (.sc (.int ky b))) (h0:0≤b) (hp:p=.sc (.int k (a.fdiv (2^min b.toNat k.bits)))):OpT P G n0 o st H p H:=by
 subst hp
 refine Waa λc a' w β hn hr=>⟨(.int k (a.fdiv (2^min b.toNat k.bits))),?_,by simp  [VR]⟩
 have h1:=hr.opd hx;have h2:=hr.opd hy
 simp  [VR]at h1 h2
 have hb:¬b<0:=om
 simp[execOp,ho,h1,h2,eqGuard,binOp,Op.shift,hb]
def OpT.quo {k:IntKind} {x y:Operand} {t t':TypeId} {a b:Int} {p:PV} (ho:o.op=.binOp .quo t x y t') (hx:opd G st x=some (.sc (.int k a))) (hy:opd G st y=some (.sc (.int k b))) (h0:b≠0) (hp:p=.sc (.int k (k.wrap (a.tdiv b)))):OpT P G n0 o st H p H:=by
 subst hp
 refine Waa λc a' w β hn hr=>⟨(.int k (k.wrap (a.tdiv b))),?_,by simp  [VR]⟩
 have h1:=hr.opd hx;have h2:=hr.opd hy
 simp  [VR]at h1 h2
 simp[execOp,ho,h1,h2,eqGuard,binOp,Op.intDiv,h0]
def OpT.rem {k:IntKind} {x y:Operand} {t t':TypeId} {a b:Int} {p:PV} (ho:o.op=.binOp .rem t x y t') (hx:opd G st x=some (.sc (.int k a))) (hy:opd G st y=some (.sc (.int k b))) (h0:b≠0) (hp:p=.sc (.int k (a.tmod b))):OpT P G n0 o st H p H:=by
 subst hp
 refine Waa λc a' w β hn hr=>⟨(.int k (a.tmod b)),?_,by simp  [VR]⟩
 have h1:=hr.opd hx;have h2:=hr.opd hy
 simp  [VR]at h1 h2
 simp[execOp,ho,h1,h2,eqGuard,binOp,Op.intDiv,h0]
def FreeUpTo (P:Program) (G:Glob) (n0 nt:Nat) (ops:Array Oper) (st0:St) (res:List PV) (ch:List Nat) (Hs:List (List Blk)) (K:Nat):Nat→Prop
 |0=>True
 |k+1=>FreeUpTo P G n0 nt ops st0 res ch Hs K k∧FreeOk P G n0 nt ops st0 res ch Hs K k
def FreeUpTo.get {st0:St} {res:List PV} {ch:List Nat} {Hs:List (List Blk)} {K:Nat}:∀ {k:Nat},FreeUpTo P G n0 nt ops st0 res ch Hs K k→∀ i,i<k→FreeOk P G n0 nt ops st0 res ch Hs K i
 |k+1,h,i,hi=>by
  by_cases e:i=k
  subst e;exact h.2;exact FreeUpTo.get h.1 i om
inductive AllT (ops:Array Oper) (ch:List Nat) (i:Nat) (p:List Blk→Prop):Nat→List (List Blk)→Prop where
 |nil (t:Nat):AllT ops ch i p t []
 |yes {t:Nat} {H:List Blk} {Hs:List (List Blk)} (h:p H) (r:AllT ops ch i p (t+1) Hs):AllT ops ch i p t (H::Hs)
 |no {t:Nat} {H:List Blk} {Hs:List (List Blk)} (h:posOk ops ch i t=false) (r:AllT ops ch i p (t+1) Hs):AllT ops ch i p t (H::Hs)
def AllT.get {ch:List Nat} {i:Nat} {p:List Blk→Prop}:∀ {Hs:List (List Blk)} {u:Nat},AllT ops ch i p u Hs→∀ t H,Hs[t]? = some H→posOk ops ch i (u+t)=true→p H
 |[],_,_,t,H,hm,_=>gD
 |H0::Hs,u,h,t,H,hm,hp=>by
  cases t;cases hm
  cases h with
  |yes h _=>exact h
  |no h _=>grind
  rename_i t
  have hp':posOk ops ch i (u+1+t)=true:=gD
  cases h with
  |yes _ r=>exact AllT.get r t H hm hp'
  |no _ r=>exact AllT.get r t H hm hp'
variable {st0:St} {res:List PV} {ch:List Nat} {Hs:List (List Blk)}
def FreeOk.q {k i:Nat} (p:PV) (hi:(ops[i]?).isSome=true) (hc:ch.contains i=false) (hw:wantA ops (stAt ops k st0 res i) (opn ops i)=some true) (hp:res[i]? = some p) (h:AllT ops ch i (λH=>OpW P G n0 (opn ops i) (stAt ops k st0 res i) H p H) 0 Hs):FreeOk P G n0 nt ops st0 res ch Hs k i:=
 .quiet (opn ops i) p _ (λ_ h=>h) (opn_of hi) gD hw hp λt H h1 h2=>h.get t H h1 gD
def FreeOk.s {k i:Nat} (hi:(ops[i]?).isSome=true) (hc:ch.contains i=false) (hw:wantA ops (stAt ops k st0 res i) (opn ops i)=some false) (hp:res[i]? = some (.sc undef)):FreeOk P G n0 nt ops st0 res ch Hs k i:=
 .skip (opn ops i) _ (λ_ h=>h) (opn_of hi) gD hw hp
def FreeOk.c {k i:Nat} (t:Nat) (p:PV) (H H':List Blk) (hi:(ops[i]?).isSome=true) (hc:ch[t]? = some i) (hw:wantA ops (stAt ops k st0 res i) (opn ops i)=some true) (hp:res[i]? = some p) (h1:Hs[t]? = some H) (h2:Hs[t+1]? = some H')
  (h:OpW P G n0 (opn ops i) (stAt ops k st0 res i) H p H'):FreeOk P G n0 nt ops st0 res ch Hs k i:=
 .chain (opn ops i) p t H H' _ (λ_ h=>h) (opn_of hi) hc hw hp h1 h2 h
end
def bAnd (k:IntKind) (x y:Int):Int:=k.wrap ((BitVec.ofInt k.bits x &&& BitVec.ofInt k.bits y).toNat:Nat)
def bOr (k:IntKind) (x y:Int):Int:=k.wrap ((BitVec.ofInt k.bits x ||| BitVec.ofInt k.bits y).toNat:Nat)
def bXor (k:IntKind) (x y:Int):Int:=k.wrap ((BitVec.ofInt k.bits x ^^^ BitVec.ofInt k.bits y).toNat:Nat)
def bAndNot (k:IntKind) (x y:Int):Int:=k.wrap ((BitVec.ofInt k.bits x &&& ~~~ BitVec.ofInt k.bits y).toNat:Nat)
def bShl (k:IntKind) (x y:Int):Int:=k.wrap (x*2^min y.toNat k.bits)
def bShr (k:IntKind) (x y:Int):Int:=x.fdiv (2^min y.toNat k.bits)
def iMin (x y:Int):Int:=if y<x then y else x
def iMax (x y:Int):Int:=if y>x then y else x
def Zai (x:ByteArray):List PV:=[.sc (.string x)]
def Ze (x:Int):List PV:=[.sc (.int .i64 x)]
def Zi0 (x:Int):List PV:=[.sc (.int .u32 x)]
def Zb8 (x:Int):List PV:=[.sc (.int .u64 x)]
section
variable {P:Program} {G:Glob} {n0 nt:Nat} {st:St} {H:List Blk} {Q:Exit→St→List Blk→Prop} {e:Exit}
def LeQ.of (h:Q e st H):LeQ G n0 nt Q e st H:=⟨st,H,Le.refl,h⟩
def Wbq:=@LeQ.of
def LeQ.le {st':St} {H':List Blk} (h:Le G n0 nt st H st' H') (k:LeQ G n0 nt Q e st' H'):LeQ G n0 nt Q e st H:=
 let ⟨s2,H2,h2,hq⟩:=k
 ⟨s2,H2,h.trans h2,hq⟩
end
section
variable {P:Program} {G:Glob} {n0 nt:Nat} {st:St} {H:List Blk} {Q:Exit→St→List Blk→Prop} {e:Exit} {o:Oper} {c:Ctx} {β:List Bnd} {a:Act} {w:World} {ops:Array Oper}
def RelB.wkc (h:RelB G c β st H a w) {i:Nat} {cs cs':List PV} (hb:H[i]? = some (.cells cs)) (hw:Wks H false cs cs') (hi:PV.idss (λj=>decide (j<i)) cs'=true) :
  RelB G c β st (H.set i (.cells cs')) a w∧Ext (stab c β H w) w (stab c β (H.set i (.cells cs')) w) w:=by
 have hget:∀ j k,(H.set i (.cells cs'))[j]? = some k→(j≠i∧H[j]? = some k)∨(j=i∧k=.cells cs'):=λj k hj=>by
  grind
 have hx:Ext (stab c β H w) w (stab c β (H.set i (.cells cs')) w) w:=by
  refine⟨λb hi hs=>?_,λ_ _ _ _ _ _ h=>h⟩
  rcases hs with hs|⟨h1,h2,h3⟩
  exact .inl hs
  refine .inr ⟨h1,h2,λj e k he hk=>?_⟩
  rcases hget j k hk with⟨_,hk⟩|⟨rfl,rfl⟩
  exact h3 j e k he hk;have:=h3 j e _ he hb;exact this
 have key:∀(j:Nat) f k b,(H.set i (.cells cs'))[j]? = some k→k.at f b→∃ k',H[j]? = some k'∧k'.at f b:=λj f k b g2 g3=>by
  rcases hget j k g2 with⟨_,g2⟩|⟨rfl,rfl⟩
  exact⟨k,g2,g3⟩;exact⟨_,hb,g3⟩
 refine⟨h.move hx (W3 _ _) (by simp[h.len]) h.pre (λj e k he hk=>?_) (λj j' f f' k l b hij h1 h2 h3 h4 h5 h6=>?_) (λj f k b h0 h1 h2 h3=>?_) (λj hj=>?_) h.frm,hx⟩
 rcases hget j k hk with⟨_,hk⟩|⟨rfl,rfl⟩
 exact BlkR.keep hx (W3 _ _) (λ_ _=>rfl) (h.blk j e k he hk);obtain⟨_,vs,t,g2,g3⟩:=h.blk j e _ he hb;exact BlkR.keep (k:=.cells cs') hx (W3 _ _) (λ_ _=>rfl) ⟨hi,vs,t,g2,h.wks hw _ g3⟩;obtain⟨k',g1,g2⟩:=key j f k b h2 h5;obtain⟨l',g3,g4⟩:=key j' f' l b h4 h6;exact h.inj j j' f f' k' l' b hij h1 g1 h3 g3 g2 g4;obtain⟨k',g1,g2⟩:=key j f k b h2 h3;exact h.loc j f k' b h0 h1 g1 g2
 by_cases hne:j=i
 subst hne;exact⟨_,by rw[W6 (We.1 hb).1],rfl⟩;obtain⟨cs,hc,hcf⟩:=h.cel j hj
 grind
def Le.wkc {i:Nat} {cs cs':List PV} (hb:H[i]? = some (.cells cs)) (hw:Wks H false cs cs') (hi:PV.idss (λj=>decide (j<i)) cs'=true):Le G n0 nt st H st (H.set i (.cells cs')):=λ_ _ _ β _ _ hr=>⟨β,(hr.wkc hb hw hi).1⟩
def OpT.wkc {p:PV} {H1 H':List Blk} (i:Nat) {cs cs':List PV} (h:OpT P G n0 o st H p H1) (hb:H1[i]? = some (.cells cs)) (hw:Wks H1 false cs cs') (hi:PV.idss (λj=>decide (j<i)) cs'=true) (hH:H1.set i (.cells cs')=H'):OpT P G n0 o st H p H':=by
 subst hH;intro c a w β h0 hr
 refine Zh4 (h c a w β h0 hr) λv w' ⟨β',h1,h2,h3,h4⟩=>?_
 obtain⟨g1,g2⟩:=h1.wkc hb hw hi;exact⟨β',g1,Wci g2 (W3 _ _) h2,h3,h4.trans g2⟩
def OpT.wka {q:PV} {H':List Blk} {ps qs:List PV} (h:OpT P G n0 o st H (.agg ps) H') (hw:Wks H' false ps qs) (hq:q=.agg qs):OpT P G n0 o st H q H':=by
 subst hq;intro c a w β h0 hr
 refine Zh4 (h c a w β h0 hr) λv w' ⟨β',h1,h2,h3,h4⟩=>⟨β',h1,?_,h3,h4⟩
 obtain⟨us,rfl,h2⟩:=h2;exact⟨us,rfl,h1.wks hw _ h2⟩
def fieldPl (P:Program) (s:TypeId) (f:Nat):Option (Nat×Nat):=match P.underlying s with
 |some (.struct fs)=>(fs[f]?).map λfd=>(fd.offset,P.cellsOf fd.type)
 |_=>none
def OpT.fieldEptT {α:Type} {row:α→List PV} {s:TypeId} {x:Operand} {f:Nat} {i off off2 z t d m:Nat} {j:Int} {l:List α} {sh:Bool} {q:PV} (ho:o.op=.fieldAddr s x f) (hf:fieldPl P s f=some (d,m))
  (hz:Nat.beq m 0=false) (hx:opd G st x=some (.ept i l.length j.toNat off)) (hb:H[i]? = some (.buf z t (l.map row) sh)) (h2:Nat.beq off2 (off+d)=true) (hq:q=.ept i l.length j.toNat off2):OpT P G n0 o st H q H:=by
 have:=Wd h2;subst this
 unfold fieldPl at hf
 split at hf
 rename_i fs hu;cases hfd:fs[f]?;simp[hfd]at hf
 simp  [hfd]at hf
 obtain⟨rfl,rfl⟩:=hf;exact Wf4 ho hu hfd (λh=>sA) hx ⟨hq,z,t,_,sh,hb,gD⟩
 grind
def OpT.indexAggT {t e n:Nat} {x y:Operand} {k:IntKind} {j:Int} {cs:List PV} {p:PV} (ho:o.op=.index t x y) (hu:P.underlying t=some (.array n e)) (hz:Nat.beq (P.cellsOf e) 0=false)
  (hx:opd G st x=some (.agg cs)) (hy:opd G st y=some (.sc (.int k j))) (h0:0≤j) (h1:j<n) (hl:ldPV P e (cs.drop (j.toNat*P.cellsOf e))=some p):OpT P G n0 o st H p H:=
 Whx ho hu (λh=>sA) hx hy h0 h1 hl
end
section
variable {P:Program} {G:Glob} {n0 nt:Nat} {st:St} {H:List Blk} {Q:Exit→St→List Blk→Prop} {ops:Array Oper} {R:Exit→Act→World→Prop}
def Lin (ops:Array Oper):Nat→Array Bool→List Nat→Prop
 |0,_,l=>l=[]
 |f+1,listed,l=>(Region.ready .any ops listed=[]∧l=[])∨∃ i l',l=i::l'∧i∈Region.ready .any ops listed∧Lin ops f (listed.setIfInBounds i true) l'
def Lin.of_go:∀ f t listed,Lin ops f listed (Region.linearise.go .any ops f t listed [])
 |0,t,listed=>by simp[Lin,Region.linearise.go]
 |f+1,t,listed=>by
  change (_∧(match(Region.ready .any ops listed)[t%(Region.ready .any ops listed).length]? with
   |some i=>Region.linearise.go .any ops f (t / (Region.ready .any ops listed).length) (listed.setIfInBounds i true) [i]
   |none=>[].reverse)=[])∨∃ i l',(match(Region.ready .any ops listed)[t%(Region.ready .any ops listed).length]? with
   |some i=>Region.linearise.go .any ops f (t / (Region.ready .any ops listed).length) (listed.setIfInBounds i true) [i]
   |none=>[].reverse)=i::l'∧_
  cases hi:(Region.ready .any ops listed)[t%(Region.ready .any ops listed).length]?;left
  refine⟨?_,rfl⟩
  cases hr:Region.ready .any ops listed;rfl;rename_i x xs;have hlt:t%(x::xs).length<(x::xs).length:=Nat.mod_lt _ sM
  grind
  rename_i i;right
  refine⟨i,_,?_,Wq hi,Lin.of_go f (t / (Region.ready .any ops listed).length) (listed.setIfInBounds i true)⟩
  simp;rw[linearise_go_acc,List.reverse_singleton,List.singleton_append]
def Z9f:∀ f listed a w l,wpAny P .any ops R f listed a w→Lin ops f listed l→wpOps P ops R l a w
 |0,listed,a,w,l,h,hl=>by
  subst hl
  simpa [wpOps]using h.2
 |f+1,listed,a,w,l,h,hl=>by
  rcases hl with⟨h1,rfl⟩|⟨i,l',rfl,hi,hl⟩
  simpa [wpOps]using h.1 h1
  exact wpOp_mono (λa w hw=>Z9f f _ a w l' hw hl) (h.2 i hi)
def addEdge (ops:Array Oper) (x y:Nat):Array Oper:=ops.setIfInBounds x {(ops[x]?).getD default with after:=((ops[x]?).getD default).after.push {on:=y,ground:=.data}}
def Zz2 {x y i:Nat} (h:i≠x):(addEdge ops x y)[i]? = ops[i]?:=by
 simp[addEdge,Array.getElem?_setIfInBounds_ne (Wcb h)]
def Zv9 {x y:Nat} {o:Oper} (h:ops[x]? = some o):(addEdge ops x y)[x]? = some {o with after:=o.after.push {on:=y,ground:=.data}}:=by
 unfold addEdge
 grind
def Zwa {x y:Nat} (h:ops[x]? = none):addEdge ops x y=ops:=by
 have hx:=Array.getElem?_eq_none_iff.1 h;simp[addEdge,Array.setIfInBounds,show ¬x<ops.size by omega]
def Z2n {x y:Nat} (tmps:Array Value):yielded (addEdge ops x y) tmps=yielded ops tmps:=by
 funext j
 unfold yielded
 by_cases hj:j=x
 subst hj;cases h:ops[j]?;rw[Zwa h,h];rw[Zv9 h];rfl;rw[Zz2 hj]
def Zaf8 {x y i:Nat} {K:Act→World→Prop} {a:Act} {w:World}:wpOp P (addEdge ops x y) R i K a w=wpOp P ops R i K a w:=by
 unfold wpOp
 by_cases hj:i=x
 subst hj;cases h:ops[i]?;rw[Zwa h,h];rw[Zv9 h,Z2n];rfl;rw[Zz2 hj,Z2n]
def Zz3 {x y:Nat}:∀ l a w,wpOps P (addEdge ops x y) R l a w→wpOps P ops R l a w
 |[],a,w,h=>by simpa [wpOps]using h
 |i::l,a,w,h=>by
  rw[wpOps_cons]at h⊢;rw[Zaf8]at h;exact wpOp_mono (λa w hw=>Zz3 l a w hw) h
def Zo9 {x y i:Nat} {listed:Array Bool}:i∈Region.ready .any (addEdge ops x y) listed↔i∈Region.ready .any ops listed∧(i=x→listed.getD y false=true):=by
 rw[Weq,Weq]
 by_cases hi:i=x
 subst hi;cases h:ops[i]?;rw[Zwa h,h];simp;rw[Zv9 h];simp;constructor;rintro⟨h1,h2⟩;exact⟨⟨h1,λe he hb=>h2 e (.inl he) hb⟩,h2 {on:=y,ground:=.data} (.inr rfl) rfl⟩
 grind
 rw[Zz2 hi];grind
def Zaf9 {listed:Array Bool} {i j:Nat} (h:listed.getD j false=true):(listed.setIfInBounds i true).getD j false=true:=by
 by_cases hji:i=j
 subst hji
 have:i<listed.size:=by
  grind
 simp[this];simp_all
def Lin.done {x y:Nat}:∀ f listed l,listed.getD y false=true→Lin ops f listed l→Lin (addEdge ops x y) f listed l
 |0,_,_,_,h=>h
 |f+1,listed,l,hy,h=>by
  rcases h with⟨h1,h2⟩|⟨i,l',h1,h2,h3⟩
  left
  refine⟨?_,h2⟩
  cases hr:Region.ready .any (addEdge ops x y) listed;rfl;rename_i j js
  have:j∈Region.ready .any (addEdge ops x y) listed:=gD
  have:=(Zo9.1 this).1
  grind
  exact .inr ⟨i,l',h1,Zo9.2 ⟨h2,λ_=>hy⟩,Lin.done f _ l' (Zaf9 hy) h3⟩
def Lin.either {x y:Nat} (hxy:x≠y):∀ f listed l,Lin ops f listed l→Lin (addEdge ops x y) f listed l∨Lin (addEdge ops y x) f listed l
 |0,_,_,h=>.inl h
 |f+1,listed,l,h=>by
  rcases h with⟨h1,h2⟩|⟨i,l',h1,h2,h3⟩
  left;left
  refine⟨?_,h2⟩
  cases hr:Region.ready .any (addEdge ops x y) listed;rfl;rename_i j js
  have:j∈Region.ready .any (addEdge ops x y) listed:=gD
  have:=(Zo9.1 this).1
  grind
  have hsz:i<listed.size:=by
   have:=(Weq.1 h2).1
   grind
  have hset:(listed.setIfInBounds i true).getD i false=true:=sA
  by_cases hix:i=x
  right
  refine .inr ⟨i,l',h1,Zo9.2 ⟨h2,λe=>absurd (hix.symm.trans e) hxy⟩,Lin.done f _ l' gD h3⟩
  by_cases hiy:i=y
  left
  refine .inr ⟨i,l',h1,Zo9.2 ⟨h2,λe=>absurd e hix⟩,Lin.done f _ l' gD h3⟩
  rcases Lin.either hxy f _ l' h3 with h|h
  left;exact .inr ⟨i,l',h1,Zo9.2 ⟨h2,λe=>absurd e hix⟩,h⟩;right;exact .inr ⟨i,l',h1,Zo9.2 ⟨h2,λe=>absurd e hiy⟩,h⟩
def ADraw (P:Program) (G:Glob) (n0 nt:Nat) (ops:Array Oper) (Q:Exit→St→List Blk→Prop) (st:St) (H:List Blk):Prop:=
 ∀ c a w β l,c.fit n0→c.nt=nt→RelB G c β st H a w→Lin ops ops.size (Array.replicate ops.size false) l→wpOps P ops (Lift G c Q) l a w
def AWP.of_draw {id:Nat} (hm:P.follows .mixedOrders=true) (h:ADraw P G n0 nt ops Q st H):AWP P G n0 nt (.region id ops true) Q st H:=by
 intro c a w β h0 h1 hr
 refine wp_region_draw λt=>?_
 simp  [hm];exact h c a w.drew β _ h0 h1 hr.drew (Lin.of_go ops.size t _)
def Wfx:=@AWP.of_draw
def ADraw.either (x y:Nat) (hxy:Nat.beq x y=false) (h1:ADraw P G n0 nt (addEdge ops x y) Q st H) (h2:ADraw P G n0 nt (addEdge ops y x) Q st H):ADraw P G n0 nt ops Q st H:=by
 intro c a w β l g0 g1 hr hl
 have hne:x≠y:=λe=>sA
 have hs:∀ x y,(addEdge ops x y).size=ops.size:=λx y=>by simp[addEdge]
 rcases Lin.either hne _ _ _ hl with h|h
 exact Zz3 l a w (h1 c a w β l g0 g1 hr gD);exact Zz3 l a w (h2 c a w β l g0 g1 hr gD)
def Wec:=@Nat.zero_le
def ADraw.draw {st0:St} {res:List PV} {ch:List Nat} {Hs:List (List Blk)} {k:Nat} {Hf:List Blk} {rk:List Nat} (hs:∀ x∈st0,x∈st) (hok:drawOk nt ops ch k rk=true) (hfree:∀ i,i<k→FreeOk P G n0 nt ops st0 res ch Hs k i)
  (hfirst:Hs[0]? = some H) (hlast:Hs[ch.length]? = some Hf) (htail:AOps P G n0 nt ops (List.range' k (ops.size-k)) Q (stL ops st0 res (List.range k)) Hf):ADraw P G n0 nt ops Q st H:=by
 intro c a w β lo h0 h1 hr hlin
 have hl':∀ j,(Array.replicate ops.size false).getD j false=false:=λj=>by simp[Array.getD]
 have hfil:(List.range k).filter ((Array.replicate ops.size false).getD · false)=[]:=List.filter_eq_nil_iff.2 λx _=>gD
 refine Z9f _ _ _ _ _ (Zahs hok hfree hlast htail ops.size (Array.replicate ops.size false) 0 H c a w β h0 h1 sM gD (λi _=>hl' i)
  gD (λs x hx=>?_) (Wec _) hfirst ?_) hlin
 rw[hl'];simp;rw[hfil]
 have h9:stL ops st0 res []=st0:=by simp[stL]
 rw[h9];exact hr.sub hs
def ADraw.drawn {st0 st1:St} {res:List PV} {ch:List Nat} {Hs:List (List Blk)} {Hf:List Blk} (rk:List Nat) (k:Nat) (ks ks1:List Nat) (l:List Nat) (hs:st.pick ks=st0) (hok:drawOk nt ops ch k rk=true) (hfree:FreeUpTo P G n0 nt ops st0 res ch Hs k k)
  (hfirst:Hs[0]? = some H) (hlast:Hs[ch.length]? = some Hf) (hst1:(stL ops st0 res (List.range k)).pick ks1=st1) (hl:List.range' k (ops.size-k)=l)
  (htail:AOps P G n0 nt ops l Q st1 Hf):ADraw P G n0 nt ops Q st H:=by
 subst hs hst1 hl;exact ADraw.draw (Wcy ks st) hok hfree.get hfirst hlast (htail.sub (Wcy ks1 _))
mutual
theorem PV.ren_same {f:Nat→Nat} {q:Nat→Bool} (h:∀ j,q j=true→f j=j):∀(p:PV),p.ids q=true→p.ren f=p
 |.sc _,_|.ro _ _,_|.sl _ _,_|.z,_|.ln _,_=>by simp only[PV.ren]
 |.ptr _ _,hp|.own _ _,hp|.ept _ _ _ _,hp|.mp _,hp|.vw _ _ _,hp|.ow _ _ _ _,hp|.oc _ _ _,hp|.op _ _ _,hp=>by simp only[PV.ids]at hp;simp only[PV.ren,h _ hp]
 |.agg cs,hp|.tup cs,hp|.fn _ cs,hp=>by simp only[PV.ids]at hp;simp only[PV.ren,PV.rens_same h cs hp]
theorem PV.rens_same {f:Nat→Nat} {q:Nat→Bool} (h:∀ j,q j=true→f j=j):∀(ps:List PV),PV.idss q ps=true→PV.rens f ps=ps
 |[],_=>by simp only[PV.rens]
 |p::ps,hp=>by
  simp only[PV.idss,Bool.and_eq_true]at hp;simp only[PV.rens,PV.ren_same h p hp.1,PV.rens_same h ps hp.2]
end
def Wg0:=@PV.ren_same
def Wel:=@PV.rens_same
def sw (i j k:Nat):Nat:=if k=i then j else if k=j then i else k
def sw_sw {i j:Nat} (k:Nat):sw i j (sw i j k)=k:=by
 unfold sw
 grind
def Zaa8 {α:Type} {l:List α} {i j:Nat} {x y:α} (hi:l[i]? = some x) (hj:l[j]? = some y) (k:Nat):((l.set i y).set j x)[sw i j k]? = l[k]?:=by
 unfold sw
 grind
def swapB (i j:Nat) (x y:Blk) (H:List Blk):List Blk:=((H.map (Blk.ren (sw i j))).set i (y.ren (sw i j))).set j (x.ren (sw i j))
def okIds (H:List Blk):Bool:=(List.range H.length).all λi=>match H[i]? with
 |some (.cells cs)=>PV.idss (λj=>decide (j<i)) cs
 |some (.iter (some m) _ _ _)=>Nat.blt m i
 |_=>true
def Zaa9 (f:Nat→Nat):∀(es:List (Nat×Value×PV)),((PV.rens f (es.map (·.2.2))).zipWith (λp x=>(x.1,x.2.1,p)) es).map (·.2.2)=PV.rens f (es.map (·.2.2))∧((PV.rens f (es.map (·.2.2))).zipWith (λp x=>(x.1,x.2.1,p)) es).map (λx=>(x.1,x.2.1))=es.map (λx=>(x.1,x.2.1))
 |[]=>⟨rfl,rfl⟩
 |x::es=>by
  obtain⟨h1,h2⟩:=Zaa9 f es;simp  [W0,PV.rens,List.zipWith_cons_cons,h1,h2,and_self]
def Waz:=@List.take_append_drop
def RelB.swap {c:Ctx} {β:List Bnd} {a:Act} {w:World} (h:RelB G c β st H a w) {i j:Nat} {x y:Blk} (hi:H[i]? = some x) (hj:H[j]? = some y) {n0:Nat} (hfit:c.fit n0) (h1':n0≤i) (h2':n0≤j) (hok:okIds (swapB i j x y H)=true) :
  ∃ β',RelB G c β' (st.map λz=>(z.1,z.2.ren (sw i j))) (swapB i j x y H) a w:=by
 have h1:c.β0.length≤i:=Wbj hfit.len h1';have h2:c.β0.length≤j:=Wbj hfit.len h2';have li:=(We.1 hi).1;have lj:=(We.1 hj).1;obtain⟨ei,hei⟩:∃ e,β[i]? = some e:=⟨β[i]'(by rw[h.len];exact li),by simp[h.len,li]⟩;obtain⟨ej,hej⟩:∃ e,β[j]? = some e:=⟨β[j]'(by rw[h.len];exact lj),by simp[h.len,lj]⟩;have hβ:=Zaa8 hei hej
 have hβ':∀ k,((β.set i ej).set j ei)[k]? = β[sw i j k]?:=λk=>by rw[←hβ (sw i j k),sw_sw]
 have hH':∀ k,(swapB i j x y H)[k]? = (H[sw i j k]?).map (Blk.ren (sw i j)):=λk=>by
  have:=Zaa8 (l:=H.map (Blk.ren (sw i j))) (i:=i) (j:=j) (x:=x.ren (sw i j)) (y:=y.ren (sw i j)) (by simp[hi]) (by simp[hj]) (sw i j k);rw[sw_sw]at this;unfold swapB;rw[this,Wba]
 have hlow:∀ k,k<c.β0.length→sw i j k=k:=λk hk=>by unfold sw;rw[if_neg om,if_neg om]
 have hup:∀ k,c.β0.length≤k→c.β0.length≤sw i j k:=λk hk=>by unfold sw;split;exact h2;split;exact h1;exact hk
 have hst:∀ b hi',stab c β H w b hi'→stab c ((β.set i ej).set j ei) (swapB i j x y H) w b hi':=λb hi' hs=>by
  rcases hs with hs|⟨g1,g2,g3⟩
  exact .inl hs
  refine .inr ⟨g1,g2,λk e kb he hk=>?_⟩
  rw[hβ']at he;rw[hH']at hk
  cases hk0:H[sw i j k]? with
  |none=>rw[hk0]at hk;cases hk
  |some k0=>
   rw[hk0]at hk;cases hk;exact(Blk.ren_free _ _ _ _ _).2 (g3 _ e k0 he hk0)
 have hx:Ext (stab c β H w) w (stab c ((β.set i ej).set j ei) (swapB i j x y H) w) w:=⟨hst,λ_ _ _ _ _ _ h=>h⟩
 have get:∀ k e kb,((β.set i ej).set j ei)[k]? = some e→(swapB i j x y H)[k]? = some kb→∃ k0,β[sw i j k]? = some e∧H[sw i j k]? = some k0∧kb=k0.ren (sw i j):=λk e kb he hk=>by
  rw[hβ']at he;rw[hH']at hk
  cases hk0:H[sw i j k]? with
  |none=>rw[hk0]at hk;cases hk
  |some k0=>grind
 have vr:=λp u hv=>by
  exact(Wgh hβ p u).2 (Wci hx (W3 _ _) hv)
 refine⟨(β.set i ej).set j ei,h.ok,by simp[swapB,h.len],?_,λk e kb he hk=>?_,λk l e f kb lb b hkl he hk hf hl g1 g2=>?_,λk e kb b hk0 he hk hb=>?_,λk hk=>?_,λz hz=>?_,h.nt,h.dfr,h.frm,λx hx=>by
  have:=vr _ _ (h.gh x hx)
  rwa [Wg0 (q:=λk=>decide (k<n0)) (λk hk=>by have hk:k<n0:=(by simpa using hk);unfold sw;rw[if_neg om,if_neg om]) _ (hfit.gh x hx)]at this⟩
 obtain⟨γ,hγ⟩:=h.pre
 refine⟨((β.set i ej).set j ei).drop c.β0.length,?_⟩
 conv=>lhs;rw[←Waz c.β0.length ((β.set i ej).set j ei)]
 congr 1
 refine Wb1 λk=>?_
 rw[Wbg];split;rename_i hk;rw[hβ',hlow k hk,hγ,Wac hk];rename_i hk;exact(Wfe om).symm;obtain⟨k0,g1,g2,rfl⟩:=get k e kb he hk;have h3:=h.blk _ e k0 g1 g2
 cases k0 with
 |cells cs=>
  obtain⟨_,vs,t,h5,h6⟩:=h3;have hkl:k<(swapB i j x y H).length:=(We.1 hk).1;have hid:=W7.1 hok k (by simpa using hkl);rw[hk]at hid;exact⟨hid,vs,t,h5,(Wbw hβ cs _).2 (Wal hx (W3 _ _) h6)⟩
 |dead=>trivial
 |fm l=>exact h3
 |far cs=>
  obtain⟨vs,t,h5,h6⟩:=h3;exact⟨vs,t,h5,(Wbw hβ cs _).2 (Wal hx (W3 _ _) h6)⟩
 |map es cl=>
  obtain⟨arr,h5,h7,h6⟩:=h3;obtain⟨z1,z2⟩:=Zaa9 (sw i j) es
  refine⟨arr,h5,by rw[h7];exact z2.symm,?_⟩
  simp only[z1];exact(Wbw hβ _ _).2 (Wal hx (W3 _ _) h6)
 |iter m since seen last=>
  obtain⟨mm,h5,h6⟩:=h3;have hkl:k<(swapB i j x y H).length:=(We.1 hk).1;have hid:=W7.1 hok k (by simpa using hkl);rw[hk]at hid
  refine⟨mm,h5,?_⟩
  cases m with
  |none=>exact h6
  |some q=>
   obtain⟨_,f,h7,h8⟩:=h6;exact⟨W2 hid,f,gD,h8⟩
 |fb s t xs=>
  obtain⟨z1,z2,z3,vals,z4,z5⟩:=h3
  refine⟨by simpa using z1,z2,λx hx'=>?_,vals,by simpa using z4,?_⟩
  obtain⟨y,hy,rfl⟩:=W9.1 hx';rw[Whb];exact z3 y hy;rw[PV.rens_flat];exact(Wbw hβ _ _).2 (Wal hx (W3 _ _) z5)
 |tr t s n cs=>
  exact⟨h3.1,h3.2.1,h3.2.2.1,(Wgx hβ (.own t s n cs) _ _).2 (Wf2 hx (W3 _ _) _ _ _ (λ_ _=>rfl) h3.2.2.2)⟩
 |buf s t xs sh=>
  exact BlkR.keep (k:=.buf s t xs sh) hx (W3 _ _) (λ_ _=>rfl) h3
 obtain⟨k0,e1,e2,rfl⟩:=get k e kb he hk;obtain⟨l0,f1,f2,rfl⟩:=get l f lb hf hl;rw[Whl]at g1 g2;exact h.inj _ _ e f k0 l0 b (λhs=>hkl (by rw[←sw_sw (i:=i) (j:=j) k,hs,sw_sw])) e1 e2 f1 f2 g1 g2;obtain⟨k0,e1,e2,rfl⟩:=get k e kb he hk;rw[Whl]at hb;exact h.loc _ e k0 b (hup k hk0) e1 e2 hb;obtain⟨cs,hc,hcf⟩:=h.cel k hk;exact⟨cs.ren (sw i j),by rw[hH',hlow k hk,hc];rfl,by cases cs<;>first|rfl|cases hcf⟩;obtain⟨z0,hz0,rfl⟩:=W9.1 hz;obtain⟨g1,g2⟩:=h.slots z0 hz0;exact⟨g1,vr _ _ g2⟩
def AOps.swap {l:List Nat} {st':St} {H':List Blk} (i j:Nat) {x y:Blk} (hi:H[i]? = some x) (hj:H[j]? = some y) (h1:Nat.ble n0 i=true) (h2:Nat.ble n0 j=true) (hok:okIds H'=true) (hs:(st.map λz=>(z.1,z.2.ren (sw i j)))=st') (hH:swapB i j x y H=H')
  (h:AOps P G n0 nt ops l Q st' H'):AOps P G n0 nt ops l Q st H:=by
 subst hs hH
 refine AOps.le (λc a w β g0 g1 hr=>?_) h
 exact hr.swap hi hj g0 (W2 h1) (W2 h2) hok
end
variable {H:Type} {enc:TypeId×Value→H} {P:Program} {W:World}
def old (W:World) (b _hi:Nat):Prop:=b<W.heap.size
def Reads (P:Program) (W:World) (t:TypeId) {α:Type} (row:α→List PV) (ok:α→Prop):Prop:=
 ∀(H:Type) (enc:TypeId×Value→H) (fuel:Nat) (cs:List Value) (x:DataW H×List MemPlace),DataW.trod enc P W 0 (λ_=>true) true fuel t cs=some x→∃ a,ok a∧VRs (old W) [] W (row a) cs
def Reads.int {t:TypeId} {k:IntKind} {row:Int→List PV} (ht:P.underlying t=some (.int k)) (hr:∀ n,row n=[.sc (.int k n)]):Reads P W t row (λn=>(Lit.int k n).wf=true):=by
 intro H enc fuel cs x h;obtain⟨n,rfl,_,hw⟩:=DataW.trod_int ht h;exact⟨n,hw,by rw[hr];simp only[VRs,VR];grind⟩
def VRow.of_cells {S:Nat→Nat→Prop} {β:List Bnd} {w:World} {b:Nat}:∀ ps us o,VRs S β w ps us→(∀ i,i<us.length→w.cell? ⟨b,o+i,none⟩=us[i]?)→VRow S β w b o ps
 |[],[],_,_,_=>by simp  [VRow]
 |[],_::_,_,h,_=>by simp  [VRs]at h
 |_::_,[],_,h,_=>by simp  [VRs]at h
 |p::ps,u::us,o,h,hc=>by
  refine⟨⟨u,by simpa using hc 0 sM,h.1⟩,VRow.of_cells ps us (o+1) h.2 λi hi=>?_⟩
  have:=hc (i+1) gD
  grind
def Wh1:=@VRow.of_cells
def VRows.of_get {S:Nat→Nat→Prop} {w:World} {b s:Nat}:∀ xs o,(∀ i x,xs[i]? = some x→x.length=s∧VRow S [] w b (o+i*s) x)→VRows S [] w b s o xs
 |[],_,_=>by simp  [VRows]
 |x::xs,o,h=>by
  refine⟨by simpa using h 0 x sM,VRows.of_get xs (o+s) λi y hy=>?_⟩
  have:=h (i+1) y gD
  grind
def Z4u {α:Type} {p:Nat→α→Prop}:∀ n,(∀ i,i<n→∃ a,p i a)→∃ l:List α,l.length=n∧∀ i a,l[i]? = some a→p i a
 |0,_=>⟨[],rfl,λi a h=>gD⟩
 |n+1,h=>by
  obtain⟨l,hl,hp⟩:=Z4u n λi hi=>h i om
  obtain⟨a,ha⟩:=h n om
  refine⟨l++[a],gD,λi b hb=>?_⟩
  grind
def Wh2:=@Option.bind_eq_some_iff
def Wfm:=@List.getElem?_of_mem
def Reads.slice {t e:TypeId} {s:Nat} {α:Type} {row:α→List PV} {ok:α→Prop} (ht:P.underlying t=some (.slice e)) (hs:P.cellsOf e=s) (hs0:0<s) (h:Reads P W e row ok) :
  Reads P W t (λl:List α=>[.sl s (l.map row)]) (λl=>l.length≤maxLen∧∀ x∈l,ok x):=by
 intro H enc fuel cs x hx
 rcases DataW.trod_slice ht hx with⟨rfl,_⟩|⟨a,len,cap,elems,rest,n,_,rfl,_,hb,hl,hm,hlen,hel,_,_⟩
 refine⟨[],⟨sM,sM⟩,?_⟩
 simp only[VRs,VR];exact⟨⟨none,0,rfl,Ws _,.inl rfl⟩,trivial⟩
 have first:0<len→a.block<W.heap.size∧a.spot=none:=by
  intro hi;have hE:=hel 0 hi
  have:0<elems.length:=om
  rw[Wr this,Wh2]at hE;obtain⟨c1,hc1,_⟩:=hE;obtain⟨_,g2,g3⟩:=World.cells?_some hc1;rw[hs]at g2 g3;have hcell:=g3 0 hs0;rw[Wr (show 0<c1.length by omega)]at hcell
  have e0:(a.add (0*s)).add 0=a:=by simp[Addr.add]
  rw[e0]at hcell
  unfold World.cell? at hcell
  cases hh:W.heap[a.block]?;simp[hh]at hcell;rename_i o
  refine⟨(Wc9.1 hh).1,?_⟩
  cases hsp:a.spot with
  |none=>rfl
  |some q=>grind
 have each:∀ i,i<len→∃ z,ok z∧a.block<W.heap.size∧a.spot=none∧(row z).length=s∧VRow (old W) [] W a.block (a.off+i*s) (row z):=by
  intro i hi;have hE:=hel i hi
  have:i<elems.length:=om
  rw[Wr this,Wh2]at hE;obtain⟨c1,hc1,hy1⟩:=hE;obtain⟨z,hz,hv⟩:=h H enc n c1 _ hy1;obtain⟨_,g2,g3⟩:=World.cells?_some hc1;rw[hs]at g2 g3
  obtain⟨h8,h9⟩:=first om
  obtain⟨ab,ao,asp⟩:=a;subst h9
  have hat:∀ m,(⟨ab,ao,none⟩:Addr).add m=⟨ab,ao+m,none⟩:=λm=>by
   unfold Addr.add;grind
  have hat2:∀ m j,(⟨ab,ao+m,none⟩:Addr).add j=⟨ab,ao+m+j,none⟩:=λm j=>by
   unfold Addr.add;grind
  refine⟨z,hz,h8,rfl,by have:=Wav _ _ hv;omega,Wh1 _ c1 _ hv λj hj=>?_⟩
  grind
 obtain⟨l,hll,hlp⟩:=Z4u len each
 refine⟨l,⟨om,λz hz=>?_⟩,?_⟩
 obtain⟨i,hi⟩:=Wfm hz;exact(hlp i z hi).1;simp only[VRs,VR]
 refine⟨⟨some a,cap,by simp[hll],by simp[hll];exact hl,?_⟩,trivial⟩
 cases l;exact .inl rfl;rename_i z0 l';right;obtain⟨_,hb0,hsp,_,_⟩:=hlp 0 z0 sM
 refine⟨a.block,a.off,by rw[←hsp],hb0,VRows.of_get _ _ λi y hy=>?_⟩
 grind
variable {P:Program} {W:World}
def Zad4 {t:TypeId} {α:Type} {row:α→List PV} {ok:α→Prop} {p:α→PV} {H:Type} {enc:TypeId×Value→H} {v:Value} {d:DataW H} {ps:List MemPlace} (h:Reads P W t row ok) (hd:DataW.Trod enc P W 0 (λ_=>true) true t v d ps)
  (hv:v.cells=#[v]) (hp:∀ a,row a=[p a]):∃ a,ok a∧VR (old W) [] W (p a) v:=by
 obtain⟨fuel,hf⟩:=hd;obtain⟨a,h1,h2⟩:=h _ _ _ _ _ hf;rw[hv,hp]at h2;exact⟨a,h1,h2.1⟩
open Go.RowKit
variable {P:Program} {G:Glob} {W:World}
def ACall.call {f:FuncId} {args:List PV} {R:PV→List Blk→Prop} (h:ACall P G f args [] R) (hG:∀ g cs,(g,cs)∈G→g<W.heap.size∧VRow (old W) [] W g 0 cs) {cargs:Array Value} (hv:VRs (old W) [] W args cargs.toList) :
  Calls P f cargs W λe W'=>∃ v p K S β,e=.returned v∧R p K∧VR S β W' p v∧Below W.heap.size W W':=by
 refine(h (old W) [] W cargs ⟨⟨λb hi hb=>⟨hb,λe he=>gD⟩,hG,(λe he=>gD),(λb hi hi' h0 _=>h0)⟩,rfl,λi e k he _=>gD,λi j e f _ he _=>gD⟩ hv).mono λe W' ⟨v,p,K,γ,h1,h2,h3,h4⟩=>?_
 exact⟨v,p,K,_,_,h1,h2,h4,⟨h3.frm.os,h3.frm.tape,h3.frm.output,h3.frm.size,λk hk=>h3.frm.block k hk λe he=>gD⟩⟩
def ACall.law {f:FuncId} {args:List PV} {b:Bool} (h:ACall P G f args [] (λp K=>p=.sc (.bool b)∧K=[])) (hG:∀ g cs,(g,cs)∈G→g<W.heap.size∧VRow (old W) [] W g 0 cs) {cargs:Array Value} (hv:VRs (old W) [] W args cargs.toList) :
  Calls P f cargs W λe W'=>e=.returned (.bool b)∧Below W.heap.size W W':=by
 refine(h.call hG hv).mono λe W' ⟨v,p,K,S,β,h1,⟨h2,_⟩,h3,h4⟩=>?_
 subst h2
 simp  [VR]at h3
 grind
def Zy2 (n:Int):Prop:=-9223372036854775808≤n∧n<9223372036854775808
def Zbd (n:Int):Prop:=0≤n∧n<4294967296
def wf_i64 {n:Int} (h:(Lit.int .i64 n).wf=true):Zy2 n:=by
 simp[Lit.wf,IntKind.min,IntKind.signed,IntKind.bits]at h;unfold Zy2;omega
def wf_u32 {n:Int} (h:(Lit.int .u32 n).wf=true):Zbd n:=by
 simp[Lit.wf,IntKind.min,IntKind.max,IntKind.signed,IntKind.bits]at h;unfold Zbd;omega
open Go.RowKit Go.WideShapes Go.ChangeShapes
variable {P:Program} {W:World}
def Reads.intOk {t:TypeId} {k:IntKind} {row:Int→List PV} {ok:Int→Prop} (ht:P.underlying t=some (.int k)) (hr:∀ n,row n=[.sc (.int k n)]) (hok:∀ {n},(Lit.int k n).wf=true→ok n):Reads P W t row ok:=by
 intro H enc fuel cs x h;obtain⟨n,hn,h2⟩:=Reads.int (W:=W) ht hr H enc fuel cs x h
 grind
section
variable {H:Type} {enc:TypeId×Value→H} {w:World} {r:Reach} {base:Nat} {t:TypeId} {α:Type} {row:α→List PV} {ok:α→Prop} {p:α→PV} {v:Value} {d:DataW H} {ps:List MemPlace}
def Z8a {k:IntKind} (ht:P.underlying t=some (.int k)) (hv:Value.okWide P w r base t v) (h:Reads P W t row ok) (hd:DataW.Trod enc P W 0 (λ_=>true) true t v d ps) (hp:∀ a,row a=[p a]):∃ a,ok a∧VR (old W) [] W (p a) v:=by
 obtain⟨n,rfl⟩:=okWide_int ht hv;exact Zad4 h hd rfl hp
def Zaga {e:TypeId} (ht:P.underlying t=some (.slice e)) (hv:Value.okWide P w r base t v) (h:Reads P W t row ok) (hd:DataW.Trod enc P W 0 (λ_=>true) true t v d ps) (hp:∀ a,row a=[p a]):∃ a,ok a∧VR (old W) [] W (p a) v:=by
 obtain⟨a,len,cap,rfl⟩:=okWide_slice ht hv;exact Zad4 h hd rfl hp
def Z04 (hl:laidOutB P=true) {W':World} (hb:Below W.heap.size W W'):∀ ts vs ds ps,(ts.all λt=>P.readableRec t&&decide (t<P.types.size))=true →
  DataW.TrodAll enc P W 0 (λ_=>true) true ts vs ds ps→(∀ x∈ps,x.block<W.heap.size)→DataW.TrodAll enc P W' 0 (λb=>decide (b<W.heap.size)) true ts vs ds ps
 |[],vs,ds,ps,_,h,_=>by
  obtain⟨rfl,rfl,rfl⟩:=trodAll_nil h;exact trodAll_mk0
 |t::ts,vs,ds,ps,hts,h,hlt=>by
  obtain⟨v,vs',d,ds',p,q,rfl,rfl,rfl,h1,h2⟩:=trodAll_cons h;simp only[Wd4,Wh,W4]at hts;exact⟨p,q,Below.trod hl hts.1.1 hts.1.2 h1 hb λx hx=>hlt x gD,Z04 hl hb ts vs' ds' q hts.2 h2 λx hx=>hlt x gD,rfl⟩
end
def Zae5 {g i:Nat} {v:Value} (h:W.cell? ⟨g,i,none⟩=some v):g<W.heap.size:=by
 unfold World.cell? at h
 grind
def lay (c:Array Value):Obj→Obj
 |.cells _ t frozen=>.cells c t frozen
 |o=>o
inductive T where
 |p (x:PV)
 |ps (x:List PV)
 |rs (x:List (List PV))
 |bs (x:List (Option Blk))
 |i (x:Int)
 |n (x:Nat)
 |v (x:Value)
 |kvs (x:List (Value×Value))
 |es (x:List (Nat×Value×PV))
 |ns (x:List Nat)
def Wed:=@T.n.injEq
def Wgj:=@T.rs.injEq
structure Out where
 p:PV
 H:List Blk
 l:List T
 r:List T
structure Hnd (P:Program) (G:Glob) where
 run:Oper→St→List Blk→Option Out
 sound:∀ {n0:Nat} {o:Oper} {st:St} {H:List Blk} {x:Out},run o st H=some x→x.l=x.r→OpW P G n0 o st H x.p x.H
section
variable {P:Program} {G:Glob} {n0 nt:Nat} {o:Oper} {st:St} {H:List Blk} {ops:Array Oper} {Q:Exit→St→List Blk→Prop}
def low (P:Program) (u:TypeId):PV→PV
 |.sc (.slice none 0 0)=>match P.underlying u with
  |some (.slice e)=>.sl (P.cellsOf e) []
  |_=>.sc (.slice none 0 0)
 |p=>p
def low_wk (H:List Blk) (any:Bool) (u:TypeId) (p:PV):Wk H any p (low P u p):=by
 unfold low;split;split;exact .nil _;exact .refl _;exact .refl _
def lowZip (P:Program):List TypeId→List PV→List PV
 |u::us,p::ps=>low P u p::lowZip P us ps
 |_,ps=>ps
def Wks.refl (H:List Blk) (any:Bool):∀ ps ,Wks H any ps ps
 |[]=>.nil
 |p::ps=>.cons _ _ _ _ (.refl p) (Wks.refl H any ps)
def Wem:=@Wks.refl
def Z6m (H:List Blk) (any:Bool):∀ us ps,Wks H any ps (lowZip P us ps)
 |[],ps=>Wem H any ps
 |u::us,[]=>.nil
 |u::us,p::ps=>.cons _ _ _ _ (low_wk H any u p) (Z6m H any us ps)
def PV.isNil:PV→Bool
 |.sc (.slice none 0 0)=>true
 |_=>false
def lows (P:Program) (t:TypeId) (ps:List PV):List PV:=if ps.any PV.isNil then lowZip P ((P.cellTypes P.depth t).getD []) ps else ps
def Zwb (H:List Blk) (any:Bool) (t:TypeId) (ps:List PV):Wks H any ps (lows P t ps):=by
 unfold lows;split;exact Z6m H any _ ps;exact Wem H any ps
def Wks.append {H:List Blk} {any:Bool} {ps qs ps' qs':List PV} (h:Wks H any ps qs) (k:Wks H any ps' qs'):Wks H any (ps++ps') (qs++qs'):=by
 induction h with
 |nil=>exact k
 |cons p q ps qs h _ ih=>exact .cons _ _ _ _ h ih
def Who:=@Wks.append
def OpT.unagg {us:List Value} {H':List Blk} (h:OpT P G n0 o st H (.sc (.agg us.toArray)) H'):OpT P G n0 o st H (.agg (us.map .sc)) H':=by
 intro c a w β h0 hr
 refine Zh4 (h c a w β h0 hr) λv w' ⟨β',h1,h2,h3,h4⟩=>⟨β',h1,?_,h3,h4⟩
 exact⟨us.toArray,h2,by simpa using VRs.scs us⟩
def aggLow (P:Program) (t:TypeId):PV→PV
 |.agg cs=>.agg (lows P t cs)
 |.sc (.agg us)=>if(us.toList.map PV.sc).any PV.isNil then .agg (lows P t (us.toList.map .sc))else .sc (.agg us)
 |p=>p
def OpT.aggLow {p:PV} {H':List Blk} (t:TypeId) (h:OpT P G n0 o st H p H'):OpT P G n0 o st H (aggLow P t p) H':=by
 unfold AM.aggLow;split;exact OpT.wka h (Zwb _ _ _ _) rfl;rename_i us;split;exact OpT.wka (OpT.unagg (us:=us.toList) om) (Zwb _ _ _ _) rfl;exact h;exact h
def stdMem (P:Program) (G:Glob) (st:St) (H:List Blk) (o:Oper):Option (PV×List Blk):=
 match o.op with
 |.alloc t=>match P.info? t with
  |some ti=>match ti.zero with
   |some z=>let cs:=lows P t (z.cells.toList.map .sc)
    if PV.idss (λj=>decide (j<H.length)) cs then some (.ptr H.length 0,H++[.cells cs])else none
   |none=>none
  |none=>none
 |.store t x y=>match opd G st x,opd G st y with
  |some (.ptr i off),some (.sc (.slice none 0 0))=>match H[i]? with
   |some (.cells cs)=>
    let cs':=cs.take off++[low P t (.sc (.slice none 0 0))]++cs.drop (off+1)
    if P.cellsOf t=1&&(P.info? t).isSome&&decide (off+1≤cs.length)&&decide (i<H.length)&&PV.idss (λj=>decide (j<i)) cs'
    then some (.sc undef,H.set i (.cells cs'))else none
   |_=>none
  |_,_=>none
 |.build t parts=>match opds G st parts.toList with
  |some ps=>(buildPV P t ps).map λp=>(aggLow P t p,H)
  |none=>none
 |.buildSlice t len parts=>match opds G st parts.toList with
  |some ps=>match litPV P t len (ps.map λx=>(x.1,low P (match P.underlying t with|some (.slice e)=>e|_=>0) x.2))with
   |some _=>match litPV P t len ps with
    |some (e,out)=>if PV.idss (λ_=>false) out then
      (if out.any PV.isNil then none else some (.sl (P.cellsOf e) (rowsOf (P.cellsOf e) len out),H))else none
    |none=>none
   |none=>none
  |none=>none
 |.index t x y=>match P.underlying t,opd G st x,opd G st y with
  |some (.array n e),some (.agg cs),some (.sc (.int _ j))=>if Nat.beq (P.cellsOf e) 0=false∧0≤j∧j<n then(ldPV P e (cs.drop (j.toNat*P.cellsOf e))).map (·,H)else none
  |_,_,_=>none
 |.binOp .eql t x y _=>match opd G st x,opd G st y with
  |some (.sc (.agg xs)),some (.sc (.agg ys))=>if P.eqGuardType P.depth t then none else(flatEq P 50 t (.agg xs) (.agg ys)).map λb=>(.sc (.bool b),H)
  |_,_=>none
 |.binOp .neq t x y _=>match opd G st x,opd G st y with
  |some (.sc (.agg xs)),some (.sc (.agg ys))=>if P.eqGuardType P.depth t then none else(flatEq P 50 t (.agg xs) (.agg ys)).map λb=>(.sc (.bool (!b)),H)
  |_,_=>none
 |_=>none
def Wdh:=@List.set_set
def OpT.of_stdMem {p:PV} {H':List Blk} (h:stdMem P G st H o=some (p,H')):OpT P G n0 o st H p H':=by
 unfold stdMem at h
 split at h
 rename_i t ho
 split at h
 rename_i ti hti
 split at h
 rename_i z hz;simp only[]at h
 split at h
 rename_i hid;cases h
 refine OpT.wkc H.length (OpT.alloc ho hti hz) (cs:=z.cells.toList.map .sc) sM (Zwb _ _ _ _) hid sM
 cases h;cases h;cases h;rename_i t x y ho
 split at h
 rename_i i off hx hy
 split at h
 rename_i cs hb;simp only[]at h
 split at h
 rename_i hc;simp only[Wh]at hc;obtain⟨⟨⟨⟨h1,h2⟩,h3⟩,h4⟩,h5⟩:=hc;cases h
 have h6:OpT P G n0 o st H (.sc undef) (H.set i (.cells (cs.take off++[.sc (.slice none 0 0)]++cs.drop (off+1)))):=by
  refine OpT.of_step (o:=o) (n0:=n0) ?_
  unfold step stepMem;rw[ho];have e1:(PV.sc (.slice none 0 0)).cells=[.sc (.slice none 0 0)]:=rfl
  have hcs:PV.idss (λj=>decide (j<i)) (PV.cells (.sc (.slice none 0 0)))=true:=by rw[e1];simp[PV.idss,PV.ids]
  have hone:(PV.cells (.sc (.slice none 0 0))).all PV.one=true:=by rw[e1];rfl
  grind
 refine OpT.wkc i h6 (cs:=cs.take off++[.sc (.slice none 0 0)]++cs.drop (off+1)) gD (Who (Who (Wem _ _ _) (.cons _ _ _ _ (low_wk _ _ _ _) .nil)) (Wem _ _ _)) h5 (by rw[Wdh])
 cases h;cases h;cases h;rename_i t parts ho
 split at h
 rename_i ps hp
 simp at h
 obtain⟨q,hq,rfl,rfl⟩:=h;exact OpT.aggLow t (OpT.build ho hp hq);cases h;rename_i t len parts ho
 split at h
 rename_i ps hp
 split at h
 split at h
 rename_i e out hl
 split at h
 rename_i hid
 split at h
 cases h;cases h;exact OpT.lit ho hp hl hid rfl;cases h;cases h;cases h;cases h;rename_i t x y ho
 split at h
 rename_i n e cs k j hu hx hy
 split at h
 rename_i hc
 simp at h
 obtain⟨q,hq,rfl,rfl⟩:=h;exact OpT.indexAggT ho hu hc.1 hx hy hc.2.1 hc.2.2 hq;cases h;cases h;rename_i t x y t' ho
 split at h
 rename_i xs ys hx hy
 split at h
 cases h;rename_i hg;simp only[Wg,Wa1]at h;obtain⟨b,hb,rfl,rfl⟩:=h;exact OpT.eqAgg ho hx hy (by simpa using hg) hb;cases h;rename_i t x y t' ho
 split at h
 rename_i xs ys hx hy
 split at h
 cases h;rename_i hg;simp only[Wg,Wa1]at h;obtain⟨b,hb,rfl,rfl⟩:=h;exact OpT.neqAgg ho hx hy (by simpa using hg) hb;cases h;cases h
def Wh3:=@OpT.of_stdMem
def stdRun (P:Program) (G:Glob) (o:Oper) (st:St) (H:List Blk):Option (PV×List Blk):=
 match stdMem P G st H o with
 |some r=>some r
 |none=>step P G st H o
def OpT.of_std {p:PV} {H':List Blk} (h:stdRun P G o st H=some (p,H')):OpT P G n0 o st H p H':=by
 unfold stdRun at h
 split at h
 rename_i r hr;cases h;exact Wh3 hr;exact OpT.of_step h
def Wgi:=@OpT.of_std
variable {α:Type}
def Hnd.bool {c b:Bool} (hc:c=b):Hnd P G where
 run o st H:=(stdRun P G o st H).map λr=>⟨.sc (.bool b),r.2,[.p r.1],[.p (.sc (.bool c))]⟩
 sound:=by
  intro n0 o st H x h he
  suffices hT:OpT P G n0 o st H x.p x.H from hT.weak
  simp only[Wg]at h;obtain⟨r,h1,rfl⟩:=h
  simp at he
  subst hc;exact he▸Wgi h1
def idxR (P:Program) (G:Glob) (row:α→List PV) (l:List α) (j:Int) (z:α) (m0:Nat) (o:Oper) (st:St) (H:List Blk):Option Out:=match o.op with
 |.indexAddr t x y=>match P.underlying t,opd G st y with
  |some (.slice e),some (.sc (.int _ j'))=>if Nat.beq (P.cellsOf e) 0 then none else match opd G st x with
   |some (.sl s xs)=>if Nat.beq (P.cellsOf e) s then some ⟨.ro (row z) 0,H,[.rs xs,.i j'],[.rs (l.map row),.i j]⟩else none
   |some (.own i n)=>match H[i]? with
    |some (.buf s _ xs _)=>if Nat.beq (P.cellsOf e) s then some ⟨.ept i m0 j.toNat 0,H,[.n n,.rs xs,.i j'],[.n m0,.rs (l.map row),.i j]⟩else none
    |_=>none
   |_=>none
  |_,_=>none
 |_=>none
def Hnd.idx (row:α→List PV) {l:List α} {j:Int} {z:α} (hz:idx l j=some z) {m0:Nat} (hm:l.length=m0:=by rfl):Hnd P G where
 run:=idxR P G row l j z m0
 sound:=by
  subst hm;intro n0 o st H x h he
  unfold idxR at h
  suffices hT:OpT P G n0 o st H x.p x.H from hT.weak
  split at h
  rename_i t x y ho
  split at h
  rename_i e k j' hu hy
  split at h
  cases h
  split at h
  rename_i s xs hx
  split at h
  rename_i hs;cases h;cases he;have hs:=Wd hs;exact OpT.indexT ho hu hs gD hx hy hz rfl;cases h;rename_i i n hx
  split at h
  rename_i s ty xs sh hb
  split at h
  rename_i hs;cases h;cases he;have hs:=Wd hs;exact OpT.indexOwnT ho hu hs gD hx hb hy hz rfl;cases h;cases h;cases h;cases h;cases h
def Hnd.ldE (row:α→List PV) {l:List α} {j:Int} {z:α} (hz:AM.idx l j=some z) {m0:Nat} (hm:l.length=m0:=by rfl):Hnd P G where
 run o st H:=match o.op with
  |.load t x=>match opd G st x with
   |some (.ept i n k off)=>match H[i]? with
    |some (.buf _ _ xs _)=>(ldPV P t ((row z).drop off)).map λp=>⟨p,H,[.n n,.n k,.rs xs],[.n m0,.n j.toNat,.rs (l.map row)]⟩
    |_=>none
   |_=>none
  |_=>none
 sound:=by
  intro n0 o st H x h he;subst hm
  suffices hT:OpT P G n0 o st H x.p x.H from hT.weak
  split at h
  rename_i t x ho
  split at h
  rename_i i n k off hx
  split at h
  rename_i s ty xs sh hb
  simp at h
  obtain⟨p,hp,rfl⟩:=h;cases he;exact OpT.loadEptT ho hx hb hz hp;cases h;cases h;cases h
def Hnd.stE (row:α→List PV) {l:List α} {j:Int} {z:α} (hz:AM.idx l j=some z) (z':α) {m0:Nat} (hm:l.length=m0:=by rfl):Hnd P G where
 run o st H:=match o.op with
  |.store t x y=>match opd G st x,opd G st y with
   |some (.ept i n k off),some p=>match H[i]? with
    |some (.buf s ty xs false)=>if Nat.beq (P.cellsOf t) p.cells.length&&(P.info? t).isSome&&Nat.ble (off+p.cells.length) (row z).length&&p.cells.all PV.one&&PV.idss (λ_=>false) p.cells then
      some ⟨.sc undef,H.set i (.buf s ty ((l.set j.toNat z').map row) false),[.n n,.n k,.rs xs,.ps (row z')],[.n m0,.n j.toNat,.rs (l.map row),.ps ((row z).take off++p.cells++(row z).drop (off+p.cells.length))]⟩else none
    |_=>none
   |_,_=>none
  |_=>none
 sound:=by
  intro n0 o st H x h he;subst hm
  suffices hT:OpT P G n0 o st H x.p x.H from hT.weak
  split at h
  rename_i t x y ho
  split at h
  rename_i i n k off p hx hy
  split at h
  rename_i s ty xs hb
  split at h
  rename_i hc;simp only[Wh]at hc;obtain⟨⟨⟨⟨c1,c2⟩,c3⟩,c4⟩,c5⟩:=hc;cases h;simp only[Wai,Wgj,Wed,T.ps.injEq,and_true]at he;obtain⟨rfl,rfl,rfl,he⟩:=he;exact Wh0 ho hx hy hb hz c1 c2 c3 c4 c5 he rfl rfl;cases h;cases h;cases h;cases h
def Hnd.fdE (row:α→List PV) (l:List α) (j:Int) {m0:Nat} (hm:l.length=m0:=by rfl):Hnd P G where
 run o st H:=match o.op with
  |.fieldAddr s x f=>match fieldPl P s f,opd G st x with
   |some (d,m),some (.ept i n k off)=>match H[i]? with
    |some (.buf _ _ xs _)=>if Nat.beq m 0 then none else some ⟨.ept i m0 j.toNat (off+d),H,[.n n,.n k,.rs xs],[.n m0,.n j.toNat,.rs (l.map row)]⟩
    |_=>none
   |_,_=>none
  |_=>none
 sound:=by
  intro n0 o st H x h he;subst hm
  suffices hT:OpT P G n0 o st H x.p x.H from hT.weak
  split at h
  rename_i s x f ho
  split at h
  rename_i d m i n k off hf hx
  split at h
  rename_i z t xs sh hb
  split at h
  cases h;cases h;cases he;exact OpT.fieldEptT ho hf gD hx hb (Nat.beq_refl _) rfl;cases h;cases h;cases h
def Hnd.len (row:α→List PV) (l:List α):Hnd P G where
 run o st H:=match o.op with
  |.call cl=>match cl with
   |{callee:=.builtin .len,args:=⟨[x]⟩,argTypes:=⟨[T0]⟩}=>match P.underlying T0,opd G st x with
    |some (.slice _),some (.sl _ xs)=>some ⟨.sc (.int .i64 l.length),H,[.rs xs],[.rs (l.map row)]⟩
    |some (.slice _),some (.own i n)=>match H[i]? with
     |some (.buf _ _ xs _)=>some ⟨.sc (.int .i64 l.length),H,[.n n,.rs xs],[.n l.length,.rs (l.map row)]⟩
     |_=>none
    |_,_=>none
   |_=>none
  |_=>none
 sound:=by
  intro n0 o st H x h he
  suffices hT:OpT P G n0 o st H x.p x.H from hT.weak
  split at h
  rename_i cl ho
  split at h
  split at h
  rename_i e s xs hu hx;cases h;cases he;exact OpT.lenT ho rfl hu hx rfl;rename_i e i n hu hx
  split at h
  rename_i s t xs sh hb;cases h;cases he;exact OpT.lenOwnT ho rfl hu hx hb rfl;cases h;cases h;cases h;cases h
def Wde:=@Bool.not_eq_true
def Hnd.slice (row:α→List PV) (l:List α) {a b:Int} (hab:0≤a∧a≤b∧b≤(l.length:Int)):Hnd P G where
 run o st H:=match o.op with
  |.slice t x lo hi none=>match P.underlying t,loOf G st lo,hiOf G st l.length hi with
   |some (.slice e),some a',some b'=>if Nat.beq (P.cellsOf e) 0 then none else match opd G st x with
    |some (.sl s xs)=>if Nat.beq (P.cellsOf e) s then some ⟨.sl s (((l.take b.toNat).drop a.toNat).map row),H,[.rs xs,.i a',.i b'],[.rs (l.map row),.i a,.i b]⟩else none
    |some (.sc (.slice none 0 0))=>some ⟨.sl (P.cellsOf e) (((l.take b.toNat).drop a.toNat).map row),H,[.rs [],.i a',.i b'],[.rs (l.map row),.i a,.i b]⟩
    |some (.own i n)=>match H[i]? with
     |some (.buf s _ xs true)=>if Nat.beq (P.cellsOf e) s then some ⟨.sl s (((l.take b.toNat).drop a.toNat).map row),H,[.n n,.rs xs,.i a',.i b'],[.n l.length,.rs (l.map row),.i a,.i b]⟩else none
     |_=>none
    |_=>none
   |_,_,_=>none
  |_=>none
 sound:=by
  intro n0 o st H x h he
  suffices hT:OpT P G n0 o st H x.p x.H from hT.weak
  split at h
  rename_i t x lo hi ho
  split at h
  rename_i e a' b' hu hlo hhi
  split at h
  cases h;rename_i hs0;have hs0:=(Wde _).mp hs0
  split at h
  rename_i s xs hx
  split at h
  rename_i hs;have hs:=Wd hs;cases h;cases he;exact Whn (l:=l) ho hu hs gD hx (.refl _) hlo hhi hab.1 hab.2.1 hab.2.2 rfl;cases h;rename_i hx;cases h
  simp at he
  obtain⟨h1,rfl,rfl⟩:=he;exact Whn (l:=l) ho hu rfl hs0 hx (h1▸.nil _) hlo hhi hab.1 hab.2.1 hab.2.2 rfl;rename_i i n hx
  split at h
  rename_i s ty xs hb
  split at h
  rename_i hs;have hs:=Wd hs;cases h;cases he;exact Whn (l:=l) ho hu hs gD hx (Wk.ownT hb (.inr rfl)) hlo hhi hab.1 hab.2.1 hab.2.2 rfl;cases h;cases h;cases h;cases h;cases h
def Hnd.app (row:α→List PV) (hrow:∀ z,((row z).all PV.one)=true) {l m:List α} (hn:l.length+m.length≤lim):Hnd P G where
 run o st H:=match o.op with
  |.call cl=>match cl with
   |{callee:=.builtin .append,args:=⟨[x,y]⟩,argTypes:=⟨[T0,U]⟩}=>match P.underlying T0,P.underlying U,opd G st x with
    |some (.slice t),some (.slice _),some (.own i n)=>match P.info? t,H[i]? with
     |some ti,some (.buf s t' xs sh)=>match ti.zero with
      |some z=>if Nat.beq t t'&&Nat.beq ti.size s&&Nat.beq z.cells.size s&&Nat.ble ti.bytes 65536 then match opd G st y with
       |some (.sl s2 ys)=>if Nat.beq s s2 then some ⟨.own i (l++m).length,H.set i (.buf s t ((l++m).map row) sh),[.n n,.rs xs,.rs ys],[.n l.length,.rs (l.map row),.rs (m.map row)]⟩else none
       |some (.sc (.slice none 0 0))=>some ⟨.own i (l++m).length,H.set i (.buf s t ((l++m).map row) sh),[.n n,.rs xs,.rs []],[.n l.length,.rs (l.map row),.rs (m.map row)]⟩
       |some (.own j n2)=>match H[j]? with
        |some (.buf s2 _ ys _)=>if Nat.beq s s2 then some ⟨.own i (l++m).length,H.set i (.buf s t ((l++m).map row) sh),[.n n,.rs xs,.n n2,.rs ys],[.n l.length,.rs (l.map row),.n m.length,.rs (m.map row)]⟩else none
        |_=>none
       |_=>none
       else none
      |_=>none
     |_,_=>none
    |_,_,_=>none
   |_=>none
  |_=>none
 sound:=by
  intro n0 o st H x h he
  suffices hT:OpT P G n0 o st H x.p x.H from hT.weak
  split at h
  rename_i cl ho
  split at h
  split at h
  rename_i t e i n hu1 hu2 hx
  split at h
  rename_i ti s t' xs sh hti hb
  split at h
  rename_i z hz
  split at h
  rename_i hc;simp only[Wh]at hc;obtain⟨⟨⟨c1,c2⟩,c3⟩,c4⟩:=hc;have c1:=Wd c1;have c2:=Wd c2;have c3:=Wd c3;subst c1
  split at h
  rename_i s2 ys hy
  split at h
  rename_i c5;have c5:=Wd c5;subst c5;cases h;cases he;exact Wgz ho rfl hu1 hu2 hti hz c2 c3 c4 hx hb hy (.sl _) hrow hn rfl rfl;cases h;rename_i hy;cases h
  simp at he
  obtain⟨rfl,rfl,h1⟩:=he;exact Wgz ho rfl hu1 hu2 hti hz c2 c3 c4 hx hb hy (h1▸.nil) hrow hn rfl rfl;rename_i j n2 hy
  split at h
  rename_i s2 t2 ys sh2 hb2
  split at h
  rename_i c5;have c5:=Wd c5;subst c5;cases h;cases he;exact Wgz ho rfl hu1 hu2 hti hz c2 c3 c4 hx hb hy (Src.ownT hb2) hrow hn rfl rfl;cases h;cases h;cases h;cases h;cases h;cases h;cases h;cases h;cases h
def Hnd.rem {b:Int} (hb:b≠0):Hnd P G where
 run o st H:=match o.op with
  |.binOp .rem _ x y _=>match opd G st x,opd G st y with
   |some (.sc (.int k a)),some (.sc (.int k' b'))=>if k=k' then some ⟨.sc (.int k (a.tmod b)),H,[.i b'],[.i b]⟩else none
   |_,_=>none
  |.binOp .quo _ x y _=>match opd G st x,opd G st y with
   |some (.sc (.int k a)),some (.sc (.int k' b'))=>if k=k' then some ⟨.sc (.int k (k.wrap (a.tdiv b))),H,[.i b'],[.i b]⟩else none
   |_,_=>none
  |_=>none
 sound:=by
  intro n0 o st H x h he
  suffices hT:OpT P G n0 o st H x.p x.H from hT.weak
  split at h
  rename_i t x y t' ho
  split at h
  rename_i k a k' b' hx hy
  split at h
  rename_i hk;subst hk;cases h;cases he;exact OpT.rem ho hx hy hb rfl;cases h;cases h;rename_i t x y t' ho
  split at h
  rename_i k a k' b' hx hy
  split at h
  rename_i hk;subst hk;cases h;cases he;exact OpT.quo ho hx hy hb rfl;cases h;cases h;cases h
def Hnd.sh {b:Int} (hb:0≤b):Hnd P G where
 run o st H:=match o.op with
  |.binOp .shl _ x y _=>match opd G st x,opd G st y with
   |some (.sc (.int k a)),some (.sc (.int _ b'))=>some ⟨.sc (.int k (bShl k a b)),H,[.i b'],[.i b]⟩
   |_,_=>none
  |.binOp .shr _ x y _=>match opd G st x,opd G st y with
   |some (.sc (.int k a)),some (.sc (.int _ b'))=>some ⟨.sc (.int k (bShr k a b)),H,[.i b'],[.i b]⟩
   |_,_=>none
  |_=>none
 sound:=by
  intro n0 o st H x h he
  suffices hT:OpT P G n0 o st H x.p x.H from hT.weak
  split at h
  rename_i t x y t' ho
  split at h
  rename_i k a k' b' hx hy;cases h;cases he;exact OpT.shl ho hx hy hb rfl;cases h;rename_i t x y t' ho
  split at h
  rename_i k a k' b' hx hy;cases h;cases he;exact OpT.shr ho hx hy hb rfl;cases h;cases h
end
section
variable {P:Program} {G:Glob} {n0 nt:Nat} {o:Oper} {st:St} {H:List Blk} {ops:Array Oper} {Q:Exit→St→List Blk→Prop}
structure Ow where
 xs:List (List PV)
 n:Nat
 h:xs.length=n
def Ow.of {α:Type} (row:α→List PV) (l:List α):Ow:=⟨l.map row,l.length,Wt ..⟩
def wkArgs (P:Program) (H:List Blk) (any:Bool):List TypeId→List PV→List Ow→Option (List PV×List T×List T)
 |_,[],_=>some ([],[],[])
 |ts,.own i n::ps,w::ws=>match H[i]? with
  |some (.buf s _ xs sh)=>if any||sh then(wkArgs P H any ts.tail ps ws).map λr=>(.sl s xs::r.1,.n n::.rs xs::r.2.1,.n w.n::.rs w.xs::r.2.2)else none
  |_=>none
 |t::ts,p::ps,ws=>(wkArgs P H any ts ps ws).map λr=>(low P t p::r.1,r.2.1,r.2.2)
 |[],p::ps,ws=>(wkArgs P H any [] ps ws).map λr=>(p::r.1,r.2.1,r.2.2)
def Zrm {any:Bool}:∀ ts ps ws x,wkArgs P H any ts ps ws=some x→x.2.1=x.2.2→Wks H any ps x.1
 |ts,[],ws,x,h,he=>by
  cases h;exact .nil
 |ts,p::ps,ws,x,h,he=>by
  unfold wkArgs at h
  split at h
  rename_i heq;cases heq;rename_i heq1;rename_i i n ps' w ws';cases heq1
  split at h
  rename_i s t xs sh hb
  split at h
  rename_i hs;simp only[Wg]at h;obtain⟨r,hr,rfl⟩:=h
  simp at he
  obtain⟨h1,h2,h3⟩:=he
  have hw:n=xs.length:=by rw[h1,←w.h,h2]
  subst hw;exact .cons _ _ _ _ (.own i s t xs sh hb gD) (Zrm _ _ _ r hr h3);cases h;cases h;rename_i heq1 _;cases heq1;simp only[Wg]at h;obtain⟨r,hr,rfl⟩:=h;exact .cons _ _ _ _ (low_wk _ _ _ _) (Zrm _ _ _ r hr he);rename_i heq1 _;cases heq1;simp only[Wg]at h;obtain⟨r,hr,rfl⟩:=h;exact .cons _ _ _ _ (.refl _) (Zrm _ _ _ r hr he)
def opdL (G:Glob) (st:St):List Operand→Option (List PV)
 |[]=>some []
 |x::xs=>match opd G st x,opdL G st xs with
  |some p,some ps=>some (p::ps)
  |_,_=>none
def Zkw:∀ xs ps,opdL G st xs=some ps→xs.map (opd G st)=ps.map some
 |[],ps,h=>by cases h;rfl
 |x::xs,ps,h=>by
  simp  [opdL]at h
  split at h
  rename_i p qs h1 h2;cases h;simp  [W0,h1,Zkw xs qs h2];cases h
def ptrs1:List PV→List Nat
 |[]=>[]
 |.ptr i _::ps=>i::ptrs1 ps
 |.vw i _ _::ps=>i::ptrs1 ps
 |_::ps=>ptrs1 ps
def ptrsOf:List PV→List Nat
 |[]=>[]
 |.fn _ cs::ps=>ptrs1 cs++ptrsOf ps
 |.ptr i _::ps=>i::ptrsOf ps
 |.vw i _ _::ps=>i::ptrsOf ps
 |_::ps=>ptrsOf ps
def callR (P:Program) (G:Glob) (f:FuncId) (fn:Func) (args0:List PV) (H0 H1:List Blk) (p1:PV) (ws:List Ow) (o:Oper) (st:St) (H:List Blk):Option Out:=match o.op with
 |.call cl=>match cl.callee with
  |.value x=>match opd G st x,opdL G st cl.args.toList with
   |some px,some ps=>match wkArgs P H false fn.params.toList ps ws with
    |some (qs,l,r)=>
     let σ:=ptrsOf ps
     if fn.body.isNone=false∧(fn.name== "runtime.NumGoroutine")=false∧σ.Pairwise (·<·)∧H0.all Blk.isCells=true then
      some ⟨p1.ren (renId σ H.length),setAll σ (H1.map (Blk.ren (renId σ H.length))) H,.p px::.ps qs::.bs (H0.map (λk=>some (k.ren (renId σ H.length))))::l,
       .p (.sc (.func (.func f) #[] #[]))::.ps (PV.rens (renId σ H.length) args0)::.bs (σ.map (H[·]?))::r⟩
     else none
    |_=>none
   |_,_=>none
  |_=>none
 |_=>none
def Hnd.call {f:FuncId} {fn:Func} {args0:List PV} {H0 H1:List Blk} {p1:PV} (hfn:P.funcs[f]? = some fn) (ws:List Ow) (hc:ACall P G f args0 H0 (λq K=>q=p1∧K=H1)):Hnd P G where
 run:=callR P G f fn args0 H0 H1 p1 ws
 sound:=by
  intro n0 o st H x h he
  unfold callR at h
  suffices hT:OpT P G n0 o st H x.p x.H from hT.weak
  split at h
  rename_i cl ho
  split at h
  rename_i x hcl
  split at h
  rename_i px ps hx hps
  split at h
  rename_i qs l r hw
  simp only  at h
  split at h
  rename_i hcond;obtain⟨c1,c2,c3,c4⟩:=hcond;cases h
  simp at he
  obtain⟨h1,h2,h3,h4⟩:=he;subst h1;exact Whz (caps:=[]) ho hcl (.inl ⟨hx,rfl⟩) hfn c1 c2 (Zkw _ _ hps) (by rw[Wam];exact Zrm _ _ _ _ hw h4) h2 c3 c4 h3 hc rfl rfl;cases h;cases h;cases h;cases h;cases h
def one2 (hs:List (Nat×Hnd P G)) (i:Nat) (o:Oper) (st:St) (H:List Blk):Option Out:=match hs.lookup i with
 |some h=>h.run o st H
 |none=>(stdRun P G o st H).map λr=>⟨r.1,r.2,[],[]⟩
def OpT.of_one2 {hs:List (Nat×Hnd P G)} {i:Nat} {x:Out} (h:one2 hs i o st H=some x) (he:x.l=x.r):OpW P G n0 o st H x.p x.H:=by
 unfold one2 at h
 split at h
 rename_i k _;exact k.sound h he;simp only[Wg]at h;obtain⟨r,h1,rfl⟩:=h;exact(Wgi h1).weak
def Wfy:=@OpT.of_one2
abbrev Eqs:=List (List T×List T)
def Eqs.ok (es:Eqs):Prop:=∀ e∈es,e.1=e.2
def Eqs.of {es:Eqs} (h:es.map (·.1)=es.map (·.2)):es.ok:=by
 intro e he
 induction es with
 |nil=>grind
 |cons d ds ih=>
  grind
def Eqs.cons {e:List T×List T} {es:Eqs} (h:Eqs.ok (e::es)):e.1=e.2∧Eqs.ok es:=⟨h e sM,λx hx=>h x gD⟩
def Wco:=@Eqs.cons
def Eqs.app {es fs:Eqs} (h:Eqs.ok (es++fs)):Eqs.ok es∧Eqs.ok fs:=⟨λx hx=>h x gD,λx hx=>h x gD⟩
def Wee:=@Eqs.app
def rseg (nt:Nat) (ops:Array Oper) (hs:List (Nat×Hnd P G)):List Nat→St→List Blk→Option (St×List Blk×Eqs)
 |[],st,H=>some (st,H,[])
 |i::l,st,H=>match ops[i]? with
  |none=>none
  |some o=>if dstOk nt o then match wantA ops st o with
   |some true=>match one2 hs i o st H with
    |some x=>(rseg nt ops hs l (st.putD o.dst x.p) x.H).map λr=>(r.1,r.2.1,(x.l,x.r)::r.2.2)
    |none=>none
   |some false=>rseg nt ops hs l (st.putD o.dst (.sc undef)) H
   |none=>none
   else none
def AOps.rseg {hs:List (Nat×Hnd P G)} {l2:List Nat}:∀ {l1:List Nat} {st:St} {H:List Blk} {r:St×List Blk×Eqs},rseg nt ops hs l1 st H=some r→Eqs.ok r.2.2→AOps P G n0 nt ops l2 Q r.1 r.2.1→AOps P G n0 nt ops (l1++l2) Q st H
 |[],st,H,r,hr,_,h=>by cases hr;exact h
 |i::l,st,H,r,hr,he,h=>by
  simp only[AM.rseg]at hr;cases ho:ops[i]?;simp[ho]at hr;rename_i o
  simp  [ho]at hr
  by_cases hd:dstOk nt o=true
  simp  [hd,if_true]at hr
  cases hw:wantA ops st o;simp[hw]at hr;rename_i b;cases b
  simp  [hw]at hr;exact AOps.skip ho hd hw (AOps.rseg hr he h)
  simp  [hw]at hr
  cases hx:one2 hs i o st H;simp[hx]at hr;simp only[hx,Wg]at hr;obtain⟨r',h1,rfl⟩:=hr;obtain⟨e1,e2⟩:=Wco he;exact Wgw ho hd hw (Wfy hx e1) (AOps.rseg h1 e2 h)
  grind
def Wfg:=@AOps.rseg
def Reg (nt:Nat) (ops:Array Oper) (hs:List (Nat×Hnd P G)) (ks:List Nat) (st:St) (H:List Blk):Option (St×List Blk×Eqs):=
 (rseg nt ops hs (List.range ops.size) st H).map λr=>(r.1.pick ks,r.2.1,r.2.2)
def dseq (nt:Nat) (ops:Array Oper) (hs:List (Nat×Hnd P G)) (ch:List Nat):List Nat→St→List Blk→Option (List (Nat×PV)×List (List Blk))
 |[],_,H=>some ([],[H])
 |i::l,st,H=>match ops[i]? with
  |none=>none
  |some o=>match wantA ops st o with
   |some true=>match one2 hs i o st H with
    |some x=>if ch.contains i then(dseq nt ops hs ch l (st.putD o.dst x.p) x.H).map λr=>((i,x.p)::r.1,H::r.2)else(dseq nt ops hs ch l (st.putD o.dst x.p) H).map λr=>((i,x.p)::r.1,r.2)
    |none=>none
   |some false=>(dseq nt ops hs ch l (st.putD o.dst (.sc undef)) H).map λr=>((i,.sc undef)::r.1,r.2)
   |none=>none
def quietEqs (ops:Array Oper) (hs:List (Nat×Hnd P G)) (ch:List Nat) (i:Nat) (o:Oper) (st:St) (p:PV):Nat→List (List Blk)→Option Eqs
 |_,[]=>some []
 |t,H::Hs=>match quietEqs ops hs ch i o st p (t+1) Hs with
  |none=>none
  |some es=>if posOk ops ch i t then(one2 hs i o st H).map λx=>(x.l,x.r)::([.p x.p,.bs (x.H.map some)],[.p p,.bs (H.map some)])::es else some es
def freeEqs (ops:Array Oper) (hs:List (Nat×Hnd P G)) (st0:St) (res:List PV) (ch:List Nat) (Hs:List (List Blk)) (k i:Nat):Option Eqs:=
 match ops[i]?,res[i]? with
 |some o,some p=>match wantA ops (stAt ops k st0 res i) o with
  |some false=>if ch.contains i then none else some [([.p p],[.p (.sc undef)])]
  |some true=>if ch.contains i then(match ch[ch.idxOf i]?,Hs[ch.idxOf i]?,Hs[ch.idxOf i+1]? with
    |some i',some H,some H'=>if Nat.beq i' i then(one2 hs i o (stAt ops k st0 res i) H).map λx=>[(x.l,x.r),([.p x.p,.bs (x.H.map some)],[.p p,.bs (H'.map some)])]else none
    |_,_,_=>none)
   else quietEqs ops hs ch i o (stAt ops k st0 res i) p 0 Hs
  |none=>none
 |_,_=>none
def allEqs (f:Nat→Option Eqs):Nat→Option Eqs
 |0=>some []
 |k+1=>match allEqs f k,f k with
  |some es,some fs=>some (es++fs)
  |_,_=>none
def Zby {α:Type} {l m:List α} (h:l.map some=m.map some):l=m:=by
 induction l generalizing m with
 |nil=>simp_all
 |cons x l ih=>cases m with
  |nil=>cases h
  |cons y m=>grind
def Z5d {hs:List (Nat×Hnd P G)} {ch:List Nat} {i:Nat} {p:PV}:∀ {t:Nat} {Hs:List (List Blk)} {es:Eqs},quietEqs ops hs ch i o st p t Hs=some es→es.ok→AllT ops ch i (λH=>OpW P G n0 o st H p H) t Hs
 |t,[],es,_,_=>.nil t
 |t,H::Hs,es,h,he=>by
  simp  [quietEqs]at h
  cases hr:quietEqs ops hs ch i o st p (t+1) Hs;simp[hr]at h
  simp  [hr]at h
  by_cases hp:posOk ops ch i t=true
  simp  [hp,if_true,Wg]at h
  obtain⟨x,hx,rfl⟩:=h;obtain⟨e1,e2⟩:=Wco he;obtain⟨e3,e4⟩:=Wco e2
  simp at e3
  have:=Wfy (n0:=n0) hx e1;rw[e3.1,Zby e3.2]at this;exact .yes this (Z5d hr e4);rw[if_neg hp]at h;cases h;exact .no gD (Z5d hr he)
def Zaiz {hs:List (Nat×Hnd P G)} {st0:St} {res:List PV} {ch:List Nat} {Hs:List (List Blk)} {k i:Nat} {es:Eqs} (h:freeEqs ops hs st0 res ch Hs k i=some es) (he:es.ok):FreeOk P G n0 nt ops st0 res ch Hs k i:=by
 unfold freeEqs at h
 split at h
 rename_i o p ho hp
 have hopn:opn ops i=o:=by simp[opn,ho]
 have hi:(ops[i]?).isSome=true:=gD
 split at h
 rename_i hw
 split at h
 cases h;rename_i hc;cases h;have:=he _ (Wl.2 rfl)
 simp at this
 exact FreeOk.s hi gD gD gD;rename_i hw
 split at h
 split at h
 rename_i i' H H' g1 g2 g3
 split at h
 rename_i hb;have hb:=Wd hb;subst hb
 simp at h
 obtain⟨x,hx,rfl⟩:=h;obtain⟨e1,e2⟩:=Wco he;obtain⟨e3,_⟩:=Wco e2
 simp at e3
 have:=Wfy (n0:=n0) hx e1;rw[Zby e3.2]at this;exact FreeOk.c _ p H H' hi g1 gD hp g2 g3 gD;cases h;cases h;rename_i hc;exact FreeOk.q p hi gD gD hp (by rw[hopn];exact Z5d h he);cases h;cases h
def all_ok {hs:List (Nat×Hnd P G)} {st0:St} {res:List PV} {ch:List Nat} {Hs:List (List Blk)} {K:Nat}:∀ {k:Nat} {es:Eqs},allEqs (freeEqs ops hs st0 res ch Hs K) k=some es→es.ok→FreeUpTo P G n0 nt ops st0 res ch Hs K k
 |0,_,_,_=>trivial
 |k+1,es,h,he=>by
  simp  [allEqs]at h
  split at h
  rename_i es' fs h1 h2;cases h;obtain⟨e1,e2⟩:=Wee he;exact⟨all_ok h1 e1,Zaiz h2 e2⟩;cases h
def swaps (n0:Nat):List (Nat×Nat)→St→List Blk→Option (St×List Blk)
 |[],st,H=>some (st,H)
 |(i,j)::r,st,H=>match H[i]?,H[j]? with
  |some x,some y=>if Nat.ble n0 i&&Nat.ble n0 j&&okIds (swapB i j x y H)then swaps n0 r (st.map λz=>(z.1,z.2.ren (sw i j))) (swapB i j x y H)else none
  |_,_=>none
def AOps.swaps {l:List Nat}:∀ {sws:List (Nat×Nat)} {st:St} {H:List Blk} {r:St×List Blk},swaps n0 sws st H=some r→AOps P G n0 nt ops l Q r.1 r.2→AOps P G n0 nt ops l Q st H
 |[],st,H,r,hr,h=>by cases hr;exact h
 |(i,j)::s,st,H,r,hr,h=>by
  simp only[AM.swaps]at hr
  split at hr
  rename_i x y hi hj
  split at hr
  rename_i hc;simp only[Wh]at hc;exact AOps.swap i j hi hj hc.1.1 hc.1.2 hc.2 rfl rfl (AOps.swaps hr h);cases hr
  grind
def Whp:=@AOps.swaps
def orderOf (k:Nat) (ord:List Nat):List Nat:=if ord.isEmpty then List.range k else ord
def rkOf (k:Nat) (ord:List Nat):List Nat:=if ord.isEmpty then[]else(List.range k).map λi=>ord.idxOf i
def Dr (n0 nt:Nat) (ops:Array Oper) (hs:List (Nat×Hnd P G)) (k:Nat) (ord ch:List Nat) (sws:List (Nat×Nat)) (ks:List Nat) (st:St) (H:List Blk):Option (St×List Blk×Eqs):=
 match dseq nt ops hs ch (orderOf k ord) st H with
 |none=>none
 |some (rs,Hs)=>
  let res:=(List.range k).map λi=>(rs.lookup i).getD (.sc undef)
  let st0:=st.pick (st.map (·.1))
  if drawOk nt ops ch k (rkOf k ord)&&Nat.beq Hs.length (ch.length+1)then
   match allEqs (freeEqs ops hs st0 res ch Hs k) k,Hs[0]?,Hs[ch.length]? with
   |some es,some H0,some Hf=>
    let st1:=stL ops st0 res (List.range k)
    match rseg nt ops hs (List.range' k (ops.size-k)) (st1.pick (st1.map (·.1))) Hf with
    |some r=>match swaps n0 sws r.1 r.2.1 with
     |some q=>some (q.1.pick ks,q.2,([.bs (H0.map some)],[.bs (H.map some)])::(es++r.2.2))
     |none=>none
    |none=>none
   |_,_,_=>none
  else none
end
section
variable {P:Program} {G:Glob} {n0 nt:Nat} {o:Oper} {st:St} {H:List Blk} {ops:Array Oper} {Q:Exit→St→List Blk→Prop}
def Z9g {t:TypeId} {m:Nat} {cs:List PV} {p:PV} (h:P.cellsOf t≤m) (hm:0<m) (hl:ldPV P t (cs.take m)=some p):ldPV P t cs=some p:=by
 unfold ldPV at hl⊢
 split at hl
 split at hl
 rename_i hle;rw[Wad]at hle;rw[if_pos om];rw[Wdx,Wbp h]at hl;exact hl;cases hl;cases cs
 simp at hl
 obtain⟨k,rfl⟩:∃ k,m=k+1:=⟨m-1,om⟩;simpa using hl;omega
def Zvi {β:Type} {f g:Nat→β} {n:Nat} (h:(List.range n).map f=(List.range n).map g) {q:Nat} (hq:q<n):f q=g q:=List.map_inj_left.1 h q (Wdw.2 hq)
variable {α:Type}
def elemsL (cs:List PV) (off s n:Nat):List (List PV):=(List.range n).map λq:Nat=>(cs.drop (off+q*s)).take s
def elemsR (row:α→List PV) (get:Int→α) (n:Nat):List (List PV):=(List.range n).map λq:Nat=>row (get (q:Int))
def Zai0 {row:α→List PV} {get:Int→α} {cs:List PV} {off s n:Nat} {j:Int} (h:0≤j∧j<n) (he:elemsL cs off s n=elemsR row get n):(cs.drop (off+j.toNat*s)).take s=row (get j):=by
 have:=Zvi he (q:=j.toNat) om
 grind
def Wep:=@List.drop_drop
def ld_of {row:α→List PV} {get:Int→α} {cs:List PV} {off s d n:Nat} {j:Int} {t:TypeId} {p:PV} (h:0≤j∧j<n) (he:elemsL cs off s n=elemsR row get n) (hc:P.cellsOf t+d≤s) (hd:d<s)
  (hl:ldPV P t ((row (get j)).drop d)=some p):ldPV P t (cs.drop (off+j.toNat*s+d))=some p:=by
 rw[←Zai0 h he,Wdb,Wep]at hl;exact Z9g (m:=s-d) om om hl
def Hnd.ixd {n:Nat} {j:Int} (h:0≤j∧j<(n:Int)):Hnd P G where
 run o st H:=match o.op with
  |.indexAddr t x y=>match P.underlying t,opd G st y with
   |some (.array n' e),some (.sc (.int _ j'))=>if Nat.beq (P.cellsOf e) 0=false∧Nat.beq n' n=true then match opd G st x with
    |some (.ptr i off)=>some ⟨.ptr i (off+j.toNat*P.cellsOf e),H,[.i j'],[.i j]⟩
    |some (.ro cs off)=>some ⟨.ro cs (off+j.toNat*P.cellsOf e),H,[.i j'],[.i j]⟩
    |_=>none
    else none
   |_,_=>none
  |_=>none
 sound:=by
  intro n0 o st H x hr he
  suffices hT:OpT P G n0 o st H x.p x.H from hT.weak
  split at hr
  rename_i t x y ho
  split at hr
  rename_i n' e k j' hu hy
  split at hr
  rename_i hc;have hn:=Wd hc.2;subst hn
  have hz:P.cellsOf e≠0:=λh0=>sA
  split at hr
  rename_i i off hx;cases hr;cases he;exact Wez ho hu hz hy h.1 h.2 hx rfl;rename_i cs off hx;cases hr;cases he;exact Wez ho hu hz hy h.1 h.2 hx rfl;cases hr;cases hr;cases hr
  grind
def Hnd.ldA (row:α→List PV) (get:Int→α) (off s d:Nat) {n:Nat} {j:Int} (h:0≤j∧j<(n:Int)):Hnd P G where
 run o st H:=match o.op with
  |.load t x=>if P.cellsOf t+d≤s∧d<s then match opd G st x with
   |some (.ptr i off')=>match H[i]? with
    |some (.cells cs)=>(ldPV P t ((row (get j)).drop d)).map λp=>⟨p,H,[.n off',.rs (elemsL cs off s n)],[.n (off+j.toNat*s+d),.rs (elemsR row get n)]⟩
    |_=>none
   |some (.ro cs off')=>(ldPV P t ((row (get j)).drop d)).map λp=>⟨p,H,[.n off',.rs (elemsL cs off s n)],[.n (off+j.toNat*s+d),.rs (elemsR row get n)]⟩
   |_=>none
   else none
  |_=>none
 sound:=by
  intro n0 o st H x hr he
  suffices hT:OpT P G n0 o st H x.p x.H from hT.weak
  split at hr
  rename_i t x ho
  split at hr
  rename_i hc
  split at hr
  rename_i i off' hx
  split at hr
  rename_i cs hb
  simp at hr
  obtain⟨p,hp,rfl⟩:=hr
  simp at he
  obtain⟨rfl,h2⟩:=he;exact Wgn ho hx hb (ld_of h h2 hc.1 hc.2 hp);cases hr;rename_i cs off' hx
  simp at hr
  obtain⟨p,hp,rfl⟩:=hr
  simp at he
  obtain⟨rfl,h2⟩:=he;exact OpT.load_ro ho hx (ld_of h h2 hc.1 hc.2 hp);cases hr;cases hr
  grind
def Hnd.ixA (row:α→List PV) (get:Int→α) {n:Nat} {j:Int} (h:0≤j∧j<(n:Int)):Hnd P G where
 run o st H:=match o.op with
  |.index t x y=>match P.underlying t,opd G st y with
   |some (.array n' e),some (.sc (.int _ j'))=>if Nat.beq (P.cellsOf e) 0=false∧Nat.beq n' n=true then match opd G st x with
    |some (.agg cs)=>(ldPV P e (row (get j))).map λp=>⟨p,H,[.i j',.rs (elemsL cs 0 (P.cellsOf e) n)],[.i j,.rs (elemsR row get n)]⟩
    |some (.sc (.agg us))=>(ldPV P e (row (get j))).map λp=>⟨p,H,[.i j',.rs (elemsL (us.toList.map .sc) 0 (P.cellsOf e) n)],[.i j,.rs (elemsR row get n)]⟩
    |_=>none
    else none
   |_,_=>none
  |_=>none
 sound:=by
  intro n0 o st H x hr he
  suffices hT:OpT P G n0 o st H x.p x.H from hT.weak
  split at hr
  rename_i t x y ho
  split at hr
  rename_i n' e k j' hu hy
  split at hr
  rename_i hc;have hn:=Wd hc.2;subst hn
  have hz:P.cellsOf e≠0:=λh0=>sA
  split at hr
  rename_i cs hx
  simp at hr
  obtain⟨p,hp,rfl⟩:=hr
  simp at he
  obtain⟨rfl,h2⟩:=he;have:=ld_of (off:=0) (d:=0) (t:=e) h h2 om om hp;rw[Wbk]at this;exact Whx ho hu hz hx hy h.1 h.2 this;rename_i us hx
  simp at hr
  obtain⟨p,hp,rfl⟩:=hr
  simp at he
  obtain⟨rfl,h2⟩:=he;have:=ld_of (off:=0) (d:=0) (t:=e) h h2 om om hp;rw[Wbk]at this;exact OpT.index_sc ho hu hz hx hy h.1 h.2 this;cases hr;cases hr;cases hr
  grind
def Hnd.stA (nc:Int→List PV) (off s d:Nat) {n:Nat} {j:Int} (h:0≤j∧j<(n:Int)):Hnd P G where
 run o st H:=match o.op with
  |.store t x y=>match opd G st x,opd G st y with
   |some (.ptr i off'),some p0=>
    let p:=low P t p0
    match H[i]? with
    |some (.cells cs)=>if Nat.beq (P.cellsOf t) p.cells.length=true∧Nat.beq (P.cellsOf t) p0.cells.length=true∧(P.info? t).isSome=true∧off+n*s≤cs.length∧d+p.cells.length≤s∧p0.cells.all PV.one=true∧PV.idss (λj=>decide (j<i)) p0.cells=true∧PV.isNil p0=false then
      some ⟨.sc undef,H.set i (.cells (nc j)),[.n off',.rs ((List.range n).map λq:Nat=>cs.take (off+q*s+d)++p0.cells++cs.drop (off+q*s+d+p0.cells.length))],[.n (off+j.toNat*s+d),.rs ((List.range n).map λq:Nat=>nc (q:Int))]⟩else none
    |_=>none
   |_,_=>none
  |_=>none
 sound:=by
  intro n0 o st H x hr he
  suffices hT:OpT P G n0 o st H x.p x.H from hT.weak
  split at hr
  rename_i t x y ho
  split at hr
  rename_i i off' p0 hx hy
  simp only  at hr
  split at hr
  rename_i cs hb
  split at hr
  rename_i hc;obtain⟨c0,c1,c2,c3,c4,c5,c6,_⟩:=hc;have c0:=Wd c0;have c1:=Wd c1;cases hr;simp only[Wai,Wed,Wgj,and_true]at he;obtain⟨rfl,h2⟩:=he
  have hq:j.toNat<n:=om
  have:=Zvi h2 hq;rw[show j.toNat=j by omega]at this;rw[←this];have hm:(j.toNat+1)*s≤n*s:=W8 s hq;rw[Way]at hm;exact OpT.store ho hx hy hb c1 c2 om c5 c6;cases hr;cases hr;cases hr
  grind
variable {S:St} {K:List Blk}
end
abbrev i64 (n:Int):PV:=.sc (.int .i64 n)
abbrev u64 (n:Int):PV:=.sc (.int .u64 n)
abbrev u32 (n:Int):PV:=.sc (.int .u32 n)
abbrev u8 (n:Int):PV:=.sc (.int .u8 n)
abbrev vb (b:Bool):PV:=.sc (.bool b)
abbrev vstr (s:ByteArray):PV:=.sc (.string s)
abbrev slc {α:Type} (s:Nat) (row:α→List PV) (l:List α):PV:=.sl s (List.map row l)
abbrev bf {α:Type} (s t:Nat) (row:α→List PV) (l:List α) (sh:Bool):Blk:=.buf s t (List.map row l) sh
abbrev nils:PV:=.sc (.slice none 0 0)
mutual
theorem VR.idsLt {S:Nat→Nat→Prop} {β:List Bnd} {w:World}:∀(p:PV) (u:Value),VR S β w p u→p.ids (λj=>decide (j<β.length))=true
 |.sc _,_,_|.ro _ _,_,_|.sl _ _,_,_|.z,_,_|.ln _,_,_=>by simp only[PV.ids]
 |.agg cs,u,h=>by
  simp only[VR]at h;obtain⟨us,_,h⟩:=h;simp only[PV.ids];exact VRs.idsLt cs _ h
 |.tup cs,u,h=>by
  simp only[VR]at h;obtain⟨us,_,h⟩:=h;simp only[PV.ids];exact VRs.idsLt cs _ h
 |.fn f cs,u,h=>by
  simp only[VR]at h;obtain⟨us,_,h⟩:=h;simp only[PV.ids];exact VRs.idsLt cs _ h
 |.ptr i off,u,h=>by
  simp only[VR]at h;obtain⟨e,h,_⟩:=h
  simpa only[PV.ids,decide_eq_true_eq]using (List.getElem?_eq_some_iff.1 h).1
 |.mp i,u,h=>by
  simp only[VR]at h;obtain⟨e,h,_⟩:=h
  simpa only[PV.ids,decide_eq_true_eq]using (List.getElem?_eq_some_iff.1 h).1
 |.vw i off n,u,h=>by
  simp only[VR]at h;obtain⟨e,h,_⟩:=h
  simpa only[PV.ids,decide_eq_true_eq]using (List.getElem?_eq_some_iff.1 h).1
 |.own i n,u,h=>by
  simp only[VR]at h;obtain⟨_,e,h,_⟩:=h
  simpa only[PV.ids,decide_eq_true_eq]using (List.getElem?_eq_some_iff.1 h).1
 |.op i n h',u,h=>by
  simp only[VR]at h;obtain⟨_,e,h,_⟩:=h
  simpa only[PV.ids,decide_eq_true_eq]using (List.getElem?_eq_some_iff.1 h).1
 |.oc i n h',u,h=>by
  simp only[VR]at h;obtain⟨_,e,h,_⟩:=h
  simpa only[PV.ids,decide_eq_true_eq]using (List.getElem?_eq_some_iff.1 h).1
 |.ow i n lo hi,u,h=>by
  simp only[VR]at h;obtain⟨_,e,h,_⟩:=h
  simpa only[PV.ids,decide_eq_true_eq]using (List.getElem?_eq_some_iff.1 h).1
 |.ept i n k off,u,h=>by
  simp only[VR]at h;obtain⟨_,e,h,_⟩:=h
  simpa only[PV.ids,decide_eq_true_eq]using (List.getElem?_eq_some_iff.1 h).1
theorem VRs.idsLt {S:Nat→Nat→Prop} {β:List Bnd} {w:World}:∀(ps:List PV) (us:List Value),VRs S β w ps us→PV.idss (λj=>decide (j<β.length)) ps=true
 |[],_,_=>by simp only[PV.idss]
 |_::_,[],h=>by simp only[VRs]at h
 |p::ps,u::us,h=>by
  simp only[VRs]at h;simp only[PV.idss,Bool.and_eq_true];exact⟨VR.idsLt p u h.1,VRs.idsLt ps us h.2⟩
end
def Wh4:=@VR.idsLt
def Wef:=@VRs.idsLt
mutual
theorem OVR.idsLt {S:Nat→Nat→Prop} {β:List Bnd} {w:World} {base:Nat}:∀(o:OV) (u:Value) (bs:List Nat),OVR S β w base o u bs→o.ids (λj=>decide (j<β.length))=true
 |.pv p,u,bs,h=>by simp only[OVR]at h;simp only[OV.ids];exact VR.idsLt p u h.1
 |.own t s n cs,u,bs,h=>by
  simp only[OVR]at h;obtain⟨vals,bs',_,h2,_⟩:=h;simp only[OV.ids];exact OVRs.idsLt cs vals bs' h2
theorem OVRs.idsLt {S:Nat→Nat→Prop} {β:List Bnd} {w:World} {base:Nat}:∀(os:List OV) (us:List Value) (bs:List Nat),OVRs S β w base os us bs→OV.idss (λj=>decide (j<β.length)) os=true
 |[],_,_,_=>by simp only[OV.idss]
 |o::os,u::us,bs,h=>by
  simp only[OVRs]at h;obtain⟨b1,b2,h1,h2,_⟩:=h;simp only[OV.idss,Bool.and_eq_true];exact⟨OVR.idsLt o u b1 h1,OVRs.idsLt os us b2 h2⟩
 |_::_,[],_,h=>by simp only[OVRs]at h
end
def Whq:=@OVRs.idsLt
section
variable {P:Program} {G:Glob} {n0 nt:Nat} {o:Oper} {st:St} {H:List Blk} {ops:Array Oper} {Q:Exit→St→List Blk→Prop}
def InQ (P:Program) (rs:Array ResultVar) (n0:Nat) (p:PV) (H':List Blk) (e:Exit) (st:St) (K:List Blk):Prop:=(e=.normal∨e=.ret)∧ares P st K rs=some p∧∃ m,n0≤m∧p.ids (λj=>decide (j<m))=true∧((K.take m).all (Blk.farOk m)=true∨K.length≤m)∧H'=K.take m
def Wcc:=@List.mem_append_right
def Wda:=@List.mem_append_left
def OpW.inline {cl:Call} {x:Operand} {f:FuncId} {fn:Func} {code:Code} {ps caps:List PV} {p:PV} {H':List Blk} (ho:o.op=.call cl) (hc:cl.callee=.value x)
  (hx:(opd G st x=some (.sc (.func (.func f) #[] #[]))∧caps=[])∨opd G st x=some (.fn f caps)) (hfn:P.funcs[f]? = some fn) (hb:fn.body=some code) (hname:(fn.name== "runtime.NumGoroutine")=false)
  (hargs:cl.args.toList.map (opd G st)=ps.map some) (hnt:(ps++caps).length≤fn.ntmps) (h:AWP P G H.length fn.ntmps code (InQ P fn.results H.length p H') (numb 0 (ps++caps)) H):OpW P G n0 o st H p H':=by
 intro c a w β h0 hr
 have hxv:∃ us,a.eval x=.func (.func f) #[] us∧VRs (stab c β H w) β w caps us.toList:=by
  rcases hx with⟨hx,rfl⟩|hx
  have:=hr.opd hx;simp only[VR]at this;exact⟨#[],this,by simp only[VRs]⟩;have:=hr.opd hx;simp only[VR]at this;exact this
 obtain⟨us,hxe,hus⟩:=hxv
 have hex:(execOp a.eval o).run P w=.ok (.enter f (cl.args.map a.eval++us)) w:=by
  have hn:¬fn.name= "runtime.NumGoroutine":=by simpa using hname
  have hb':¬fn.body=none:=by rw[hb];simp
  simp[execOp,ho,resolve,hc,hxe,Deferred.ofValue,invoke,callFunc,hfn,hn,hb']
 have hv:VRs (stab c β H w) β w (ps++caps) (cl.args.map a.eval++us).toList:=by
  have h1:=We0 hr cl.args.toList ps hargs
  simpa using VRs.append _ _ _ _ h1 hus
 simp only[wpv,hex]
 refine calls_of_wp hfn hb ?_
 have hg:=hr.ghost (g:=st.map λx=>(x.2,a.tmps.getD x.1 undef)) (λx hx=>by
  obtain⟨y,hy,rfl⟩:=W9.1 hx
  exact(hr.slots y hy).2)
 have hcl:=Wav _ _ hv
 have hlen:c.β0.length≤H.length:=by
  obtain⟨γ,hγ⟩:=hr.pre;rw[←hr.len,hγ,Wm];omega
 let c':Ctx:={c with nt:=fn.ntmps,gh:=(st.map λx=>(x.2,a.tmps.getD x.1 undef))++c.gh}
 have hrel:RelB G c' β (numb 0 (ps++caps)) H {tmps:=(cl.args.map a.eval++us)++Array.replicate (fn.ntmps-(cl.args.map a.eval++us).size) undef,defers:=[]} w:=by
  refine⟨⟨hr.ok.old,hr.ok.glob,hr.ok.low,hr.ok.down⟩,hr.len,hr.pre,hr.blk,hr.inj,hr.loc,hr.cel,λx hx'=>?_,?_,rfl,⟨hr.frm.os,hr.frm.tape,hr.frm.output,hr.frm.size,hr.frm.block,hr.frm.typ,hr.frm.drawn⟩,hg.gh⟩
  obtain⟨j,u,h1,h2,h3⟩:=Zz1 (ps++caps) (cl.args.map a.eval++us).toList 0 hv x hx'
  have hj:j<(cl.args.map a.eval++us).size:=gD
  simp only[Wbk]at h1
  refine⟨?_,?_⟩
  show x.1<fn.ntmps;rw[Wa7]at hcl;omega
  have:((cl.args.map a.eval++us)++Array.replicate (fn.ntmps-(cl.args.map a.eval++us).size) undef).getD x.1 undef=u:=by
   rw[Wd9,h1,Wg6 hj];rw[Array.getElem?_toList]at h2;rw[h2];rfl
  rw[this];exact h3
  grind
 have hfit:c'.fit H.length:=⟨hlen,λx hx=>by
  have:=Wh4 _ _ (hg.gh x hx)
  rwa [hr.len]at this⟩
 refine wp_mono (h c' _ w β hfit rfl hrel) λe a' w' ⟨st',K,β',hq,hr'⟩=>?_
 obtain⟨he,hp,m,hm,hpm,hfar,rfl⟩:=hq;obtain⟨v,g1,g2⟩:=Zad3 (P:=P) hr' hp
 have hfar:(K.take m).all (Blk.farOk m)=true:=by
  rcases hfar with h1|h1
  exact h1
  refine W7.2 λk hk=>?_
  obtain⟨i,hi⟩:=Wa5.1 (Wbc hk)
  have hil:i<β'.length:=by rw[hr'.len];exact(We.1 hi).1
  have hbk:=hr'.blk i β'[i] k sM hi
  have hm':β'.length≤m:=by rw[hr'.len];exact h1
  cases k with
  |far cs=>
   obtain⟨vs,t,_,h3⟩:=hbk;exact Wdf gD _ (Wef _ _ h3)
  |map es cl=>
   obtain⟨arr,_,_,h3⟩:=hbk;exact Wdf gD _ (Wef _ _ h3)
  |cells cs=>rfl
  |dead=>rfl
  |fm l=>rfl
  |buf s t xs sh=>rfl
  |fb s t xs=>
   obtain⟨_,_,_,vals,_,h3⟩:=hbk;exact Wdf gD _ (Wef _ _ h3)
  |tr t s n cs=>
   have h3:=hbk.2.2.2;simp only[OVR]at h3;obtain⟨vals,bs',_,h4,_⟩:=h3;exact Weh gD _ (Whq _ _ _ h4)
  |iter mo since seen last=>rfl
 have hg2:=hr'.ghost (g:=[(p,v)]) (λx hx=>by rw[Wl.1 hx];exact g2)
 have hd:=hg2.drop (m:=m) (st':=[]) (Wbj hlen hm) hfar (λx hx=>by
  rcases Wj.1 hx with hx|hx
  rw[Wl.1 hx];exact hpm;have hx':=hx;have:=Wh4 _ _ (hg.gh x hx')
  exact Wfr (λj hj=>by simp only[W4]at hj⊢;rw[hr.len]at hj;omega) _ this) (λx hx=>by cases hx)
 have fin:∃ β',RelB G c β' st (K.take m) a w'∧VR (stab c β' (K.take m) w') β' w' p v:=
  ⟨_,⟨⟨hd.ok.old,hd.ok.glob,hd.ok.low,hd.ok.down⟩,hd.len,hd.pre,hd.blk,hd.inj,hd.loc,hd.cel,λx hx=>⟨(hr.slots x hx).1,hd.gh (x.2,a.tmps.getD x.1 undef) gD⟩,hr.nt,hr.dfr,
   ⟨hd.frm.os,hd.frm.tape,hd.frm.output,hd.frm.size,hd.frm.block,hd.frm.typ,hd.frm.drawn⟩,λx hx=>hd.gh x (Wcc _ (Wcc _ hx))⟩,hd.gh (p,v) (Wda _ (Wl.2 rfl))⟩
 rcases he with rfl|rfl
 all_goals exact⟨hr'.dfr,v,g1,v,rfl,fin⟩
end
end
end
end Go.AM

/- Parts of a proof, printed short. No condition. -/
import Derived.Laws.Externs
import Derived.Laws.Concat
import Derived.Laws.IdiomStrings
import Derived.Laws.IdiomRangeMap
import Derived.Test.YtdbopohjgcdpmaaGreatDoorLQ3
set_option maxRecDepth 100000
set_option linter.all false
namespace Go.AM
noncomputable section
open Go
open Go.IntKind(wrap)
section
variable {P:Program} {G:Glob} {n0 nt:Nat} {o:Oper} {st:St} {H:List Blk}
end
section
variable {P:Program} {G:Glob} {n0 nt:Nat} {o:Oper} {st:St} {H:List Blk}
end
section
variable {P:Program} {G:Glob} {c:Ctx} {β:List Bnd} {st:St} {H:List Blk} {a:Act} {w:World} {n0 nt:Nat} {o:Oper}
def VR.closed {S S':Nat→Nat→Prop} {w':World} {β':List Bnd} (hx:Ext S w S' w') {p:PV} {u:Value} (hp:p.ids (λ_=>false)=true) (h:VR S β w p u):VR S' β' w' p u:=
 Wgm hx (q:=λ_=>false) (λi e hq _=>gD) p u hp h
def VRs.closed {S S':Nat→Nat→Prop} {w':World} {β':List Bnd} (hx:Ext S w S' w') {ps:List PV} {us:List Value} (hp:PV.idss (λ_=>false) ps=true) (h:VRs S β w ps us):VRs S' β' w' ps us:=
 Wdi hx (q:=λ_=>false) (λi e hq _=>gD) ps us hp h
def Whr:=@VRs.closed
def OpT.asH {p:PV} {H1 H':List Blk} (h:OpT P G n0 o st H p H1) (e:H1=H'):OpT P G n0 o st H p H':=gD
def Wdo:=@Bool.and_true
def RelB.callB (h:RelB G c β st H a w) {i s t:Nat} {xs ys:List (List PV)} {e:Bnd} (he:β[i]? = some e) (hb:H[i]? = some (.buf s t xs false)) (hne:xs≠[]) (hlen:ys.length=xs.length) (hys:∀ y∈ys,y.length=s) :
  ∃(g cap:Nat) (sp:List Value),xs.length≤cap∧e.v=.slice (some ⟨g,0,none⟩) xs.length cap∧InOk G (stab c β H w) [⟨g,undef,0,0,[]⟩] [.cells (xs.flatten++sp.map .sc)] w ∧
   ∀ γ w',OutOk (stab c β H w) [⟨g,undef,0,0,[]⟩] γ [.cells (ys.flatten++sp.map .sc)] w w' →
    γ=[]∧RelB G c (β.set i ⟨e.b,e.v,ys.length,s,e.bs⟩) st (H.set i (.buf s t ys false)) a w' ∧
    Ext (stab c β H w) w (stab c (β.set i ⟨e.b,e.v,ys.length,s,e.bs⟩) (H.set i (.buf s t ys false)) w') w'∧BExt (λ_=>true) β (β.set i ⟨e.b,e.v,ys.length,s,e.bs⟩) ∧
    Ext (stab1 (stab c β H w) γ w w') w' (stab c (β.set i ⟨e.b,e.v,ys.length,s,e.bs⟩) (H.set i (.buf s t ys false)) w') w':=by
 obtain⟨q1,q2,q3,vals0,⟨q4,q4'⟩,q5⟩:=h.blk i e _ he hb
 rcases q4' with⟨_,q6⟩|⟨g,cap,cur,e1,e2,e3,e4,e5,e6,e7⟩
 exact absurd (Waj q6) hne
 have hg:e.v.ownBlock=some g:=by rw[e1];rfl
 have hn0:c.β0.length≤i:=by
  rcases Wcz i c.β0.length with hlt|hge
  obtain⟨cs,hc,hcf⟩:=h.cel i hlt;rw[hb]at hc;cases hc;cases hcf;exact hge
 obtain⟨hg0,hgl⟩:=h.loc i e _ g hn0 he hb hg
 have hgs:∀ b hi,stab c β H w b hi→g≠b:=λb hi hs=>by
  rcases hs with hs|⟨_,_,h3⟩
  have:=(h.ok.old b hi hs).1;omega;intro hgb;have:=(h3 i e _ he hb (by rw[hg,hgb])).1;cases this
 have hfy:ys.flatten.length=ys.length*s:=Zsd ys hys
 let sp:=cur.toList.drop (xs.length*s)
 have hcur:cur.toList=vals0++sp:=by rw[←e7];exact(Waz _ _).symm
 have hidx:PV.idss (λ_=>false) xs.flatten=true:=by
  have:=Wef _ _ q5
  grind
 refine⟨g,cap,sp,e4,e1,⟨⟨λb hi hs=>⟨Zp7 h hs,λf hf=>?_⟩,λgl cs hgl'=>?_,λf hf=>?_,λb hi hi' h1 h2=>h.ok.stab h1 h2⟩,rfl,λj f k hj hk=>?_,λj k f f' hjk hf hf'=>?_⟩,λγ w' ho=>?_⟩
 simp only[Wl]at hf;subst hf;exact hgs b hi hs;obtain⟨h1,h2⟩:=h.ok.glob gl cs hgl';exact⟨h.ext0.stab _ _ h1,Wf1 h.ext0 (W3 _ _) gl cs.length h1 cs 0 om (Wcv cs) h2⟩;simp only[Wl]at hf;subst hf;exact hgl
 cases j with
 |succ j=>simp at hj
 |zero=>
  simp at hj hk;subst hj hk
  refine⟨rfl,?_,cur,t,e3,?_⟩
  rw[Wdv,Z5a,Wdo];exact Wdf (λ_ hf=>by cases hf) _ hidx;rw[hcur];exact VRs.append _ _ _ _ (Whr (Wd3 _ _) hidx q5) (VRs.scs sp)
 cases j with
 |succ j=>simp at hf
 |zero=>grind
 have hγ:γ=[]:=by
  have:=ho.len
  simp at this
  exact this
 subst hγ;obtain⟨_,hid,vs,t',k2,k3⟩:=ho.blk 0 ⟨g,undef,0,0,[]⟩ _ rfl rfl;obtain⟨vs1,k4⟩:=ho.frm.typ g cur t e3;obtain⟨_,rfl⟩:=Z46 k2 k4;have hvl:=Wav _ _ k3;have k5:=Wdj ys.flatten.length _ _ k3;have k6:=Wdk ys.flatten.length _ _ k3;rw[Whc]at k5;rw[Whd]at k6
 have hspl:sp.length=cap*s-xs.length*s:=by simp only[sp,Wa2,Wa7,e6]
 have hvsz:vs.size=cap*s:=by
  grind
 have hidy:PV.idss (λ_=>false) ys.flatten=true:=by
  rw[Wdv,Wh]at hid
  refine Wdf (λj hj=>?_) _ hid.1
  simp at hj
 have hst:∀(β':List Bnd) (H':List Blk),(∀(j:Nat) f k,β'[j]? = some f→H'[j]? = some k→(j≠i∧β[j]? = some f∧H[j]? = some k)∨(j=i∧f.v=e.v∧∃ s' t' xs' ,k=.buf s' t' xs' false)) →
   Ext (stab c β H w) w (stab c β' H' w') w'→Ext (stab1 (stab c β H w) [] w w') w' (stab c β' H' w') w':=λβ' H' hk hx=>by
  refine⟨λb hi hs=>?_,λ_ _ _ _ _ _ h=>h⟩
  rcases hs with hs|⟨h1,h2,_⟩
  exact hx.stab b hi hs
  refine .inr ⟨Wbj h.frm.size h1,h2,λj f k hj hj'=>?_⟩
  rcases hk j f k hj hj' with⟨_,g1,g2⟩|⟨rfl,g1,s',t',xs',rfl⟩
  cases k with
  |cells cs=>exact λhb'=>by have:=at_lt (h.blk j f _ g1 g2) (b:=b) (by simp[Blk.at,hb']);omega
  |map es cl=>exact λhb'=>by have:=at_lt (h.blk j f _ g1 g2) (b:=b) (by simp[Blk.at,hb']);omega
  |far cs=>exact λhb'=>by have:=at_lt (h.blk j f _ g1 g2) (b:=b) (by simp[Blk.at,hb']);omega
  |dead=>trivial
  |fm l=>exact λhb'=>by have:=at_lt (h.blk j f _ g1 g2) (b:=b) (by simp[Blk.at,hb']);omega
  |iter m since seen last=>exact λhb'=>by have:=at_lt (h.blk j f _ g1 g2) (b:=b) (by simp[Blk.at,hb']);omega
  |buf s' t' xs' sh=>exact λhb'=>by have:=at_lt (h.blk j f _ g1 g2) (b:=b) hb';omega
  |fb s' t' xs'=>exact λhb'=>by have:=at_lt (h.blk j f _ g1 g2) (b:=b) hb';omega
  |tr t' s' n' cs'=>exact Z76 λhb'=>by have:=at_lt (h.blk j f _ g1 g2) (b:=b) hb';omega
  intro hb';rw[g1,hg]at hb';cases hb';omega
 have hkey:∀(j:Nat) f k,(β.set i ⟨e.b,e.v,ys.length,s,e.bs⟩)[j]? = some f→(H.set i (.buf s t ys false))[j]? = some k→(j≠i∧β[j]? = some f∧H[j]? = some k)∨(j=i∧f.v=e.v∧∃ s' t' xs' ,k=.buf s' t' xs' false):=λj f k hf hk=>by
  grind
 have hre:=h.rebuf' he hb (w':=w') (v':=e.v) (xs':=ys) (vals:=vs.toList.take ys.flatten.length) ho.frm.os ho.frm.tape ho.frm.output ho.frm.drawn ho.frm.size
  (λb hlt hne'=>ho.frm.block b hlt λf hf=>gD)
  om (λ_=>rfl) (λh=>by cases h)
  ⟨gD,.inr ⟨g,cap,vs,by rw[hlen];exact e1,e2,k2,om,e5,hvsz,by rw[hfy]⟩⟩
  (λg' hg'=>.inl hg') hys
  (λhx=>Whr (hst _ _ hkey hx) hidy k5)
 exact⟨rfl,hre.1,hre.2.1,hre.2.2,hst _ _ hkey hre.2.1⟩
def OpT.callB {cl:Call} {x:Operand} {f:FuncId} {fn:Func} {i s t:Nat} {xs ys:List (List PV)} {rest:List PV} {p:PV}
  (ho:o.op=.call cl) (hc:cl.callee=.value x) (hx:opd G st x=some (.sc (.func (.func f) #[] #[])))
  (hfn:P.funcs[f]? = some fn) (hbody:fn.body.isNone=false) (hname:(fn.name== "runtime.NumGoroutine")=false)
  (hargs:cl.args.toList.map (opd G st)=(.own i xs.length::rest).map some) (hrest:PV.idss (λ_=>false) rest=true) (hb:H[i]? = some (.buf s t xs false)) (hne:xs≠[])
  (hlen:ys.length=xs.length) (hys:∀ y∈ys,y.length=s)
  (hcall:∀ sp:List Value,ACall P G f (.vw 0 0 xs.length::rest) [.cells (xs.flatten++sp.map .sc)] (λq K=>q=p∧K=[.cells (ys.flatten++sp.map .sc)])) (hp:p.ids (λ_=>false)=true) :
  OpT P G n0 o st H p (H.set i (.buf s t ys false)):=by
 intro c a w β h0 hr;have hv:=We0 hr cl.args.toList _ hargs;have hlv:=Wav _ _ hv
 obtain⟨u,us,hus⟩:∃ u us,cl.args.toList.map a.eval=u::us:=by
  cases hq:cl.args.toList.map a.eval
  grind
  grind
 rw[hus]at hv;obtain⟨hv1,hv2⟩:=hv;obtain⟨_,e,he,_,hve⟩:=hv1;obtain⟨q1,_⟩:=hr.blk i e _ he hb;obtain⟨g,cap,sp,k1,k2,k3,k4⟩:=hr.callB he hb hne hlen hys;have hxe:=hr.opd hx
 simp  [VR]at hxe
 have hex:(execOp a.eval o).run P w=.ok (.enter f (cl.args.map a.eval)) w:=by
  have hn:=by simpa using hname
  have hb:¬fn.body=none:=gD
  simp[execOp,ho,resolve,hc,hxe,Deferred.ofValue,invoke,callFunc,hfn,hn,hb]
 simp  [wpv,hex]
 refine(hcall sp _ _ w (cl.args.map a.eval) k3 ?_).mono ?_
 have:(cl.args.map a.eval).toList=u::us:=sA
 rw[this]
 refine⟨?_,Whr (Wd3 _ _) hrest hv2⟩
 exact⟨_,rfl,cap,_,k1,gD,λ_=>rfl⟩;rintro ex w' ⟨v,q,K,γ,rfl,⟨rfl,rfl⟩,hout,hvr⟩;obtain⟨rfl,g1,g2,g3,g4⟩:=k4 γ w' hout;exact⟨v,rfl,_,g1,VR.closed g4 hp hvr,g3,g2⟩
variable {α:Type}
def cel (row:α→List PV) (l:List α) (sp:List Value):List PV:=(l.map row).flatten++sp.map .sc
def Hnd.callB {f:FuncId} {fn:Func} (row:α→List PV) {s:Nat} {l l':List α} {rest:List PV} {p1:PV} (hfn:P.funcs[f]? = some fn) (hrow:∀ z,(row z).length=s) (hne:l≠[]) (hlen:l'.length=l.length)
  (hc:∀ sp,ACall P G f (.vw 0 0 l.length::rest) [.cells (cel row l sp)] (λq K=>q=p1∧K=[.cells (cel row l' sp)])):Hnd P G where
 run o st H:=match o.op with
  |.call cl=>match cl.callee with
   |.value x=>match opd G st x,opdL G st cl.args.toList with
    |some px,some (.own i n::rest')=>match H[i]? with
     |some (.buf s' t xs false)=>
      if fn.body.isNone=false∧(fn.name== "runtime.NumGoroutine")=false∧PV.idss (λ_=>false) rest=true∧p1.ids (λ_=>false)=true∧Nat.beq s s'=true then
       some ⟨p1,H.set i (.buf s' t (l'.map row) false),[.p px,.n n,.ps rest',.rs xs],[.p (.sc (.func (.func f) #[] #[])),.n l.length,.ps rest,.rs (l.map row)]⟩
      else none
     |_=>none
    |_,_=>none
   |_=>none
  |_=>none
 sound:=by
  intro n0 o st H x h he
  suffices hT:OpT P G n0 o st H x.p x.H from hT.weak
  split at h
  rename_i cl ho
  split at h
  rename_i x hcl
  split at h
  rename_i px i n rest' hx hps
  split at h
  rename_i s' t xs hb
  split at h
  rename_i hcond;obtain⟨c1,c2,c3,c4,c5⟩:=hcond;cases h;cases he;have c5:=Wd c5;subst c5;have hl1:(l.map row).length=l.length:=Wt ..
  refine OpT.callB (xs:=l.map row) (ys:=l'.map row) ho hcl hx hfn c1 c2 (by rw[hl1];exact Zkw _ _ hps) c3 hb gD gD ?_ (λsp=>?_) c4
  intro y hy;obtain⟨z,_,rfl⟩:=W9.1 hy;exact hrow z;rw[hl1];exact hc sp;cases h;cases h;cases h;cases h;cases h
def idxn (n:Nat) (l:List α) (j:Int):Option α:=if 0≤j∧j<(n:Int)then idx l j else none
def Zrn {n:Nat} {l:List α} {j:Int} {z:α} (h:idxn n l j=some z):0≤j∧j<n:=by
 unfold idxn at h;grind
def Zpa {n:Nat} {l:List α} {j:Int} {z:α} (h:idxn n l j=some z):idx l j=some z:=by
 unfold idxn at h;grind
def Hnd.idxV {n:Nat} {j:Int} (h:0≤j∧j<(n:Int)):Hnd P G where
 run o st H:=match o.op with
  |.indexAddr t x y=>match P.underlying t,opd G st x,opd G st y with
   |some (.slice e),some (.vw i off n'),some (.sc (.int _ j'))=>if Nat.beq (P.cellsOf e) 0 then none else some ⟨.ptr i (off+j.toNat*P.cellsOf e),H,[.n n',.i j'],[.n n,.i j]⟩
   |_,_,_=>none
  |_=>none
 sound:=by
  intro n0 o st H x hr he
  suffices hT:OpT P G n0 o st H x.p x.H from hT.weak
  split at hr
  ·rename_i t x y ho
   split at hr
   ·rename_i e i off n' k j' hu hx hy
    split at hr
    ·cases hr
    ·rename_i hz
     simp only[Wn]at hr;subst hr;simp only[Wai,Wed,T.i.injEq,and_true]at he;obtain⟨rfl,rfl⟩:=he;exact OpT.index_vw ho hu (λh0=>hz (by rw[h0];rfl)) hx hy h.1 h.2
   ·cases hr
  ·cases hr
def Z5f {row:α→List PV} {s:Nat} (hrow:∀ z,(row z).length=s):∀ {l:List α} {k:Nat} {z:α} sp,l[k]? = some z→(((l.map row).flatten++sp).drop (k*s)).take s=row z∧(k+1)*s≤((l.map row).flatten++sp).length
 |[],k,z,sp,h=>gD
 |y::l,0,z,sp,h=>by
  grind
 |y::l,k+1,z,sp,h=>by
  obtain⟨h1,h2⟩:=Z5f hrow (l:=l) sp h;simp
  have hd:((k+1)*s)=(row y).length+k*s:=gD
  refine⟨?_,?_⟩
  rw[hd,List.drop_append,List.drop_of_length_le om];simp;exact h1
  grind
def Zabb {row:α→List PV} {s:Nat} (hrow:∀ z,(row z).length=s) (z':α):∀ {l:List α} {k:Nat} sp,k<l.length →
  ((l.set k z').map row).flatten++sp=((l.map row).flatten++sp).take (k*s)++row z'++((l.map row).flatten++sp).drop (k*s+s)
 |[],k,sp,h=>gD
 |y::l,0,sp,h=>by
  grind
 |y::l,k+1,sp,h=>by
  simp at h
  have hd:((k+1)*s)=(row y).length+k*s:=gD
  simp only[Wdn,W0,Wb0,Wap];rw[Zabb hrow z' (l:=l) (k:=k) sp om,hd,Whu,Wc1,Wc2];simp
def Hnd.ldV (row:α→List PV) {s:Nat} (hrow:∀ z,(row z).length=s) (sp:List Value) {l:List α} {j:Int} {z:α} (hz:AM.idx l j=some z) (off0:Nat) (hoff0:off0=j.toNat*s) (ds:List Nat):Hnd P G where
 run o st H:=match o.op with
  |.load t x=>match opd G st x with
   |some (.ptr i off)=>match H[i]? with
    |some (.cells cs)=>if P.cellsOf t+ds.foldl (·+·) 0≤s∧ds.foldl (·+·) 0<s then(ldPV P t ((row z).drop (ds.foldl (·+·) 0))).map λp=>⟨p,H,[.n off,.ps cs],[.n (ds.foldl (·+·) off0),.ps (cel row l sp)]⟩else none
    |_=>none
   |_=>none
  |_=>none
 sound:=by
  intro n0 o st H x hr he
  suffices hT:OpT P G n0 o st H x.p x.H from hT.weak
  split at hr
  rename_i t x ho
  split at hr
  rename_i i off hx
  split at hr
  rename_i cs hb
  split at hr
  simp at hr
  obtain⟨p,hp,rfl⟩:=hr;cases he;obtain⟨_,_,hget⟩:=Zo8 hz
  have hfold:∀(ds:List Nat) m,ds.foldl (·+·) m=m+ds.foldl (·+·) 0:=by
   intro ds
   induction ds with
   |nil=>simp
   |cons d ds ih=>grind
  refine Wgn ho hx hb ?_
  rw[hfold,hoff0];rw[←(Z5f hrow (sp.map .sc) hget).1,Wdb,Wep]at hp;exact Z9g (m:=s-ds.foldl (·+·) 0) om om hp;cases hr;cases hr;cases hr
  grind
def Hnd.stV (row:α→List PV) {s:Nat} (hrow:∀ z,(row z).length=s) (sp:List Value) {l:List α} {j:Int} {z:α} (hz:AM.idx l j=some z) (z':α) (off0:Nat) (hoff0:off0=j.toNat*s) (ds:List Nat):Hnd P G where
 run o st H:=match o.op with
  |.store t x y=>match opd G st x,opd G st y with
   |some (.ptr i off),some p=>match H[i]? with
    |some (.cells cs)=>if Nat.beq (P.cellsOf t) p.cells.length=true∧(P.info? t).isSome=true∧p.cells.length+ds.foldl (·+·) 0≤s∧p.cells.all PV.one=true∧PV.idss (λj=>decide (j<i)) p.cells=true then
      some ⟨.sc undef,H.set i (.cells (cel row (l.set j.toNat z') sp)),[.n off,.ps cs,.ps ((row z).take (ds.foldl (·+·) 0)++p.cells++(row z).drop (ds.foldl (·+·) 0+p.cells.length))],[.n (ds.foldl (·+·) off0),.ps (cel row l sp),.ps (row z')]⟩else none
    |_=>none
   |_,_=>none
  |_=>none
 sound:=by
  intro n0 o st H x hr he
  suffices hT:OpT P G n0 o st H x.p x.H from hT.weak
  split at hr
  rename_i t x y ho
  split at hr
  rename_i i off p hx hy
  split at hr
  rename_i cs hb
  split at hr
  rename_i hc;obtain⟨c1,c2,c3,c4,c5⟩:=hc;cases hr
  simp at he
  obtain⟨rfl,rfl,hz'⟩:=he;obtain⟨_,_,hget⟩:=Zo8 hz
  have hfold:∀(ds:List Nat) m,ds.foldl (·+·) m=m+ds.foldl (·+·) 0:=by
   intro ds
   induction ds with
   |nil=>simp
   |cons d ds ih=>grind
  obtain⟨g1,g2⟩:=Z5f hrow (sp.map .sc) hget;rw[Way]at g2
  have hoff:ds.foldl (·+·) off0=j.toNat*s+ds.foldl (·+·) 0:=gD
  refine OpT.asH (OpT.store (P:=P) (G:=G) (n0:=n0) ho hx hy hb (Wd c1) c2 (by unfold AM.cel;omega) c4 c5) ?_
  unfold AM.cel;rw[Zabb hrow z' (sp.map .sc) (We.1 hget).1,←hz',←g1,hoff]
  generalize (l.map row).flatten++sp.map PV.sc=cs at g2
  generalize ds.foldl (·+·) 0=d at c3
  generalize p.cells=ps at c3
  generalize j.toNat*s=m at g2
  rw[Wdx,Wdb,Wbp om,List.take_add (i:=m) (j:=d)]
  have h1:List.drop (m+d+ps.length) cs=List.take (s-(d+ps.length)) (List.drop (m+(d+ps.length)) cs)++List.drop (m+s) cs:=by
   rw[show List.drop (m+s) cs=List.drop (s-(d+ps.length)) (List.drop (m+(d+ps.length)) cs) by rw[Wep];congr 1;omega,Waz,Whu]
  rw[h1];simp;cases hr;cases hr;cases hr
  grind
end
section
variable {P:Program} {G:Glob} {n0 nt:Nat} {o:Oper} {st:St} {H:List Blk}
def Hnd.q:Hnd P G where
 run o st H:=match o.op with
  |.load t x=>match opd G st x with
   |some (.ptr i off)=>match H[i]? with
    |some (.far cs)=>(ldPV P t (cs.drop off)).map λp=>⟨p,H,[],[]⟩
    |_=>(stdRun P G o st H).map λr=>⟨r.1,r.2,[],[]⟩
   |_=>none
  |.makeFunc (.func f) ⟨[]⟩ captured=>(opdL G st captured.toList).map λps=>⟨.fn f ps,H,[],[]⟩
  |_=>none
 sound:=by
  intro n0 o st H x h _
  suffices hT:OpT P G n0 o st H x.p x.H from hT.weak
  split at h
  ·rename_i ho
   split at h
   ·rename_i hx
    split at h
    ·rename_i hc
     obtain⟨p,h1,rfl⟩:=Wg.1 h;exact OpT.loadF ho hx hc h1
    ·obtain⟨r,h1,rfl⟩:=Wg.1 h
     exact Wgi h1
   ·cases h
  ·rename_i ho
   obtain⟨ps,h1,rfl⟩:=Wg.1 h;exact OpT.makeFunc ho (Zkw _ _ h1)
  ·cases h
variable {α:Type}
def bounded {m:Int} {b:Nat} (h0:0≤m) (hm:m≤lim) (hb:b≤65536):b*m≤281474976710656∧Nat.ble m.toNat maxLen=true:=by
 have h1:b*m≤65536*2147483648:=by
  have h2:m≤2147483648:=hm;exact Int.mul_le_mul om h2 h0 dC
 refine⟨om,Nat.ble_eq_true_of_le ?_⟩
 have h2:m≤2147483648:=hm;unfold maxLen;omega
end
section
variable {P:Program} {G:Glob} {n0 nt:Nat} {o:Oper} {st:St} {H:List Blk}
def Hnd.m:Hnd P G where
 run o st H:=match o.op with
  |.alloc _=>(stepMem P G st H o.op).map λr=>⟨r.1,r.2,[],[]⟩
  |.box _ _=>(stepMem P G st H o.op).map λr=>⟨r.1,r.2,[],[]⟩
  |.store t x y=>match stepMem P G st H o.op,storeFx P G st H t x y with
   |some r,_=>some ⟨r.1,r.2,[],[]⟩
   |none,some H'=>some ⟨.sc undef,H',[],[]⟩
   |none,none=>(stdMem P G st H o).map λr=>⟨r.1,r.2,[],[]⟩
  |.build t parts=>match opds G st parts.toList with
   |some ps=>(buildPV P t ps).map λp=>⟨p,H,[],[]⟩
   |none=>none
  |.buildSlice t len parts=>match opds G st parts.toList with
   |some ps=>match litPV P t len ps with
    |some (e,out)=>match PV.idss (λ_=>false) out with
     |true=>some ⟨.own H.length len,H++[.buf (P.cellsOf e) e (rowsOf (P.cellsOf e) len out) false],[],[]⟩
     |false=>none
    |none=>none
   |none=>none
  |_=>none
 sound:=by
  intro n0 o st H x h _
  suffices hT:OpT P G n0 o st H x.p x.H from hT.weak
  split at h
  ·obtain⟨r,h1,rfl⟩:=Wg.1 h
   exact Wen h1
  ·obtain⟨r,h1,rfl⟩:=Wg.1 h
   exact Wen h1
  ·rename_i ho
   split at h
   ·rename_i h1
    cases h;exact Wen h1
   ·rename_i h1
    cases h;exact OpT.storeFx ho h1
   ·obtain⟨r,h1,rfl⟩:=Wg.1 h
    exact Wh3 h1
  ·rename_i ho
   split at h
   ·rename_i hp
    obtain⟨p,h1,rfl⟩:=Wg.1 h;exact OpT.build ho hp h1
   ·cases h
  ·rename_i ho
   split at h
   ·rename_i hp
    split at h
    ·rename_i hl
     split at h
     ·rename_i hc
      cases h;exact OpT.litOwn ho hp hl hc
     ·cases h
    ·cases h
   ·cases h
  ·cases h
variable {α:Type}
end
section
variable {P:Program} {G:Glob} {n0 nt:Nat} {o:Oper} {st:St} {H:List Blk}
variable {α:Type}
end
section
variable {P:Program} {G:Glob} {n0 nt:Nat} {o:Oper} {st:St} {H:List Blk}
def Hnd.callF {f:FuncId} {fn:Func} {args0:List PV} {H0 H1:List Blk} {p1:PV} (hfn:P.funcs[f]? = some fn) (ws:List Ow) (hc:ACall P G f args0 H0 (λq K=>q=p1∧K=H1)):Hnd P G where
 run o st H:=match o.op with
  |.call cl=>match cl.callee with
   |.value x=>match opd G st x,opdL G st cl.args.toList with
    |some (.fn f' caps),some ps=>match wkArgs P H false fn.params.toList ps ws with
     |some (qs,l,r)=>
      let σ:=ptrsOf (ps++caps)
      if fn.body.isNone=false∧(fn.name== "runtime.NumGoroutine")=false∧σ.Pairwise (·<·)∧H0.all Blk.isCells=true then
       some ⟨p1.ren (renId σ H.length),setAll σ (H1.map (Blk.ren (renId σ H.length))) H,.n f'::.ps (qs++caps)::.bs (H0.map (λk=>some (k.ren (renId σ H.length))))::l,
        .n f::.ps (PV.rens (renId σ H.length) args0)::.bs (σ.map (H[·]?))::r⟩
      else none
     |_=>none
    |_,_=>none
   |_=>none
  |_=>none
 sound:=by
  intro n0 o st H x h he
  suffices hT:OpT P G n0 o st H x.p x.H from hT.weak
  split at h
  rename_i cl ho
  split at h
  rename_i x hcl
  split at h
  rename_i f' caps ps hx hps
  split at h
  rename_i qs l r hw
  simp only  at h
  split at h
  rename_i hcond;obtain⟨c1,c2,c3,c4⟩:=hcond;cases h
  simp at he
  obtain⟨h1,h2,h3,h4⟩:=he;subst h1;exact Whz (caps:=caps) ho hcl (.inr hx) hfn c1 c2 (Zkw _ _ hps) (Who (Zrm _ _ _ _ hw h4) (Wem _ _ _)) h2 c3 c4 h3 hc rfl rfl;cases h;cases h;cases h;cases h;cases h
variable {α β:Type}
def Hnd.ixE (row:α→List PV) (l:List α) (k:Int) {n:Nat} {j:Int} (h:0≤j∧j<(n:Int)) {m0:Nat} (hm:l.length=m0:=by rfl):Hnd P G where
 run o st H:=match o.op with
  |.indexAddr t x y=>match P.underlying t,opd G st x,opd G st y with
   |some (.array n' e),some (.ept i m q off),some (.sc (.int _ j'))=>match H[i]? with
    |some (.buf _ _ xs _)=>if Nat.beq (P.cellsOf e) 0 then none else some ⟨.ept i m0 k.toNat (off+j.toNat*P.cellsOf e),H,[.n m,.n q,.rs xs,.n n',.i j'],[.n m0,.n k.toNat,.rs (l.map row),.n n,.i j]⟩
    |_=>none
   |_,_,_=>none
  |_=>none
 sound:=by
  intro n0 o st H x hr he;subst hm
  suffices hT:OpT P G n0 o st H x.p x.H from hT.weak
  split at hr
  ·rename_i t x y ho
   split at hr
   ·rename_i n' e i m q off k' j' hu hx hy
    split at hr
    ·rename_i s ty xs sh hb
     split at hr
     ·cases hr
     ·rename_i hz
      simp only[Wn]at hr;subst hr;simp only[Wai,Wed,T.i.injEq,Wgj,and_true]at he;obtain⟨rfl,rfl,rfl,rfl,rfl⟩:=he;exact OpT.index_ept ho hu (λh0=>hz (by rw[h0];rfl)) hy h.1 h.2 hx hb (by rw[Wt])
    ·cases hr
   ·cases hr
  ·cases hr
def Hnd.stEd (row:α→List PV) {l:List α} {k:Int} {z:α} (hz:AM.idx l k=some z) (nz:Int→α) (off s d:Nat) {n:Nat} {j:Int} (h:0≤j∧j<(n:Int)) {m0:Nat} (hm:l.length=m0:=by rfl):Hnd P G where
 run o st H:=match o.op with
  |.store t x y=>match opd G st x,opd G st y with
   |some (.ept i m q off'),some p=>match H[i]? with
    |some (.buf s' ty xs false)=>if Nat.beq (P.cellsOf t) p.cells.length&&(P.info? t).isSome&&Nat.ble (off+n*s) (row z).length&&Nat.ble (d+p.cells.length) s&&p.cells.all PV.one&&PV.idss (λ_=>false) p.cells then
      some ⟨.sc undef,H.set i (.buf s' ty ((l.set k.toNat (nz j)).map row) false),[.n m,.n q,.rs xs,.n off',.rs ((List.range n).map λq:Nat=>row (nz (q:Int)))],
       [.n m0,.n k.toNat,.rs (l.map row),.n (off+j.toNat*s+d),.rs ((List.range n).map λq:Nat=>(row z).take (off+q*s+d)++p.cells++(row z).drop (off+q*s+d+p.cells.length))]⟩else none
    |_=>none
   |_,_=>none
  |_=>none
 sound:=by
  intro n0 o st H x hr he;subst hm
  suffices hT:OpT P G n0 o st H x.p x.H from hT.weak
  split at hr
  ·rename_i t x y ho
   split at hr
   ·rename_i i m q off' p hx hy
    split at hr
    ·rename_i s' ty xs hb
     split at hr
     ·rename_i hc
      simp only[Wh]at hc;obtain⟨⟨⟨⟨⟨c1,c2⟩,c3⟩,c3'⟩,c4⟩,c5⟩:=hc;simp only[Wn]at hr;subst hr;simp only[Wai,Wgj,Wed,and_true]at he;obtain⟨rfl,rfl,rfl,rfl,h5⟩:=he
      have hq:j.toNat<n:=om
      have h6:=Zvi h5 hq;rw[show((j.toNat:Nat):Int)=j by omega]at h6;have hm:(j.toNat+1)*s≤n*s:=W8 s hq;rw[Way,Nat.one_mul]at hm;have c3:=W2 c3;have c3':=W2 c3';exact Wh0 ho hx hy hb hz c1 c2 (Nat.ble_eq_true_of_le om) c4 c5 h6 rfl rfl
     ·cases hr
    ·cases hr
   ·cases hr
  ·cases hr
end
section
variable {P:Program} {G:Glob} {n0 nt:Nat} {o:Oper} {st:St} {H:List Blk}
def VRow.wks {S:Nat→Nat→Prop} {w:World} {b:Nat} {ps qs:List PV} (h:Wks [] false ps qs):∀ o,VRow S [] w b o ps→VRow S [] w b o qs:=by
 induction h with
 |nil=>grind
 |cons p q ps qs h1 h2 ih=>
  intro o hr;obtain⟨⟨u,g1,g2⟩,g3⟩:=hr
  refine⟨⟨u,g1,?_⟩,ih _ g3⟩
  cases h1;exact g2
  simp  [VR]at g2⊢;grind
  grind
def Wks.length {H:List Blk} {any:Bool} {ps qs:List PV} (h:Wks H any ps qs):qs.length=ps.length:=by
 induction h with
 |nil=>rfl
 |cons p q ps qs h1 h2 ih=>grind
def VRows.lows {S:Nat→Nat→Prop} {w:World} {b s:Nat} {e:TypeId}:∀ xs o,VRows S [] w b s o xs→VRows S [] w b s o (xs.map (lows P e))
 |[],o,h=>gD
 |x::xs,o,h=>⟨⟨by rw[(Zwb (P:=P) [] false e x).length];exact h.1.1,VRow.wks (Zwb [] false e x) o h.1.2⟩,VRows.lows xs _ h.2⟩
def OpT.litN {t len e:Nat} {parts:Array (Nat×Operand)} {ps:List (Nat×PV)} {out:List PV} (ho:o.op=.buildSlice t len parts) (hp:opds G st parts.toList=some ps) (hl:litPV P t len ps=some (e,out)) (hcl:PV.idss (λ_=>false) out=true) :
  OpT P G n0 o st H (.sl (P.cellsOf e) ((rowsOf (P.cellsOf e) len out).map (lows P e))) H:=by
 intro c a w β h0 hr
 refine Zh4 (OpT.lit ho hp hl hcl rfl c a w β h0 hr) λv w' ⟨β',g1,g2,g3,g4⟩=>⟨β',g1,?_,g3,g4⟩
 obtain⟨ad,cap,hv,hc,h⟩:=g2
 refine⟨ad,cap,gD,gD,?_⟩
 rcases h with h|⟨b,off,h1,h2,h3⟩
 exact .inl gD;exact .inr ⟨b,off,h1,gD,VRows.lows _ _ h3⟩
def Hnd.litN:Hnd P G where
 run o st H:=match o.op with
  |.buildSlice t len parts=>match opds G st parts.toList with
   |some ps=>match litPV P t len ps with
    |some (e,out)=>if PV.idss (λ_=>false) out then some ⟨.sl (P.cellsOf e) ((rowsOf (P.cellsOf e) len out).map (lows P e)),H,[],[]⟩else none
    |none=>none
   |none=>none
  |_=>none
 sound:=by
  intro n0 o st H x hr he
  suffices hT:OpT P G n0 o st H x.p x.H from hT.weak
  split at hr
  rename_i t len parts ho
  split at hr
  rename_i ps hp
  split at hr
  rename_i e out hl
  split at hr
  rename_i hc;cases hr;exact OpT.litN ho hp hl hc;cases hr;cases hr;cases hr
  grind
end
section
variable {P:Program} {G:Glob} {n0 nt:Nat} {o:Oper} {st:St} {H:List Blk}
def sidx (s:ByteArray) (i:Int):Option Int:=if h:0≤i∧i<s.size then some ((s[i.toNat]'om).toNat:Int)else none
def strR (P:Program) (G:Glob) (s:ByteArray) (i z:Int) (o:Oper) (st:St) (H:List Blk):Option Out:=match o.op with
 |.index t x y=>match P.underlying t,opd G st x,opd G st y with
  |some .string,some (.sc v),some (.sc (.int _ i'))=>some ⟨.sc (.int .u8 z),H,[.v v,.i i'],[.v (.string s),.i i]⟩
  |_,_,_=>none
 |_=>none
def Hnd.str {s:ByteArray} {i z:Int} (hz:sidx s i=some z):Hnd P G where
 run:=strR P G s i z
 sound:=by
  intro n0 o st H x hr he
  unfold strR at hr
  suffices hT:OpT P G n0 o st H x.p x.H from hT.weak
  split at hr
  rename_i t x y ho
  split at hr
  rename_i v k i' hu hx hy;cases hr
  simp at he
  obtain⟨rfl,rfl⟩:=he
  refine Waa λc a w β hn hr=>⟨.int .u8 z,?_,by simp  [VR]⟩
  have g1:=hr.opd hx;have g2:=hr.opd hy
  simp  [VR]at g1 g2
  unfold sidx at hz
  split at hz
  rename_i hi
  simp at hz
  have:=run_index_string (P:=P) w t s k i' hu;rw[dif_pos hi,hz]at this;simp[execOp,ho,g1,g2,this];cases hz;cases hr
  grind
def Zae7 (l:List Int):(l.map λn=>[PV.sc (.int .u8 n)]).flatten=(l.map (Value.int .u8)).map PV.sc:=by
 induction l with
 |nil=>rfl
 |cons n l ih=>grind
def Whs:=@run_convert_bytes_string
def OpT.toStr {l:List Int} {s d e:TypeId} {x:Operand} {q:PV} (ho:o.op=.convert s d x) (hs:P.underlying s=some (.slice e)) (hd:P.underlying d=some .string) (he':P.underlying e=some (.int .u8)) (hx:opd G st x=some q)
  (hsrc:Src H 1 q (l.map λn=>[PV.sc (.int .u8 n)])):OpT P G n0 o st H (.sc (.string (strOf l))) H:=by
 refine Waa λc a w β hn hr=>⟨.string (strOf l),?_,by simp  [VR]⟩
 rcases Z2m hr hsrc (hr.opd hx)with⟨h1,ad,cap,h2⟩|⟨b,off,cap,vals,h2,h3,h4,h5⟩
 have hl:=by simpa using h1
 subst hl;have h7:=Whs (P:=P) w s d e ad 0 cap hs he' hd;cases ad;simp[Conv.bytesToString]at h7;simp[execOp,ho,h2,h7,strOf];rename_i ad;rw[run_bytesToString (P:=P) w ad 0 cap [] (Wf3 (P:=P) w ad [] sM)]at h7;simp[execOp,ho,h2,h7,strOf];have hfl:=Zae7 l;rw[hfl]at h3;have hvals:=Wgv _ _ h3;subst hvals
 have hld:=by
  have:=Wf3 (P:=P) w ⟨b,off,none⟩ (l.map (Value.int .u8)) h5
  rwa [Wt]at this
 have h7:=run_bytesToString (P:=P) w ⟨b,off,none⟩ l.length cap l hld;rw[←Whs w s d e _ _ _ hs he' hd]at h7;simp[execOp,ho,h2,h7,strOf]
def Hnd.toStr (l:List Int):Hnd P G where
 run o st H:=match o.op with
  |.convert s d x=>match P.underlying s,P.underlying d,opd G st x with
   |some (.slice e),some .string,some q=>match P.underlying e,srcT H 1 q with
    |some (.int .u8),some (xs,l1,r1)=>some ⟨.sc (.string (strOf l)),H,.rs xs::l1,.rs (l.map λn=>[PV.sc (.int .u8 n)])::r1⟩
    |_,_=>none
   |_,_,_=>none
  |_=>none
 sound:=by
  intro n0 o st H x hr he
  suffices hT:OpT P G n0 o st H x.p x.H from hT.weak
  split at hr
  rename_i s d x ho
  split at hr
  rename_i e q hs hd hx
  split at hr
  rename_i xs l1 r1 he' hq;cases hr
  simp at he
  obtain⟨rfl,hl1⟩:=he;exact OpT.toStr ho hs hd he' hx (Zai1 hq hl1);cases hr;cases hr
  grind
end
section
variable {P:Program} {G:Glob} {n0 nt:Nat} {o:Oper} {st:St} {H:List Blk}
mutual
theorem OV.ren_same {f:Nat→Nat}:∀(o:OV),o.ids (λ_=>false)=true→o.ren f=o
 |.pv p,h=>by
  simp only[OV.ids]at h;have:=PV.rens_same (f:=f) (q:=λ_=>false) (λ_ hf=>by cases hf) [p] (by simp only[PV.idss,h,Bool.and_self]);simp only[PV.rens,List.cons.injEq,and_true]at this;simp only[OV.ren,this]
 |.own _ _ _ cs,h=>by
  simp only[OV.ids]at h;simp only[OV.ren,OV.rens_same cs h]
theorem OV.rens_same {f:Nat→Nat}:∀(os:List OV),OV.idss (λ_=>false) os=true→OV.rens f os=os
 |[],_=>by simp only[OV.rens]
 |o::os,h=>by
  simp only[OV.idss,Bool.and_eq_true]at h;simp only[OV.rens,OV.ren_same o h.1,OV.rens_same os h.2]
end
def Wgo:=@OV.rens_same
def closedH:List Blk→Prop
 |[]=>True
 |.cells cs::ks=>PV.idss (λ_=>false) cs=true∧closedH ks
 |.buf ..::ks=>closedH ks
 |.map ..::_=>False
 |.far _::_=>False
 |.fb ..::_=>False
 |.tr _ _ _ cs::ks=>OV.idss (λ_=>false) cs=true∧closedH ks
 |.dead::ks=>closedH ks
 |.fm _::ks=>closedH ks
 |.iter ..::_=>False
def closedH.n:closedH []:=trivial
def Wfi:=@closedH.n
def closedH.t {t s n:Nat} {cs:List OV} {ks:List Blk} (h:OV.idss (λ_=>false) cs=true) (hk:closedH ks):closedH (.tr t s n cs::ks):=⟨h,hk⟩
def Znt (f:Nat→Nat):∀ {H:List Blk},closedH H→H.map (Blk.ren f)=H
 |[],_=>rfl
 |.cells cs::ks,h=>by
  simp  [W0,Blk.ren,Wel (f:=f) (q:=λ_=>false) (λ_ hf=>gD) cs h.1,Znt f h.2]
 |.buf ..::ks,h=>by
  simp  [W0,Blk.ren,Znt f (H:=ks) h]
 |.map ..::_,h=>h.elim
 |.far _::_,h=>h.elim
 |.fb ..::_,h=>h.elim
 |.tr _ _ _ cs::ks,h=>by
  simp  [W0,Blk.ren,Wgo cs h.1,Znt f h.2]
 |.dead::ks,h=>by
  simp  [W0,Blk.ren,Znt f (H:=ks) h]
 |.fm _::ks,h=>by
  simp  [W0,Blk.ren,Znt f (H:=ks) h]
 |.iter ..::_,h=>h.elim
def Hnd.callC {f:FuncId} {fn:Func} {args0:List PV} {H0 H1:List Blk} {p1:PV} (hfn:P.funcs[f]? = some fn) (ws:List Ow) (h0:closedH H0) (h1:closedH H1) (hc:ACall P G f args0 H0 (λq K=>q=p1∧K=H1)):Hnd P G where
 run o st H:=match o.op with
  |.call cl=>match cl.callee with
   |.value x=>match opd G st x,opdL G st cl.args.toList with
    |some px,some ps=>match wkArgs P H false fn.params.toList ps ws with
     |some (qs,l,r)=>
      let σ:=ptrsOf ps
      if fn.body.isNone=false∧(fn.name== "runtime.NumGoroutine")=false∧σ.Pairwise (·<·)∧H0.all Blk.isCells=true then
       some ⟨p1.ren (renId σ H.length),setAll σ H1 H,.p px::.ps qs::.bs (H0.map some)::l,.p (.sc (.func (.func f) #[] #[]))::.ps (PV.rens (renId σ H.length) args0)::.bs (σ.map (H[·]?))::r⟩
      else none
     |_=>none
    |_,_=>none
   |_=>none
  |_=>none
 sound:=by
  intro n0 o st H x h he
  suffices hT:OpT P G n0 o st H x.p x.H from hT.weak
  split at h
  rename_i cl ho
  split at h
  rename_i x hcl
  split at h
  rename_i px ps hx hps
  split at h
  rename_i qs l r hw
  simp only  at h
  split at h
  rename_i hcond;obtain⟨c1,c2,c3,c4⟩:=hcond;cases h
  simp at he
  obtain⟨h1',h2,h3,h4⟩:=he;subst h1'
  refine Whz (caps:=[]) ho hcl (.inl ⟨hx,rfl⟩) hfn c1 c2 (Zkw _ _ hps) (by rw[Wam];exact Zrm _ _ _ _ hw h4) h2 c3 c4 ?_ hc rfl ?_
  rw[←h3];have:=congrArg (List.map some) (Znt (renId (ptrsOf ps) H.length) h0);rw[Wao]at this;exact this;rw[Znt _ h1];cases h;cases h;cases h;cases h;cases h
end
section
variable {P:Program} {G:Glob} {n0 nt:Nat} {o:Oper} {st:St} {H:List Blk}
variable {α:Type}
end
section
variable {P:Program} {G:Glob} {n0 nt:Nat} {o:Oper} {st:St} {H:List Blk}
def OpT.cat {t t':TypeId} {x y:Operand} {a b:ByteArray} (ho:o.op=.binOp .add t x y t') (hx:opd G st x=some (.sc (.string a))) (hy:opd G st y=some (.sc (.string b))) (h:a.size+b.size≤9223372036854775807):OpT P G n0 o st H (.sc (.string (a++b))) H:=
 Waa λc ac w β hn hr=>by
  have h1:=hr.opd hx;have h2:=hr.opd hy
  simp  [VR]at h1 h2
  exact⟨.string (a++b),by simp[execOp,ho,h1,h2,eqGuard,binOp,run_string_add_sum w a b h],by simp  [VR]⟩
def Hnd.cat {a b:ByteArray} (hb:a.size+b.size≤9223372036854775807):Hnd P G where
 run o st H:=match o.op with
  |.binOp .add _ x y _=>match opd G st x,opd G st y with
   |some (.sc (.string a')),some (.sc (.string b'))=>some ⟨.sc (.string (a++b)),H,[.p (.sc (.string a')),.p (.sc (.string b'))],[.p (.sc (.string a)),.p (.sc (.string b))]⟩
   |_,_=>none
  |_=>none
 sound:=by
  intro n0 o st H x h he
  suffices hT:OpT P G n0 o st H x.p x.H from hT.weak
  split at h
  rename_i t x y t' ho
  split at h
  rename_i a' b' hx hy;cases h;cases he;exact OpT.cat ho hx hy hb;cases h;cases h
def Hnd.toStrO (l:List Int):Hnd P G where
 run o st H:=match o.op with
  |.convert s d x=>match P.underlying s,P.underlying d,opd G st x with
   |some (.slice e),some .string,some (.own i m)=>match P.underlying e,H[i]? with
    |some (.int .u8),some (.buf s' _ xs _)=>some ⟨.sc (.string (strOf l)),H,[.rs xs,.n m,.n s'],[.rs (l.map λn=>[PV.sc (.int .u8 n)]),.n l.length,.n 1]⟩
    |_,_=>none
   |_,_,_=>none
  |_=>none
 sound:=by
  intro n0 o st H x hr he
  suffices hT:OpT P G n0 o st H x.p x.H from hT.weak
  split at hr
  rename_i s d x ho
  split at hr
  rename_i e i m hs hd hx
  split at hr
  rename_i s' t' xs sh he' hb;cases hr;cases he
  refine OpT.toStr ho hs hd he' hx ?_
  have:=Src.own (H:=H) i t' (l.map λn=>[PV.sc (.int .u8 n)]) sh hb;rw[Wt]at this;exact this;cases hr;cases hr
  grind
end
section
variable {P:Program} {G:Glob} {n0 nt:Nat} {o:Oper} {st:St} {H:List Blk} {c:Ctx} {β:List Bnd} {a:Act} {w:World}
end
section
variable {P:Program} {G:Glob} {α:Type}
end
section
variable {P:Program} {G:Glob} {n0 nt:Nat} {o:Oper} {st:St} {H:List Blk} {Q:Exit→St→List Blk→Prop}
def Z5g {c:Ctx} {β:List Bnd} {w:World} {i:Nat} {k k':Blk} (hk:H[i]? = some k) (hf:∀ e b hi,k'.free e b hi↔k.free e b hi):stab c β (H.set i k') w=stab c β H w:=by
 funext b hi
 simp  [stab]
 grind
def RelB.re {c:Ctx} {β:List Bnd} {a:Act} {w:World} (h:RelB G c β st H a w) {i:Nat} {k k':Blk} (hk:H[i]? = some k) (hf:∀ e b hi,k'.free e b hi↔k.free e b hi) (hat:∀ e,k'.at e=k.at e) (hin:k.isIn=true→k'.isIn=true)
  (hblk:∀ e,β[i]? = some e→BlkR (stab c β H w) β w c.w0.heap.size i e k→BlkR (stab c β H w) β w c.w0.heap.size i e k'):RelB G c β st (H.set i k') a w:=by
 have hs:=Z5g (c:=c) (β:=β) (w:=w) hk hf
 have hx:Ext (stab c β H w) w (stab c β (H.set i k') w) w:=by rw[hs];exact Wd3 _ _
 have key:∀(j:Nat) l,(H.set i k')[j]? = some l→∃ l',H[j]? = some l'∧∀ e,l'.at e=l.at e:=λj l hj=>by
  grind
 refine h.move hx (W3 _ _) (by simp[h.len]) h.pre (λj e l h1 h2=>?_) (λj j' f f' l l' b hij h1 h2 h3 h4 h5 h6=>?_) (λj f l b h0 h1 h2 h3=>?_) (λj hj=>?_) h.frm
 rw[hs]
 by_cases hji:j=i
 subst hji;rw[W6 (We.1 hk).1]at h2;cases h2;exact hblk e h1 (h.blk j e k h1 hk);rw[Wbd (Wcb hji)]at h2;exact h.blk j e l h1 h2;obtain⟨l1,g1,g2⟩:=key j l h2;obtain⟨l2,g3,g4⟩:=key j' l' h4;exact h.inj j j' f f' l1 l2 b hij h1 g1 h3 g3 sA sA;obtain⟨l1,g1,g2⟩:=key j l h2;exact h.loc j f l1 b h0 h1 g1 sA;obtain⟨l,hc,hcf⟩:=h.cel j hj
 grind
section typed
variable {K V:Type} {kv:K→Value} {vv:V→Value} {eqk:K→K→Bool} {kt:TypeId}
def entT (kv:K→Value) (vv:V→Value) (x:Nat×K×V):Nat×Value×PV:=(x.1,kv x.2.1,.sc (vv x.2.2))
def entF (kv:K→Value) (vv:V→Value) (x:K×V):Value×Value:=(kv x.1,vv x.2)
structure FmOk (kv:K→Value) (E:List (Nat×K×V)) (cl:Nat) (L:List (K×V)):Prop where
 lt:∀ x∈E,x.1<cl
 nd:(E.map (·.1)).Nodup
 perm:(E.map (·.2)).Perm L
 keys:(L.map λx=>kv x.1).Nodup
def Zabc {α γ:Type} (f:α→γ) {l m:List γ} (h:l.Perm m):∀ L ,m=L.map f→∃ L':List α,L'.Perm L∧l=L'.map f:=by
 induction h with
 |nil=>simp_all
 |cons x h ih=>
  intro L hL;cases L
  simp at hL
  rename_i y L
  simp at hL
  obtain⟨L',h1,h2⟩:=ih L hL.2;exact⟨y::L',h1.cons y,gD⟩
 |swap x y l=>
  intro L hL
  match L,hL with
  |a::b::L,hL=>
   exact⟨b::a::L,.swap a b L,gD⟩
 |trans _ _ ih1 ih2=>
  intro L hL;obtain⟨L1,h1,h2⟩:=ih2 L hL;obtain⟨L2,h3,h4⟩:=ih1 L1 h2;exact⟨L2,h3.trans h1,h4⟩
def Zaea:∀(ms:List MapEntry) L,ms.map (λx=>(x.key,x.val))=L.map (entF kv vv)→∃ E:List (Nat×K×V),E.map (·.1)=ms.map (·.born)∧E.map (·.2)=L ∧
  ms.map (λx=>(x.born,x.key))=(E.map (entT kv vv)).map (λx=>(x.1,x.2.1))∧∀ S β w,VRs S β w ((E.map (entT kv vv)).map (·.2.2)) (ms.map (·.val))
 |[],[],_=>⟨[],rfl,rfl,rfl,λ_ _ _=>by simp  [Wbu,VRs]⟩
 |[],_::_,h=>gD
 |_::_,[],h=>gD
 |a::ms,x::L,h=>by
  simp at h
  obtain⟨E,h1,h2,h3,h4⟩:=Zaea ms L h.2;have h5:=h.1
  simp  [entF,Wa1]at h5
  refine⟨(a.born,x)::E,gD,gD,?_,λS β w=>?_⟩
  rw[W0,h3,h5.1];rfl;exact⟨h5.2,h4 S β w⟩
def Z9k:∀(ms:List MapEntry) (E:List (Nat×K×V)) S β w,ms.map (λx=>(x.born,x.key))=(E.map (entT kv vv)).map (λx=>(x.1,x.2.1))→VRs S β w ((E.map (entT kv vv)).map (·.2.2)) (ms.map (·.val)) →
  ms.map (·.born)=E.map (·.1)∧ms.map (λx=>(x.key,x.val))=(E.map (·.2)).map (entF kv vv)
 |[],[],_,_,_,_,_=>⟨rfl,rfl⟩
 |[],_::_,_,_,_,h,_=>gD
 |_::_,[],_,_,_,h,_=>gD
 |a::ms,x::E,S,β,w,h,hv=>by
  simp only[W0,Wai,Wa1]at h;obtain⟨h1,h2⟩:=Z9k ms E S β w h.2 hv.2;have h3:=hv.1
  simp at h3
  exact⟨by rw[W0,h1,h.1.1];rfl,by rw[W0,W0,W0,h2,h.1.2,h3];rfl⟩
def RelB.openM {c:Ctx} {β:List Bnd} {a:Act} {w:World} (h:RelB G c β st H a w) {i:Nat} {L:List (K×V)} (hb:H[i]? = some (.fm (L.map (entF kv vv)))) :
  ∃ E cl,FmOk kv E cl L∧RelB G c β st (H.set i (.map (E.map (entT kv vv)) cl)) a w:=by
 have hbl:i<β.length:=by rw[h.len];grind
 obtain⟨arr,cl,h1,h2,h3,h4,h5⟩:=h.blk i β[i] _ gD hb;obtain⟨L',h6,h7⟩:=Zabc _ h4 L rfl;obtain⟨E,g1,g2,g3,g4⟩:=Zaea _ _ h7
 refine⟨E,cl,⟨λx hx=>?_,gD,gD,?_⟩,h.re hb (λ_ _ _=>Wcl) (λ_=>rfl) (λ_=>rfl) λe he _=>?_⟩
 have:x.1∈arr.toList.map (·.born):=gD
 obtain⟨m,hm,hmb⟩:=W9.1 this;rw[←hmb];exact h2 m hm;rw[Wao]at h5;exact h5
 have:e=β[i]:=gD
 subst this;exact⟨arr,h1,g3,g4 _ _ _⟩
def RelB.closeM {c:Ctx} {β:List Bnd} {a:Act} {w:World} (h:RelB G c β st H a w) {i:Nat} {E:List (Nat×K×V)} {cl:Nat} {L:List (K×V)} (hb:H[i]? = some (.map (E.map (entT kv vv)) cl)) (hE:FmOk kv E cl L) :
  RelB G c β st (H.set i (.fm (L.map (entF kv vv)))) a w:=
 h.re hb (λ_ _ _=>Wcl) (λ_=>rfl) (λ_=>rfl) λe _ hbk=>by
  obtain⟨arr,h1,h2,h3⟩:=hbk;obtain⟨g1,g2⟩:=Z9k _ _ _ _ _ h2 h3
  refine⟨arr,cl,h1,λx hx=>?_,by rw[g1];exact hE.nd,by rw[g2];exact hE.perm.map _,by rw[Wao];exact hE.keys⟩
  have:x.born∈E.map (·.1):=gD
  obtain⟨y,hy,hyb⟩:=W9.1 this;rw[←hyb];exact hE.lt y hy
def OpW.fm {i:Nat} {L L':List (K×V)} {p:PV} (hb:H[i]? = some (.fm (L.map (entF kv vv))))
  (h:∀ E cl,FmOk kv E cl L→∃ E' cl',FmOk kv E' cl' L'∧OpW P G n0 o st (H.set i (.map (E.map (entT kv vv)) cl)) p (H.set i (.map (E'.map (entT kv vv)) cl'))):OpW P G n0 o st H p (H.set i (.fm (L'.map (entF kv vv)))):=by
 intro c a w β h0 hr;have hil:=(We.1 hb).1;obtain⟨E,cl,hE,hr1⟩:=hr.openM hb;obtain⟨E',cl',hE',hop⟩:=h E cl hE
 refine Zh4 (hop c a w β h0 hr1) λv w' ⟨β',h1,h2⟩=>⟨β',?_,?_⟩
 have:=h1.closeM (i:=i) (W6 hil) hE'
 rwa [Wdh]at this
 have hs:=Z5g (c:=c) (β:=β') (w:=w') (i:=i) (k':=.fm (L'.map (entF kv vv))) (W6 hil:(H.set i (.map (E'.map (entT kv vv)) cl'))[i]? = _) (λ_ _ _=>Wcl);simp_all
structure KeyOk (P:Program) (kt:TypeId) (kv:K→Value) (eqk:K→K→Bool):Prop where
 chk:∀ a,chkK P 20 kt (kv a)=true
 cmp:∀ a b,flatEq P 50 kt (kv a) (kv b)=some (eqk a b)
 now:∃ kind,P.underlying kt=some kind∧((∀ a b,Instr.sameNow kind (kv a) (kv b)=none)∨∀ a b,Instr.sameNow kind (kv a) (kv b)=some (eqk a b))
 bits:∀ a,Instr.sameBits 10000 (kv a) (kv a)=true
 eq:∀ a b,eqk a b=true↔a=b
def KeyOk.inj (h:KeyOk P kt kv eqk) {a b:K} (hab:kv a=kv b):a=b:=by
 have h1:=h.cmp a a;rw[(h.eq a a).2 rfl]at h1;have h2:=h.cmp a b;rw[←hab,h1,Wn]at h2;exact(h.eq a b).1 h2.symm
def Wf7:=@List.findIdx?_cons
def Z4w {kind:TypeDesc} (hn:∀ a b,Instr.sameNow kind (kv a) (kv b)=some (eqk a b)) (a:K):∀(ks:List K) i,findN kind (kv a) (ks.map kv) i=some ((ks.findIdx? (eqk a)).map (·+i))
 |[],i=>rfl
 |k::ks,i=>by
  rw[W0,findN,hn,Wf7]
  cases eqk a k with
  |true=>simp
  |false=>
   simp  [Z4w hn a ks (i+1),Wy,if_false,Option.map_map]
   congr 2
   grind
def Z4x (hc:∀ a b,flatEq P 50 kt (kv a) (kv b)=some (eqk a b)) (a:K):∀(ks:List K) i,findA P kt (kv a) (ks.map kv) i=some ((ks.findIdx? (eqk a)).map (·+i))
 |[],i=>rfl
 |k::ks,i=>by
  rw[W0,findA,hc,Wf7]
  cases eqk a k with
  |true=>simp
  |false=>
   simp  [Z4x hc a ks (i+1),Wy,if_false,Option.map_map]
   congr 2
   grind
def Z4y (h:KeyOk P kt kv eqk) (a:K) (ks:List K):findx P kt (kv a) (ks.map kv)=some (ks.findIdx? (eqk a)):=by
 obtain⟨kind,h1,h2⟩:=h.now;unfold findx;rw[h1]
 rcases h2 with h2|h2
 cases ks;rfl;rename_i k ks
 have:findN kind (kv a) ((k::ks).map kv) 0=none:=by rw[W0,findN,h2]
 have h3:=Z4x h.cmp a (k::ks) 0;simp_all;simp[Z4w h2 a ks 0]
def mget (eqk:K→K→Bool) (L:List (K×V)) (a:K):Option V:=(L.find? λx=>eqk a x.1).map (·.2)
def mput (eqk:K→K→Bool) (L:List (K×V)) (a:K) (v:V):List (K×V):=if L.any (λx=>eqk a x.1)then L.map (λx=>if eqk a x.1 then(a,v)else x)else L++[(a,v)]
def Zage {p:K×V→Bool} {L L':List (K×V)} (hp:L.Perm L') (hu:∀ x∈L,∀ y∈L,p x=true→p y=true→x=y):L.find? p=L'.find? p:=by
 cases h:L.find? p
 grind
 cases h':L'.find? p
 grind
 grind
def Zagf (h:KeyOk P kt kv eqk) {L:List (K×V)} (hk:(L.map λx=>kv x.1).Nodup) (a:K):∀ x∈L,∀ y∈L,eqk a x.1=true→eqk a y.1=true→x=y:=by
 intro x hx y hy h1 h2;have e1:=(h.eq _ _).1 h1;have e2:=(h.eq _ _).1 h2;obtain⟨i,hi⟩:=Wa5.1 hx;obtain⟨j,hj⟩:=Wa5.1 hy
 have hij:i=j:=by
  refine(Wgg gD hk).1 ?_
  grind
 grind
def Zagg (h:KeyOk P kt kv eqk) {L L':List (K×V)} (hp:L.Perm L') (hk:(L.map λx=>kv x.1).Nodup) (a:K):mget eqk L a=mget eqk L' a:=by
 unfold mget;rw[Zage hp (Zagf h hk a)]
def FmOk.keysE {E:List (Nat×K×V)} {cl:Nat} {L:List (K×V)} (h:FmOk kv E cl L):((E.map (·.2)).map λx=>kv x.1).Nodup:=(h.perm.map _).nodup_iff.2 h.keys
def Z2p (a:K):∀(E:List (Nat×K×V)),match(E.map (·.2.1)).findIdx? (eqk a)with
  |some j=>∃ x,E[j]? = some x∧eqk a x.2.1=true∧mget eqk (E.map (·.2)) a=some x.2.2
  |none=>mget eqk (E.map (·.2)) a=none∧∀ x∈E,eqk a x.2.1=false
 |[]=>⟨rfl,sM⟩
 |x::E=>by
  have ih:=Z2p a E;rw[W0,Wf7]
  cases hx:eqk a x.2.1 with
  |true=>exact⟨x,rfl,hx,by simp[mget,hx]⟩
  |false=>
   cases hj:(E.map (·.2.1)).findIdx? (eqk a);rw[hj]at ih
   refine⟨?_,λy hy=>?_⟩
   have:=ih.1
   simpa [mget,hx]using this
   grind
   rw[hj]at ih;obtain⟨y,h1,h2,h3⟩:=ih
   refine⟨y,gD,h2,?_⟩
   simpa [mget,hx]using h3
def Wbs:=@List.map_congr_left
def Z9l (h:KeyOk P kt kv eqk) (a:K) (v:V):∀(E:List (Nat×K×V)) j x,((E.map (·.2)).map λx=>kv x.1).Nodup→E[j]? = some x→eqk a x.2.1=true→E.set j (x.1,a,v)=E.map (λy=>if eqk a y.2.1 then(y.1,a,v)else y)
 |[],j,x,_,hj,_=>gD
 |y::E,0,x,hn,hj,hx=>by
  cases hj
  simp at hn
  rw[List.set_cons_zero,W0,if_pos hx]
  congr 1
  have hid:=(List.map_id' E).symm
  conv=>lhs;rw[hid]
  refine Wbs λz hz=>?_
  rw[if_neg];intro hz';have e1:=(h.eq _ _).1 hz';have e2:=(h.eq _ _).1 hx
  grind
 |y::E,j+1,x,hn,hj,hx=>by
  simp only[W0,Wfa]at hn;rw[Wdn,W0,Z9l h a v E j x hn.2 hj hx,if_neg];intro hy;have e1:=(h.eq _ _).1 hy;have e2:=(h.eq _ _).1 hx
  grind
def Z6p (E:List (Nat×K×V)):(E.map (entT kv vv)).map (·.2.1)=(E.map (·.2.1)).map kv:=by
 rw[Wao,Wao];rfl
def Zac6 (h:KeyOk P kt kv eqk) {e:TypeId} {E:List (Nat×K×V)} {cl:Nat} {L:List (K×V)} (hE:FmOk kv E cl L) (ok:Bool) (a:K) {zv:V} (hz:zeroP P e=some (.sc (vv zv))) :
  lookx P kt e ok (kv a) (E.map (entT kv vv))=some (lres ok (.sc (vv ((mget eqk L a).getD zv))) (mget eqk L a).isSome):=by
 unfold lookx;rw[h.chk,Z6p,Z4y h];have hi:=Z2p (eqk:=eqk) a E;have hm:=Zagg h hE.perm hE.keysE a;cases hj:(E.map (·.2.1)).findIdx? (eqk a)
 grind
 rw[hj]at hi;obtain⟨x,h1,_,h3⟩:=hi;simp only[gx_eq];rw[Wba,h1,←hm,h3];rfl
def Wb2:=@List.nodup_append
def Wgq:=@List.any_eq_true
def Zae8 (h:KeyOk P kt kv eqk) {L:List (K×V)} (hk:(L.map λx=>kv x.1).Nodup) (a:K) (v:V):((mput eqk L a v).map λx=>kv x.1).Nodup:=by
 unfold mput;split
 have:(L.map (λx=>if eqk a x.1 then(a,v)else x)).map (λx=>kv x.1)=L.map λx=>kv x.1:=by
  rw[Wao]
  refine Wbs λx _=>?_
  simp;split;rename_i hx;rw[(h.eq _ _).1 hx];rfl
 rw[this];exact hk;rename_i hn;rw[Wat,Wb2]
 refine⟨hk,sM,λx hx y hy=>?_⟩
 simp at hy
 subst hy;obtain⟨z,hz,rfl⟩:=W9.1 hx;intro e;exact hn (Wgq.2 ⟨z,hz,(h.eq _ _).2 (h.inj e).symm⟩)
def Zagh {L L':List (K×V)} (hp:L.Perm L') (a:K) (v:V):(mput eqk L a v).Perm (mput eqk L' a v):=by
 unfold mput
 have:L.any (λx=>eqk a x.1)=L'.any (λx=>eqk a x.1):=by
  grind
 rw[this];split;exact hp.map _;exact hp.append_right _
def Zae9 (h:KeyOk P kt kv eqk) {E:List (Nat×K×V)} {cl:Nat} {L:List (K×V)} (hE:FmOk kv E cl L) (a:K) (v:V) :
  ∃ E' cl',putx P kt (kv a) (.sc (vv v)) (E.map (entT kv vv)) cl=some (E'.map (entT kv vv),cl')∧FmOk kv E' cl' (mput eqk L a v):=by
 unfold putx;rw[h.chk,Z6p,Z4y h];have hi:=Z2p (eqk:=eqk) a E;have hnd:=Zae8 h hE.keys a v;have hpp:=Zagh (eqk:=eqk) hE.perm a v;cases hj:(E.map (·.2.1)).findIdx? (eqk a);rw[hj]at hi
 refine⟨E++[(cl,a,v)],cl+1,by simp;rfl,⟨λx hx=>?_,?_,?_,hnd⟩⟩
 rcases Wj.1 hx with hx|hx
 have:=hE.lt x hx;omega;rw[Wl.1 hx];simp;rw[Wat,Wb2]
 refine⟨hE.nd,sM,λx hx y hy=>?_⟩
 simp at hy
 obtain⟨z,hz,rfl⟩:=W9.1 hx;have:=hE.lt z hz;omega
 refine List.Perm.trans ?_ hpp
 rw[Wat];unfold mput;rw[if_neg];exact List.Perm.refl _
 grind
 rename_i j;rw[hj]at hi;obtain⟨x,h1,h2,_⟩:=hi
 refine⟨E.set j (x.1,a,v),cl,?_,?_⟩
 simp only[gx_eq];rw[Wba,h1];simp only[Wck];rw[show(entT kv vv x).2.1=kv a by rw[(h.eq _ _).1 h2];rfl,h.bits,Wdz];rfl;rw[Z9l h a v E j x hE.keysE h1 h2]
 refine⟨λy hy=>?_,?_,?_,hnd⟩
 obtain⟨z,hz,rfl⟩:=W9.1 hy;have:=hE.lt z hz;split<;>exact this
 have:(E.map (λy=>if eqk a y.2.1 then(y.1,a,v)else y)).map (·.1)=E.map (·.1):=by
  rw[Wao]
  refine Wbs λy _=>?_
  grind
 rw[this];exact hE.nd
 refine List.Perm.trans ?_ hpp
 unfold mput;rw[if_pos gD,Wao,Wao]
 refine List.Perm.of_eq (Wbs λy _=>?_)
 grind
end typed
end
section
variable {P:Program} {G:Glob} {n0 nt:Nat} {o:Oper} {st:St} {H:List Blk} {Q:Exit→St→List Blk→Prop}
variable {K V:Type} {kv:K→Value} {vv:V→Value} {eqk:K→K→Bool} {kt:TypeId}
def OpW.re {p:PV} {H1:List Blk} {i:Nat} {k k':Blk} (h:OpW P G n0 o st H p H1) (hk:H1[i]? = some k) (hf:∀ e b hi,k'.free e b hi↔k.free e b hi) (hat:∀ e,k'.at e=k.at e) (hin:k.isIn=true→k'.isIn=true)
  (hblk:∀ S β w base e,BlkR S β w base i e k→BlkR S β w base i e k'):OpW P G n0 o st H p (H1.set i k'):=λc a w β h0 hr=>
 Zh4 (h c a w β h0 hr) λv w' ⟨β',h1,h2⟩=>⟨β',h1.re hk hf hat hin λe _=>hblk _ _ _ _ e,by rw[Z5g hk hf];omega⟩
def Hnd.mkM:Hnd P G where
 run o _ H:=match o.op with
  |.makeMap _ none=>some ⟨.mp H.length,H++[.fm []],[],[]⟩
  |_=>none
 sound:=by
  intro n0 o st H x hr _
  split at hr
  rename_i t ho;cases hr
  have h:=(OpT.makeMap (P:=P) (G:=G) (n0:=n0) (st:=st) (H:=H) ho).weak.re (i:=H.length) (k:=.map [] 0) (k':=.fm []) sM (λ_ _ _=>Wcl) (λ_=>rfl) (λ_=>rfl) (λS β w base e hb=>by
   obtain⟨arr,h1,h2,_⟩:=hb
   have ha:=by simpa using h2
   exact⟨arr,0,h1,gD,gD,sA,sM⟩)
  have e:(H++[Blk.map [] 0]).set H.length (.fm [])=H++[.fm []]:=by
   grind
  rw[e]at h;exact h
  grind
def Hnd.lookM (hK:KeyOk P kt kv eqk) (vv:V→Value) (zv:V) (L:List (K×V)) (a:K):Hnd P G where
 run o st H:=match o.op with
  |.lookup t x y ok=>match P.underlying t,opd G st x,opd G st y with
   |some (.map k e),some (.mp i),some (.sc key)=>match H[i]?,zeroP P e with
    |some (.fm l),some (.sc z)=>if Nat.beq k kt then some ⟨lres ok (.sc (vv ((mget eqk L a).getD zv))) (mget eqk L a).isSome,H,[.kvs l,.v key,.v z],[.kvs (L.map (entF kv vv)),.v (kv a),.v (vv zv)]⟩else none
    |_,_=>none
   |_,_,_=>none
  |_=>none
 sound:=by
  intro n0 o st H x hr he
  split at hr
  rename_i t x y ok ho
  split at hr
  rename_i k e i key hu hx hy
  split at hr
  rename_i l z hb hz
  split at hr
  rename_i hk;have hk:=Wd hk;subst hk;cases hr;cases he;have hil:=(We.1 hb).1
  have key:=OpW.fm (P:=P) (G:=G) (n0:=n0) (o:=o) (st:=st) (H:=H) (i:=i) (L:=L) (L':=L) (p:=lres ok (.sc (vv ((mget eqk L a).getD zv))) (mget eqk L a).isSome) hb λE cl hE=>
   ⟨E,cl,hE,(OpT.lookup ho hu hx hy (W6 hil) (Zac6 hK hE ok a hz)).weak⟩
  have e:H.set i (.fm (L.map (entF kv vv)))=H:=by
   apply Wb1
   grind
  rwa [e]at key
  cases hr;cases hr;cases hr
  grind
def Hnd.putM (hK:KeyOk P kt kv eqk) (vv:V→Value) (L:List (K×V)) (a:K) (v:V):Hnd P G where
 run o st H:=match o.op with
  |.mapUpdate t x y z=>match P.underlying t,opd G st x,opd G st y,opd G st z with
   |some (.map k _),some (.mp i),some (.sc key),some p=>match H[i]? with
    |some (.fm l)=>if Nat.beq k kt then some ⟨.sc undef,H.set i (.fm ((mput eqk L a v).map (entF kv vv))),[.kvs l,.v key,.p p],[.kvs (L.map (entF kv vv)),.v (kv a),.p (.sc (vv v))]⟩else none
    |_=>none
   |_,_,_,_=>none
  |_=>none
 sound:=by
  intro n0 o st H x hr he
  split at hr
  rename_i t x y z ho
  split at hr
  rename_i k e i key p hu hx hy hz
  split at hr
  rename_i l hb
  split at hr
  rename_i hk;have hk:=Wd hk;subst hk;cases hr;cases he;have hil:=(We.1 hb).1
  refine OpW.fm hb λE cl hE=>?_
  obtain⟨E',cl',h1,h2⟩:=Zae9 (vv:=vv) hK hE a v
  refine⟨E',cl',h2,?_⟩
  have:=(Wh7 (n0:=n0) (.inl ho) hu hx hy hz (W6 hil) h1).weak
  rwa [Wdh]at this
  cases hr;cases hr;cases hr
  grind
def Zabd (st:St) (k:Nat) (p:PV):(st.put k p).get k=some p:=by simp[St.put,St.get]
def Zst {α:Type} {j k:Nat} (h:j≠k):∀ l:List (Nat×α),(l.filter λx=>x.1 !=k).lookup j=l.lookup j
 |[]=>rfl
 |x::l=>by
  rw[Wb6]
  by_cases hx:x.1=k
  have hj:(j==x.1)=false:=gD
  have e:(x.1 !=k)=false:=gD
  rw[e];simp  [Wy,if_false,Zst h l,List.lookup,hj]
  have e:(x.1 !=k)=true:=gD
  rw[e];simp  [if_true,List.lookup]
  cases j==x.1 with
  |true=>rfl
  |false=>exact Zst h l
def Z6q (st:St) {j k:Nat} (p:PV) (h:j≠k):(st.put k p).get j=st.get j:=by
 have e:(j==k)=false:=gD
 simp  [St.put,St.get,List.lookup,e];exact Zst h st
end
section
variable {P:Program} {G:Glob} {n0 nt:Nat} {o:Oper} {st:St} {H:List Blk} {Q:Exit→St→List Blk→Prop}
variable {K V:Type} {kv:K→Value} {vv:V→Value} {eqk:K→K→Bool} {kt:TypeId}
open Classical in
def Hnd.ptrNil:Hnd P G where
 run o st H:=match o.op with
  |.binOp op t x y _=>match P.underlying t,opd G st x,opd G st y with
   |some (.pointer _),some (.ptr _ _),some (.sc (.pointer none))=>match op with
    |.eql=>some ⟨.sc (.bool false),H,[],[]⟩
    |.neq=>some ⟨.sc (.bool true),H,[],[]⟩
    |_=>none
   |_,_,_=>none
  |_=>none
 sound:=by
  intro n0 o st H z hr _
  split at hr
  rename_i op t x y t' ho
  split at hr
  rename_i e i off hu hx hy
  cases op with
  |eql=>cases hr;exact(OpT.ptrNil ho hu hx trivial hy).weak
  |neq=>cases hr;exact(OpT.ptrNotNil ho hu hx trivial hy).weak
  |_=>grind
  cases hr
  grind
def isStr (P:Program) (t:TypeId):Bool:=match P.underlying t with
 |some (.struct _)=>true
 |_=>false
def Value.prim:Value→Bool
 |.bool _=>true
 |.int _ _=>true
 |_=>false
def Zaae {v:Value} (h:Value.prim v=true) (n:Nat):Instr.sameBits n v v=true:=by
 unfold Value.prim at h
 split at h
 simp[Instr.sameBits];simp[Instr.sameBits];cases h
def Wf6:=@Bool.and_self
def Zy3 (n:Nat):∀(l:List Value),l.all Value.prim=true→(l.zip l).all (λx=>Instr.sameBits n x.1 x.2)=true
 |[],_=>rfl
 |v::l,h=>by
  simp only[Wd4,Wh]at h;simp  [List.zip_cons_cons,Wd4,Zaae h.1 n,Zy3 n l h.2,Wf6]
def Zabe {l:List Value} (h:l.all Value.prim=true):Instr.sameBits 10000 (.agg ⟨l⟩) (.agg ⟨l⟩)=true:=by
 simp only[Instr.sameBits,beq_self_eq_true];exact Zy3 9999 l h
def KeyOk.struct {vs:K→List Value} (h:isStr P kt=true) (chk:∀ a,chkK P 20 kt (.agg ⟨vs a⟩)=true) (cmp:∀ a b,flatEq P 50 kt (.agg ⟨vs a⟩) (.agg ⟨vs b⟩)=some (eqk a b)) (hp:∀ a,(vs a).all Value.prim=true) (eq:∀ a b,eqk a b=true↔a=b):KeyOk P kt (λa=>.agg ⟨vs a⟩) eqk:=by
 refine⟨chk,cmp,?_,λa=>Zabe (hp a),eq⟩
 unfold isStr at h
 split at h
 rename_i fs hf;exact⟨_,hf,.inl λ_ _=>rfl⟩;cases h
variable {α:Type}
def Hnd.stSh (row:α→List PV) (l:List α):Hnd P G where
 run o st H:=match o.op with
  |.store t x y=>match opd G st x,opd G st y with
   |some (.ptr i off),some (.own j n)=>match H[i]?,H[j]? with
    |some (.cells cs),some (.buf s _ xs true)=>
     let cs':=cs.take off++[.sl s (l.map row)]++cs.drop (off+1)
     if Nat.beq (P.cellsOf t) 1&&(P.info? t).isSome&&Nat.ble (off+1) cs.length&&PV.idss (λj=>decide (j<i)) cs' then some ⟨.sc undef,H.set i (.cells cs'),[.n n,.rs xs],[.n l.length,.rs (l.map row)]⟩else none
    |_,_=>none
   |_,_=>none
  |_=>none
 sound:=by
  intro n0 o st H z hr he
  split at hr
  rename_i t x y ho
  split at hr
  rename_i i off j n hx hy
  split at hr
  rename_i cs s ty xs hc hb;simp only[]at hr
  split at hr
  rename_i hcc;simp only[Wh]at hcc;obtain⟨⟨⟨c1,c2⟩,c3⟩,c4⟩:=hcc;cases hr;cases he;intro c a w β h0 hr;have hv:=hr.opd hy;have hw:Wk H false (.own j l.length) (.sl s (l.map row)):=Wk.ownT hb (.inr rfl);have hv':=hr.wk hv hw;have g1:=hr.opd hx;obtain⟨e,h2,h3⟩:=g1;obtain⟨h4,vs,ty',h5,h6⟩:=hr.blk i e _ h2 hc;have c1:=Wd c1;have c3:=W2 c3;have h1:=VR.one (p:=.sl s (l.map row)) rfl hv';have hcy:=Zti h1;have hlv:=Wav _ _ h6;have hrun:=Zft P e.b off ty' (a.eval y).cells.toList 0 vs w h5 gD gD;obtain⟨ti,hti⟩:=Was.1 c2
  have hsz:(sizeOf t).run P w=.ok (a.eval y).cells.size w:=by
   rw[Wcj w hti]
   grind
  have hex:(execOp a.eval o).run P w=.ok .skip (w.setRow e.b (vs.toList.take (off+0)++(a.eval y).cells.toList++vs.toList.drop (off+0+(a.eval y).cells.toList.length)).toArray):=by
   simp only[execOp,Instr.storeAt,Instr.sureAddr,storeVar];simp_all
  simp only[wpv,hex]
  have g2:VRs (stab c β H w) β w [.sl s (l.map row)] (a.eval y).cells.toList:=by
   rw[hcy];simp only[VRs,and_true];omega
  have hlu:=Wav _ _ g2;have hwr:=hr.write h2 hc (us:=(vs.toList.take (off+0)++(a.eval y).cells.toList++vs.toList.drop (off+0+(a.eval y).cells.toList.length)).toArray) (cs':=cs.take off++[.sl s (l.map row)]++cs.drop (off+1)) ?_ c4 gD;exact⟨β,hwr.1,by simp only[VR]⟩;rw[hlu];exact VRs.append _ _ _ _ (VRs.append _ _ _ _ (Wdj _ _ _ h6) g2) (Wdk _ _ _ h6);cases hr;cases hr;cases hr
  grind
end
section
variable {P:Program} {G:Glob} {α:Type}
def Hnd.stShA (row:α→List PV) (l:List α):Hnd P G where
 run o st H:=match o.op with
  |.store _ _ y=>match opd G st y with
   |some (.own j _)=>match H[j]? with
    |some (.buf s ty xs _)=>(Hnd.stSh (P:=P) (G:=G) row l).run o st (H.set j (.buf s ty xs true))
    |_=>none
   |_=>none
  |_=>none
 sound:=by
  intro n0 o st H z hr he
  split at hr
  split at hr
  split at hr
  rename_i hb;intro c a w β h0 hrl;exact(Hnd.stSh (P:=P) (G:=G) row l).sound hr he c a w β h0 (hrl.share hb);cases hr;cases hr
  grind
variable {n0 nt:Nat} {st:St} {H:List Blk} {Q:Exit→St→List Blk→Prop}
end
def BExt.trans {β β1 β2:List Bnd} (h:BExt (λ_=>true) β β1) (k:BExt (λ_=>true) β1 β2):BExt (λ_=>true) β β2:=λi e _ he=>by
 obtain⟨e1,a1,a2,a3,a4,a5⟩:=h i e rfl he;obtain⟨e2,b1,b2,b3,b4,b5⟩:=k i e1 rfl a1
 grind
def Wd6:=@BExt.trans
section
variable {S:Nat→Nat→Prop} {β:List Bnd} {w:World} {base:Nat}
def OVRs.app:∀ os1 os2 us1 us2 b1 b2,OVRs S β w base os1 us1 b1→OVRs S β w base os2 us2 b2→OVRs S β w base (os1++os2) (us1++us2) (b1++b2)
 |[],_,[],_,_,_,h,k=>by cases h;exact k
 |o::os1,os2,u::us1,us2,b1,b2,h,k=>by
  obtain⟨d1,d2,h1,h2,rfl⟩:=h;exact⟨d1,d2++b2,h1,OVRs.app os1 os2 us1 us2 d2 b2 h2 k,gD⟩
 |[],_,_::_,_,_,_,h,_=>by simp  [OVRs]at h
 |_::_,_,[],_,_,_,h,_=>by simp  [OVRs]at h
def Wfl:=@OVRs.app
def OVRs.split:∀ os1 os2 us bs,OVRs S β w base (os1++os2) us bs→∃ us1 us2 b1 b2,us=us1++us2∧bs=b1++b2∧OVRs S β w base os1 us1 b1∧OVRs S β w base os2 us2 b2
 |[],os2,us,bs,h=>⟨[],us,[],bs,rfl,rfl,by simp  [OVRs],h⟩
 |o::os1,os2,u::us,bs,h=>by
  obtain⟨d1,d2,h1,h2,rfl⟩:=h;obtain⟨us1,us2,e1,e2,rfl,rfl,h3,h4⟩:=OVRs.split os1 os2 us d2 h2;exact⟨u::us1,us2,d1++e1,e2,rfl,gD,by simp  [OVRs];grind,h4⟩
 |_::_,_,[],_,h=>by simp  [Wdc,OVRs]at h
def Wd7:=@OVRs.split
def OVRs.pvs:∀ ps us,VRs S β w ps us→OVRs S β w base (ps.map .pv) us []
 |[],[],_=>by simp  [Wbu,OVRs]
 |p::ps,u::us,h=>⟨[],[],⟨h.1,rfl⟩,OVRs.pvs ps us h.2,rfl⟩
 |[],_::_,h=>by simp  [VRs]at h
 |_::_,[],h=>by simp  [VRs]at h
def Wh9:=@OVRs.pvs
def OVRs.len:∀ os us bs,OVRs S β w base os us bs→os.length=us.length
 |[],[],_,_=>rfl
 |o::os,u::us,bs,h=>by
  obtain⟨_,b2,_,h2,_⟩:=h;simp  [Wak,OVRs.len os us b2 h2]
 |[],_::_,_,h=>by simp  [OVRs]at h
 |_::_,[],_,h=>by simp  [OVRs]at h
def Wf8:=@OVRs.len
end
def Zai3 {α:Type} (l1 l2:List α) (x y:α):(l1++x::l2).set l1.length y=l1++y::l2:=by
 simp
def Zz6 {α:Type} {l:List α} {q:Nat} {x:α} (h:l[q]? = some x):∃ l1 l2,l=l1++x::l2∧l1.length=q:=by
 obtain⟨hq,rfl⟩:=We.1 h
 refine⟨l.take q,l.drop (q+1),?_,gD⟩
 simp_all
mutual
def FZ:OV→PV→Prop
 |.pv p,q=>q=p∧p.ids (λ_=>false)=true
 |.own _ s n cs,q=>∃ xs:List (List PV),q=.sl s xs∧xs.length=n∧(∀ x∈xs,x.length=s)∧FZs cs xs.flatten
def FZs:List OV→List PV→Prop
 |[],[]=>True
 |o::os,p::ps=>FZ o p∧FZs os ps
 |_,_=>False
end
mutual
theorem FZ.vr {S:Nat→Nat→Prop} {β:List Bnd} {w:World} {base:Nat}:∀(o:OV) (p:PV) (u:Value) (bs:List Nat),(∀ b∈bs,∀ hi,S b hi)→OVR S β w base o u bs→FZ o p→VR S [] w p u
 |.pv p,q,u,bs,_,h,k=>by
  simp only[FZ]at k;simp only[OVR]at h;obtain⟨rfl,hc⟩:=k;exact VR.ext (Ext.refl _ _) (q:=λ_=>false) (λ_ _ hq _=>by cases hq) q u hc h.1
 |.own t s n cs,q,u,bs,hS,h,k=>by
  simp only[FZ]at k;simp only[OVR]at h;obtain⟨xs,rfl,rfl,hls,hk⟩:=k;obtain⟨vals,bs',⟨h1,h2⟩,h3,rfl⟩:=h;have h4:=FZs.vr cs xs.flatten vals bs' (λb hb=>hS b (by simp[hb])) h3 hk;simp only[VR]
  rcases h2 with⟨h7,h8⟩|⟨g,cap,cur,e1,e2,e3,e4,e5,e6,e7⟩
  ·have:xs=[]:=List.eq_nil_of_length_eq_zero h8
   subst this;exact⟨none,0,h7,Nat.le_refl _,.inl rfl⟩
  ·refine⟨some ⟨g,0,none⟩,cap,e1,e4,.inr ⟨g,0,rfl,hS g (by rw[e1];simp[Value.ownBlock]) _,?_⟩⟩
   refine Zih xs vals 0 hls h4 λj u hj=>?_
   rw[Zgh e3];rw[←e7,List.getElem?_take]at hj
   split at hj
   ·simpa using hj
   ·cases hj
theorem FZs.vr {S:Nat→Nat→Prop} {β:List Bnd} {w:World} {base:Nat}:∀(os:List OV) (ps:List PV) (us:List Value) (bs:List Nat),(∀ b∈bs,∀ hi,S b hi)→OVRs S β w base os us bs→FZs os ps→VRs S [] w ps us
 |[],[],[],_,_,_,_=>by simp only[VRs]
 |o::os,p::ps,u::us,bs,hS,h,k=>by
  simp only[FZs]at k;simp only[OVRs]at h;obtain⟨b1,b2,h1,h2,rfl⟩:=h;simp only[VRs];exact⟨FZ.vr o p u b1 (λb hb=>hS b (by simp[hb])) h1 k.1,FZs.vr os ps us b2 (λb hb=>hS b (by simp[hb])) h2 k.2⟩
 |[],[],_::_,_,_,h,_=>by simp only[OVRs]at h
 |_::_,_,[],_,_,h,_=>by simp only[OVRs]at h
 |[],_::_,_,_,_,_,k=>by simp only[FZs]at k
 |_::_,[],_::_,_,_,_,k=>by simp only[FZs]at k
end
def FZs.app:∀ os1 os2 ps1 ps2,FZs os1 ps1→FZs os2 ps2→FZs (os1++os2) (ps1++ps2)
 |[],_,[],_,_,k=>k
 |o::os1,os2,p::ps1,ps2,h,k=>⟨h.1,FZs.app os1 os2 ps1 ps2 h.2 k⟩
 |[],_,_::_,_,h,_=>by simp  [FZs]at h
 |_::_,_,[],_,h,_=>by simp  [FZs]at h
def FZs.pvs:∀ ps ,PV.idss (λ_=>false) ps=true→FZs (ps.map .pv) ps
 |[],_=>by simp only[Wbu,FZs]
 |p::ps,h=>by
  simp only[PV.idss,Wh]at h;simp only[W0,FZs,FZ];exact⟨⟨trivial,h.1⟩,FZs.pvs ps h.2⟩
section
variable {P:Program} {G:Glob} {c:Ctx} {β:List Bnd} {st:St} {H:List Blk} {a:Act} {w:World} {n0 nt:Nat} {o:Oper}
def RelB.notIn (h:RelB G c β st H a w) {i:Nat} {k:Blk} (hk:H[i]? = some k) (hi:k.isIn=false):c.β0.length≤i:=by
 rcases Wcz i c.β0.length with hlt|hge
 obtain⟨cs,hc,hcf⟩:=h.cel i hlt;rw[hk]at hc;cases hc;rw[hi]at hcf;cases hcf;omega
def RelB.one (h:RelB G c β st H a w) {i:Nat} {e:Bnd} {k k':Blk} {bs:List Nat} (he:β[i]? = some e) (hk:H[i]? = some k) (hi:k.isIn=false)
  (hat:∀ b,k'.at ⟨e.b,e.v,e.n,e.s,bs⟩ b→k.at e b) (hfree:∀ b hi,k.free e b hi→k'.free ⟨e.b,e.v,e.n,e.s,bs⟩ b hi)
  (hb:Ext (stab c β H w) w (stab c (β.set i ⟨e.b,e.v,e.n,e.s,bs⟩) (H.set i k') w) w→BExt (λ_=>true) β (β.set i ⟨e.b,e.v,e.n,e.s,bs⟩)→BlkR (stab c (β.set i ⟨e.b,e.v,e.n,e.s,bs⟩) (H.set i k') w) (β.set i ⟨e.b,e.v,e.n,e.s,bs⟩) w c.w0.heap.size i ⟨e.b,e.v,e.n,e.s,bs⟩ k') :
  RelB G c (β.set i ⟨e.b,e.v,e.n,e.s,bs⟩) st (H.set i k') a w∧BExt (λ_=>true) β (β.set i ⟨e.b,e.v,e.n,e.s,bs⟩)∧Ext (stab c β H w) w (stab c (β.set i ⟨e.b,e.v,e.n,e.s,bs⟩) (H.set i k') w) w:=by
 have hn0:=h.notIn hk hi
 have key:∀ j f l,(β.set i ⟨e.b,e.v,e.n,e.s,bs⟩)[j]? = some f→(H.set i k')[j]? = some l→(j≠i∧β[j]? = some f∧H[j]? = some l)∨(j=i∧f=⟨e.b,e.v,e.n,e.s,bs⟩∧l=k'):=λj f l hf hl=>by
  grind
 have hx:Ext (stab c β H w) w (stab c (β.set i ⟨e.b,e.v,e.n,e.s,bs⟩) (H.set i k') w) w:=by
  refine⟨λb hi hs=>?_,λ_ _ _ _ _ _ h=>h⟩
  rcases hs with hs|⟨h1,h2,h3⟩
  exact .inl hs
  refine .inr ⟨h1,h2,λj f l hf hl=>?_⟩
  grind
 have hbx:BExt (λ_=>true) β (β.set i ⟨e.b,e.v,e.n,e.s,bs⟩):=by
  intro j f _ hf
  grind
 refine⟨h.move hx hbx (by simp[h.len]) ?_ (λj f l hf hl=>?_) (λj j' f f' l l' b hij hf hl hf' hl' hb1 hb2=>?_) (λj f l b h0 hf hl hb1=>?_) (λj hj=>?_) h.frm,hbx,hx⟩
 obtain⟨γ,hγ⟩:=h.pre
 refine⟨γ.set (i-c.β0.length) ⟨e.b,e.v,e.n,e.s,bs⟩,?_⟩
 rw[hγ,Wbl _ _ hn0]
 rcases key j f l hf hl with⟨_,g1,g2⟩|⟨rfl,rfl,rfl⟩
 exact BlkR.keep hx hbx (λ_ _=>rfl) (h.blk j f l g1 g2);exact hb hx hbx
 rcases key j f l hf hl with⟨g0,g1,g2⟩|⟨rfl,rfl,rfl⟩<;>rcases key j' f' l' hf' hl' with⟨g0',g3,g4⟩|⟨rfl,rfl,rfl⟩
 exact h.inj j j' f f' l l' b hij g1 g2 g3 g4 hb1 hb2;exact h.inj j j' f e l k b hij g1 g2 he hk hb1 (hat b hb2);exact h.inj j j' e f' k l' b hij he hk g3 g4 (hat b hb1) hb2;exact hij rfl
 rcases key j f l hf hl with⟨g0,g1,g2⟩|⟨rfl,rfl,rfl⟩
 exact h.loc j f l b h0 g1 g2 hb1;exact h.loc j e k b h0 he hk (hat b hb1);obtain⟨cs,hc,hcf⟩:=h.cel j hj
 have hne:j≠i:=λe=>om
 exact⟨cs,by rw[Wbd (Wcb hne)];omega,hcf⟩
def RelB.two (h:RelB G c β st H a w) {i j:Nat} {e f:Bnd} {k l k' l':Blk} {bs ds:List Nat} (hij:i≠j) (he:β[i]? = some e) (hk:H[i]? = some k) (hf:β[j]? = some f) (hl:H[j]? = some l) (hi:k.isIn=false) (hj:l.isIn=false)
  (hat1:∀ b,k'.at ⟨e.b,e.v,e.n,e.s,bs⟩ b→k.at e b∨l.at f b) (hat2:∀ b,l'.at ⟨f.b,f.v,f.n,f.s,ds⟩ b→k.at e b∨l.at f b) (hdis:∀ b,k'.at ⟨e.b,e.v,e.n,e.s,bs⟩ b→l'.at ⟨f.b,f.v,f.n,f.s,ds⟩ b→False)
  {β':List Bnd} {H':List Blk} (hβ':β'=(β.set i ⟨e.b,e.v,e.n,e.s,bs⟩).set j ⟨f.b,f.v,f.n,f.s,ds⟩) (hH':H'=(H.set i k').set j l')
  (hfree:∀ b hi,k.free e b hi→l.free f b hi→k'.free ⟨e.b,e.v,e.n,e.s,bs⟩ b hi∧l'.free ⟨f.b,f.v,f.n,f.s,ds⟩ b hi)
  (hb1:Ext (stab c β H w) w (stab c β' H' w) w→BExt (λ_=>true) β β'→BlkR (stab c β' H' w) β' w c.w0.heap.size i ⟨e.b,e.v,e.n,e.s,bs⟩ k')
  (hb2:Ext (stab c β H w) w (stab c β' H' w) w→BExt (λ_=>true) β β'→BlkR (stab c β' H' w) β' w c.w0.heap.size j ⟨f.b,f.v,f.n,f.s,ds⟩ l') :
  RelB G c β' st H' a w∧BExt (λ_=>true) β β'∧Ext (stab c β H w) w (stab c β' H' w) w:=by
 subst hβ' hH';have hn0:=h.notIn hk hi;have hn1:=h.notIn hl hj;have hil:=(We.1 he).1;have hjl:=(We.1 hf).1
 have key:∀(q:Nat) g m,((β.set i ⟨e.b,e.v,e.n,e.s,bs⟩).set j ⟨f.b,f.v,f.n,f.s,ds⟩)[q]? = some g→((H.set i k').set j l')[q]? = some m→(q≠i∧q≠j∧β[q]? = some g∧H[q]? = some m)∨(q=i∧g=⟨e.b,e.v,e.n,e.s,bs⟩∧m=k')∨(q=j∧g=⟨f.b,f.v,f.n,f.s,ds⟩∧m=l'):=λq g m hg hm=>by
  grind
 have hx:Ext (stab c β H w) w (stab c ((β.set i ⟨e.b,e.v,e.n,e.s,bs⟩).set j ⟨f.b,f.v,f.n,f.s,ds⟩) ((H.set i k').set j l') w) w:=by
  refine⟨λb hi hs=>?_,λ_ _ _ _ _ _ h=>h⟩
  rcases hs with hs|⟨h1,h2,h3⟩
  exact .inl hs
  refine .inr ⟨h1,h2,λq g m hg hm=>?_⟩
  rcases key q g m hg hm with⟨_,_,hg,hm⟩|⟨rfl,rfl,rfl⟩|⟨rfl,rfl,rfl⟩
  exact h3 q g m hg hm;exact(hfree b hi (h3 _ e k he hk) (h3 _ f l hf hl)).1
  grind
 have hbx:BExt (λ_=>true) β ((β.set i ⟨e.b,e.v,e.n,e.s,bs⟩).set j ⟨f.b,f.v,f.n,f.s,ds⟩):=by
  intro q g _ hg
  by_cases hqj:q=j
  subst hqj;rw[hf]at hg;cases hg;exact⟨_,W6 (by simpa using hjl),rfl,rfl,Ws _,λ_=>rfl⟩;rw[Wbd (Wcb hqj)]
  by_cases hqi:q=i
  subst hqi;rw[he]at hg;cases hg;exact⟨_,W6 hil,rfl,rfl,Ws _,λ_=>rfl⟩
  grind
 have hatq:∀(q:Nat) g m b,q≠i→q≠j→β[q]? = some g→H[q]? = some m→m.at g b→k.at e b∨l.at f b→False:=λq g m b h1 h2 h3 h4 h5 h6=>by
  rcases h6 with h6|h6
  exact h.inj q i g e m k b h1 h3 h4 he hk h5 h6;exact h.inj q j g f m l b h2 h3 h4 hf hl h5 h6
 refine⟨h.move hx hbx (by simp[h.len]) ?_ (λq g m hg hm=>?_) (λq q' g g' m m' b hqq hg hm hg' hm' h1 h2=>?_) (λq g m b h0 hg hm h1=>?_) (λq hq=>?_) h.frm,hbx,hx⟩
 obtain⟨γ,hγ⟩:=h.pre
 refine⟨(γ.set (i-c.β0.length) ⟨e.b,e.v,e.n,e.s,bs⟩).set (j-c.β0.length) ⟨f.b,f.v,f.n,f.s,ds⟩,?_⟩
 rw[hγ,Wbl _ _ hn0,Wbl _ _ hn1]
 rcases key q g m hg hm with⟨_,_,g1,g2⟩|⟨rfl,rfl,rfl⟩|⟨rfl,rfl,rfl⟩
 exact BlkR.keep hx hbx (λ_ _=>rfl) (h.blk q g m g1 g2);exact hb1 hx hbx;exact hb2 hx hbx
 rcases key q g m hg hm with⟨g0,g0',g1,g2⟩|⟨rfl,rfl,rfl⟩|⟨rfl,rfl,rfl⟩<;>rcases key q' g' m' hg' hm' with⟨g5,g5',g3,g4⟩|⟨rfl,rfl,rfl⟩|⟨rfl,rfl,rfl⟩
 exact h.inj q q' g g' m m' b hqq g1 g2 g3 g4 h1 h2;exact hatq q g m b g0 g0' g1 g2 h1 (hat1 b h2);exact hatq q g m b g0 g0' g1 g2 h1 (hat2 b h2);exact hatq q' g' m' b g5 g5' g3 g4 h2 (hat1 b h1);exact hqq rfl;exact hdis b h1 h2;exact hatq q' g' m' b g5 g5' g3 g4 h2 (hat2 b h1);exact hdis b h2 h1;exact hqq rfl
 rcases key q g m hg hm with⟨g0,g0',g1,g2⟩|⟨rfl,rfl,rfl⟩|⟨rfl,rfl,rfl⟩
 exact h.loc q g m b h0 g1 g2 h1
 rcases hat1 b h1 with h2|h2
 exact h.loc q e k b hn0 he hk h2;exact h.loc j f l b hn1 hf hl h2
 rcases hat2 b h1 with h2|h2
 exact h.loc i e k b hn0 he hk h2;exact h.loc q f l b hn1 hf hl h2;obtain⟨cs,hc,hcf⟩:=h.cel q hq;exact⟨cs,by rw[Wbd om,Wbd om];exact hc,hcf⟩
def RelB.addDead (h:RelB G c β st H a w) (f:Bnd):RelB G c (β++[f]) st (H++[.dead]) a w∧BExt (λ_=>true) β (β++[f])∧Ext (stab c β H w) w (stab c (β++[f]) (H++[.dead]) w) w:=by
 have both:∀ {i:Nat} {e:Bnd} {k:Blk},(β++[f])[i]? = some e→(H++[Blk.dead])[i]? = some k→(β[i]? = some e∧H[i]? = some k)∨(i=H.length∧k=.dead):=by
  intro i e k g1 g2
  rcases Zcj g2 with⟨g2,l2⟩|⟨g3,g4⟩
  rcases Zcj g1 with⟨g1,_⟩|⟨g1,_⟩
  exact .inl ⟨g1,g2⟩;have:=h.len;omega
  grind
 have hx:Ext (stab c β H w) w (stab c (β++[f]) (H++[.dead]) w) w:=by
  refine⟨λb hi hs=>?_,λ_ _ _ _ _ _ h=>h⟩
  rcases hs with hs|⟨h1,h2,h3⟩
  exact .inl hs
  refine .inr ⟨h1,h2,λi e k he hk=>?_⟩
  rcases both he hk with⟨g1,g2⟩|⟨_,rfl⟩
  exact h3 i e k g1 g2;trivial
 refine⟨h.move hx (Wbz _ _) (by simp[h.len]) ?_ (λi e k he hk=>?_) (λi j e f' k l b hij he hk hf hl hb hb'=>?_) (λi e k b h0 he hk hb=>?_) (λi hi=>?_) h.frm,Wbz _ _,hx⟩
 obtain⟨γ,hγ⟩:=h.pre;exact⟨γ++[f],gD⟩
 rcases both he hk with⟨g1,g2⟩|⟨_,rfl⟩
 exact BlkR.keep hx (Wbz _ _) (λ_ _=>rfl) (h.blk i e k g1 g2);trivial
 rcases both he hk with⟨g1,g2⟩|⟨_,rfl⟩
 rcases both hf hl with⟨g3,g4⟩|⟨_,rfl⟩
 exact h.inj i j e f' k l b hij g1 g2 g3 g4 hb hb';cases hb';cases hb
 rcases both he hk with⟨g1,g2⟩|⟨_,rfl⟩
 exact h.loc i e k b h0 g1 g2 hb;cases hb;obtain⟨ds,hc,hcf⟩:=h.cel i hi
 grind
def RelB.take (h:RelB G c β st H a w) {i q t s n t' s' n':Nat} {cs cs':List OV} (hb:H[i]? = some (.tr t s n cs)) (hq:cs[q]? = some (.own t' s' n' cs')) :
  ∃ β',RelB G c β' st (H.set i (.tr t s n (cs.set q (.pv (.own H.length n'))))++[.tr t' s' n' cs']) a w∧BExt (λ_=>true) β β'∧Ext (stab c β H w) w (stab c β' (H.set i (.tr t s n (cs.set q (.pv (.own H.length n'))))++[.tr t' s' n' cs']) w) w:=by
 have hil:=(We.1 hb).1;obtain⟨e,he⟩:∃ e,β[i]? = some e:=⟨β[i]'(by rw[h.len];exact hil),by simp[h.len,hil]⟩;obtain⟨l1,l2,rfl,rfl⟩:=Zz6 hq;have hbk:=h.blk i e _ he hb;simp only[BlkR,OVR]at hbk;obtain⟨k1,k2,k3,vals,bs',k4,k5,k6⟩:=hbk;obtain⟨us1,us2,b1,b2,rfl,rfl,k7,k8⟩:=Wd7 _ _ _ _ k5
 cases us2 with
 |nil=>simp only[OVRs]at k8
 |cons u us2=>
 simp only[OVRs]at k8;obtain⟨d,b3,k8,k9,rfl⟩:=k8;obtain⟨h1,x1,y1⟩:=h.addDead ⟨0,u,n',s',[]⟩
 have hsz:∃ a cap,u=.slice a n' cap:=by
  simp only[OVR]at k8;obtain⟨_,_,g,_⟩:=k8;exact Z48 g
 have hne:i≠H.length:=om
 have he':(β++[(⟨0,u,n',s',[]⟩:Bnd)])[i]? = some e:=gD
 have hb':(H++[Blk.dead])[i]? = some (.tr t s n (l1++.own t' s' n' cs'::l2)):=by rw[Wac hil];exact hb
 have hset:(H.set i (.tr t s n ((l1++.own t' s' n' cs'::l2).set l1.length (.pv (.own H.length n'))))++[.tr t' s' n' cs'])=((H++[Blk.dead]).set i (.tr t s n (l1++.pv (.own H.length n')::l2))).set H.length (.tr t' s' n' cs'):=by
  simp_all
 have hbl:β.length=H.length:=h.len
 have hmem:∀ b,b∈e.bs↔b∈e.v.ownBlock.toList∨b∈b1∨b∈d∨b∈b3:=λb=>by rw[k6];simp only[Wj]
 have hnd:=k3;rw[k6]at hnd;simp only[Wb2,Wj]at hnd
 have hself:∀ {γ:List Bnd},((β++[(⟨0,u,n',s',[]⟩:Bnd)]).set i ⟨e.b,e.v,e.n,e.s,e.v.ownBlock.toList++(b1++b3)⟩).set H.length ⟨0,u,n',s',d⟩=γ→γ[H.length]? = some ⟨0,u,n',s',d⟩:=λhγ=>by
  rw[←hγ,W6 (by simp[hbl])]
 rw[hset];obtain⟨r1,r2,r3⟩:=h1.two (i:=i) (j:=H.length) (e:=e) (f:=⟨0,u,n',s',[]⟩) (l:=.dead) (bs:=e.v.ownBlock.toList++(b1++b3)) (ds:=d) (k':=.tr t s n (l1++.pv (.own H.length n')::l2)) (l':=.tr t' s' n' cs') hne he' hb' sA sM rfl rfl
  (λb hbb=>.inl ((hmem b).2 (by simp only[Blk.at,Wj]at hbb;rcases hbb with hbb|hbb|hbb<;>simp[hbb]))) (λb hbb=>.inl ((hmem b).2 (by simp only[Blk.at]at hbb;simp[hbb])))
  (λb h1 h2=>by
   simp only[Blk.at,Wj]at h1 h2
   grind) rfl rfl
  (λb hi hf _=>by
   simp only[Blk.free,hmem,not_or]at hf;simp only[Blk.free,Wj,not_or]
   grind)
  (λhx hbx=>by
   simp only[BlkR,OVR]
   refine⟨k1,k2,?_,us1++u::us2,b1++b3,k4,?_,rfl⟩
   simp only[Wb2,Wj]
   refine⟨hnd.1,⟨hnd.2.1.1,hnd.2.1.2.1.2.1,λx hx y hy=>hnd.2.1.2.2 x hx y (.inr hy)⟩,λx hx y hy=>?_⟩
   rcases hy with hy|hy
   exact hnd.2.2 x hx y (.inl hy);exact hnd.2.2 x hx y (.inr (.inr hy));have hxx:=Wd8 y1 hx;have hbb:=Wd6 x1 hbx
   refine Wfl _ _ _ _ _ _ (Wcq hxx hbb _ _ _ (λ_ _=>rfl) k7) ?_
   simp only[OVRs,OVR]
   refine⟨[],b3,⟨?_,rfl⟩,Wcq hxx hbb _ _ _ (λ_ _=>rfl) k9,rfl⟩
   simp only[VR]
   simp_all)
  (λhx hbx=>by
   simp only[BlkR]
   exact⟨trivial,trivial,hnd.2.1.2.1.1,Wf2 (Wd8 y1 hx) (Wd6 x1 hbx) _ _ _ (λ_ _=>rfl) k8⟩)
 exact⟨_,r1,Wd6 x1 r2,Wd8 y1 r3⟩
def RelB.give (h:RelB G c β st H a w) {i j q t s n t' s' n':Nat} {cs cs':List OV} (hij:i≠j) (hb:H[i]? = some (.tr t s n cs)) (hq:cs[q]? = some (.pv (.own j n'))) (hl:H[j]? = some (.tr t' s' n' cs')) :
  ∃ β',RelB G c β' st ((H.set i (.tr t s n (cs.set q (.own t' s' n' cs')))).set j .dead) a w∧BExt (λ_=>true) β β'∧Ext (stab c β H w) w (stab c β' ((H.set i (.tr t s n (cs.set q (.own t' s' n' cs')))).set j .dead) w) w:=by
 obtain⟨e,he⟩:∃ e,β[i]? = some e:=⟨β[i]'(by rw[h.len];exact(We.1 hb).1),sM⟩;obtain⟨f,hf⟩:∃ f,β[j]? = some f:=⟨β[j]'(by rw[h.len];exact(We.1 hl).1),sM⟩;obtain⟨l1,l2,rfl,rfl⟩:=Zz6 hq;obtain⟨k1,k2,k3,vals,bs',k4,k5,k6⟩:=h.blk i e _ he hb;obtain⟨m1,m2,m3,m4⟩:=h.blk j f _ hf hl;obtain⟨us1,us2,b1,b2,rfl,rfl,k7,k8⟩:=Wd7 _ _ _ _ k5;cases us2;simp only[OVRs]at k8;rename_i u us2;obtain⟨d,b3,⟨k8,hd0⟩,k9,hb3⟩:=k8;subst hd0;subst hb3
 have hu:u=f.v:=by
  simp only[VR]at k8
  grind
 subst hu
 have hmem:∀ b,b∈e.bs↔b∈e.v.ownBlock.toList∨b∈b1∨b∈b2:=λb=>gD
 have hnd:=k3;rw[k6]at hnd;simp only[Wb2,Wj]at hnd
 have hdis:=λb h1 h2=>h.inj i j e f _ _ b hij he hb hf hl h1 h2
 obtain⟨r1,r2,r3⟩:=h.two (i:=i) (j:=j) (e:=e) (f:=f) (bs:=e.v.ownBlock.toList++(b1++(f.bs++b2))) (ds:=[]) (k':=.tr t s n (l1++.own t' s' n' cs'::l2)) (l':=.dead) hij he hb hf hl rfl rfl
  (λb hbb=>by
   simp only[Blk.at,Wj]at hbb⊢
   grind) (λb hbb=>hbb.elim) (λb _ h2=>h2.elim) rfl rfl
  (λb hi h1 h2=>by
   simp only[Blk.free,hmem]at h1 h2;simp only[Blk.free,Wj]
   grind)
  (λhx hbx=>by
   refine⟨k1,k2,?_,us1++f.v::us2,b1++(f.bs++b2),k4,?_,rfl⟩
   simp only[Wb2,Wj]
   refine⟨hnd.1,⟨hnd.2.1.1,⟨m3,hnd.2.1.2.1,λx hx y hy he'=>?_⟩,λx hx y hy he'=>?_⟩,λx hx y hy he'=>?_⟩
   subst he';exact hdis x ((hmem x).2 (.inr (.inr hy))) hx;subst he'
   rcases hy with hy|hy
   exact hdis x ((hmem x).2 (.inr (.inl hx))) hy;exact hnd.2.1.2.2 x hx x hy rfl;subst he'
   rcases hy with hy|hy|hy
   exact hnd.2.2 x hx x (.inl hy) rfl;exact hdis x ((hmem x).2 (.inl hx)) hy;exact hnd.2.2 x hx x (.inr hy) rfl
   refine Wfl _ _ _ _ _ _ (Wcq hx hbx _ _ _ (λ_ _=>rfl) k7) ?_
   exact⟨f.bs,b2,Wf2 hx hbx _ _ _ (λ_ _=>rfl) m4,Wcq hx hbx _ _ _ (λ_ _=>rfl) k9,rfl⟩)
  (λ_ _=>trivial)
 grind
def RelB.trBuf (h:RelB G c β st H a w) {i t s n:Nat} {cs:List OV} {xs:List (List PV)} (hb:H[i]? = some (.tr t s n cs)) (hf:FZs cs xs.flatten) (hn:xs.length=n) (hs:∀ x∈xs,x.length=s) :
  ∃ β',RelB G c β' st (H.set i (.buf s t xs false)) a w∧BExt (λ_=>true) β β'∧Ext (stab c β H w) w (stab c β' (H.set i (.buf s t xs false)) w) w:=by
 obtain⟨e,he⟩:∃ e,β[i]? = some e:=⟨β[i]'(by rw[h.len];grind),gD⟩;obtain⟨k1,k2,k3,vals,bs',k4,k5,k6⟩:=h.blk i e _ he hb;subst hn
 obtain⟨r1,r2,r3⟩:=h.one (i:=i) (e:=e) (bs:=e.bs) (k':=.buf s t xs false) he hb rfl (λb hbb=>by
   simp  [Blk.at]at hbb⊢
   grind) (λb hi hff hbb=>by
   simp  [Blk.free]at hff hbb
   grind)
  (λhx hbx=>by
   refine⟨k1,k2,hs,vals,k4,?_⟩
   refine FZs.vr cs xs.flatten vals bs' (λb hbb hi=>?_) (Wcq hx hbx _ _ _ (λ_ _=>rfl) k5) hf
   have hbe:b∈e.bs:=gD
   obtain⟨l1,l2⟩:=h.loc i e _ b (h.notIn hb rfl) he hb hbe
   refine .inr ⟨l1,l2,λj f k hf hk=>?_⟩
   rcases Zoq hf with⟨hji,hf⟩|⟨rfl,rfl⟩
   rcases Zoq hk with⟨_,hk⟩|⟨e',_⟩
   exact Wdl λha=>h.inj j i f e k _ b hji hf hk he hb ha hbe
   exact absurd e' hji
   rcases Zoq hk with⟨e',_⟩|⟨_,rfl⟩
   exact absurd rfl e';intro ho
   grind)
 grind
def RelB.bufTr (h:RelB G c β st H a w) {i s t:Nat} {xs:List (List PV)} (hb:H[i]? = some (.buf s t xs false)) :
  ∃ β',RelB G c β' st (H.set i (.tr t s xs.length (xs.flatten.map .pv))) a w∧BExt (λ_=>true) β β'∧Ext (stab c β H w) w (stab c β' (H.set i (.tr t s xs.length (xs.flatten.map .pv))) w) w:=by
 obtain⟨e,he⟩:∃ e,β[i]? = some e:=⟨β[i]'(by rw[h.len];grind),gD⟩;obtain⟨k1,k2,k3,vals,k4,k5⟩:=h.blk i e _ he hb
 obtain⟨r1,r2,r3⟩:=h.one (i:=i) (e:=e) (bs:=e.v.ownBlock.toList) (k':=.tr t s xs.length (xs.flatten.map .pv)) he hb rfl (λb hbb=>by
   simp  [Blk.at]at hbb⊢
   grind) (λb hi hff hbb=>by
   have:=(hff gD).1
   grind)
  (λhx hbx=>⟨k1,k2,gD,vals,[],k4,Wh9 _ _ (Wal hx (λi e _ h=>gD) k5),sM⟩)
 grind
end
section
variable {P:Program} {G:Glob} {c:Ctx} {β:List Bnd} {st:St} {H:List Blk} {a:Act} {w:World} {n0 nt:Nat} {o:Oper}
def RelB.trs (h:RelB G c β st H a w) {i t s n:Nat} {cs:List OV} {e:Bnd} (he:β[i]? = some e) (hb:H[i]? = some (.tr t s n cs)) :
  e.n=n∧e.s=s∧e.bs.Nodup∧∃ vals bs',World.ownsM w c.w0.heap.size t s e.v n vals∧OVRs (stab c β H w) β w c.w0.heap.size cs vals bs'∧e.bs=e.v.ownBlock.toList++bs':=h.blk i e _ he hb
def RelB.rebufT (h:RelB G c β st H a w) {i s t n n':Nat} {cs cs':List OV} {e:Bnd} (he:β[i]? = some e) (hb:H[i]? = some (.tr t s n cs)) {w':World} {v':Value} {vals:List Value} {bs':List Nat}
  (hos:w'.os=w.os) (htp:w'.tape=w.tape) (hou:w'.output=w.output) (hdw:dle w w') (hsz:w.heap.size≤w'.heap.size) (hblk:∀ b,b<w.heap.size→e.v.ownBlock≠some b→w'.heap[b]? = w.heap[b]?)
  (hlen:n≤n') (hv:n'=n→v'=e.v)
  (hown:World.ownsM w' c.w0.heap.size t s v' n' vals) (hnew:∀ g,v'.ownBlock=some g→e.v.ownBlock=some g∨(w.heap.size≤g∧g<w'.heap.size)) (hsub:∀ b∈bs',b∈e.bs∧e.v.ownBlock≠some b) (hnd:bs'.Nodup)
  (hcells:Ext (stab c β H w) w (stab c (β.set i ⟨e.b,v',n',s,v'.ownBlock.toList++bs'⟩) (H.set i (.tr t s n' cs')) w') w'→BExt (λ_=>true) β (β.set i ⟨e.b,v',n',s,v'.ownBlock.toList++bs'⟩)→OVRs (stab c (β.set i ⟨e.b,v',n',s,v'.ownBlock.toList++bs'⟩) (H.set i (.tr t s n' cs')) w') (β.set i ⟨e.b,v',n',s,v'.ownBlock.toList++bs'⟩) w' c.w0.heap.size cs' vals bs') :
  RelB G c (β.set i ⟨e.b,v',n',s,v'.ownBlock.toList++bs'⟩) st (H.set i (.tr t s n' cs')) a w'∧Ext (stab c β H w) w (stab c (β.set i ⟨e.b,v',n',s,v'.ownBlock.toList++bs'⟩) (H.set i (.tr t s n' cs')) w') w'∧BExt (λ_=>true) β (β.set i ⟨e.b,v',n',s,v'.ownBlock.toList++bs'⟩):=by
 obtain⟨q1,q2,q3,vals0,bs0,q4,q5,q6⟩:=h.trs he hb;have hn0:=h.notIn hb rfl
 have hgb:∀ g,g∈e.bs→c.w0.heap.size≤g∧g<w.heap.size:=λg hg=>h.loc i e _ g hn0 he hb hg
 have hob:∀ g,e.v.ownBlock=some g→g∈e.bs:=λg hg=>by rw[q6,hg];simp
 have hnb:∀ b,b∈v'.ownBlock.toList++bs'→b∈e.bs∨(w.heap.size≤b∧b<w'.heap.size):=λb hb'=>by
  grind
 have hnd':(v'.ownBlock.toList++bs').Nodup:=by
  grind
 have hx:Ext (stab c β H w) w (stab c (β.set i ⟨e.b,v',n',s,v'.ownBlock.toList++bs'⟩) (H.set i (.tr t s n' cs')) w') w':=by
  refine⟨λb hi hs=>?_,λb hi o u hs ho hu=>?_⟩
  have hlt:=Zp7 h hs
  rcases hs with hs|⟨h1,h2,h3⟩
  exact .inl hs
  refine .inr ⟨h1,om,λj f k hf hk'=>?_⟩
  rcases Zoq hf with⟨hji,hf⟩|⟨rfl,rfl⟩
  rcases Zoq hk' with⟨_,hk'⟩|⟨e,_⟩
  exact h3 j f k hf hk';exact absurd e hji
  rcases Zoq hk' with⟨e,_⟩|⟨_,rfl⟩
  exact absurd rfl e;intro hbb
  rcases hnb b hbb with h4|⟨h4,_⟩
  exact h3 j e _ he hb h4;omega;have hlt:=Zp7 h hs
  by_cases hbb:e.v.ownBlock=some b
  rcases hs with hs|⟨h1,h2,h3⟩
  have:=(h.ok.old b hi hs).1;have:=(hgb b (hob b hbb)).1;omega;exact absurd (hob b hbb) (h3 i e _ he hb);rw[Zk4 (hblk b hlt hbb)];exact hu
 have hbx:BExt (λ_=>true) β (β.set i ⟨e.b,v',n',s,v'.ownBlock.toList++bs'⟩):=by
  intro j f _ hf
  grind
 have key:∀(j:Nat) f k,(β.set i ⟨e.b,v',n',s,v'.ownBlock.toList++bs'⟩)[j]? = some f→(H.set i (.tr t s n' cs'))[j]? = some k →
   (j≠i∧β[j]? = some f∧H[j]? = some k)∨(j=i∧f=⟨e.b,v',n',s,v'.ownBlock.toList++bs'⟩∧k=.tr t s n' cs'):=λj f k hf hk'=>by
  grind
 have hother:=λj f k b hji hf hk' hb' hbb=>h.inj j i f e k _ b hji hf hk' he hb hb' hbb
 refine⟨h.move hx hbx (by simp[h.len]) ?_ (λj f k hf hk'=>?_) (λj j' f f' k l b hij hf hk' hf' hl hb1 hb2=>?_) (λj f k b h0 hf hk' hb1=>?_) (λj hj=>?_) ?_,hx,hbx⟩
 obtain⟨γ,hγ⟩:=h.pre
 refine⟨γ.set (i-c.β0.length) ⟨e.b,v',n',s,v'.ownBlock.toList++bs'⟩,?_⟩
 rw[hγ,Wbl _ _ hn0]
 rcases key j f k hf hk' with⟨hji,g1,g2⟩|⟨rfl,rfl,rfl⟩
 exact BlkR.keep hx hbx (λb hb'=>hblk b (at_lt (h.blk j f k g1 g2) hb') λho=>hother j f k b hji g1 g2 hb' (hob b ho)) (h.blk j f k g1 g2);simp only[BlkR,OVR];exact⟨trivial,trivial,hnd',vals,bs',hown,hcells hx hbx,rfl⟩
 rcases key j f k hf hk' with⟨g0,g1,g2⟩|⟨rfl,rfl,rfl⟩<;>rcases key j' f' l hf' hl with⟨g0',g3,g4⟩|⟨rfl,rfl,rfl⟩
 exact h.inj j j' f f' k l b hij g1 g2 g3 g4 hb1 hb2
 rcases hnb b hb2 with h4|⟨h4,_⟩
 exact hother j f k b g0 g1 g2 hb1 h4;have:=at_lt (h.blk j f k g1 g2) hb1;omega
 rcases hnb b hb1 with h4|⟨h4,_⟩
 exact hother j' f' l b g0' g3 g4 hb2 h4;have:=at_lt (h.blk j' f' l g3 g4) hb2;omega;exact hij rfl
 rcases key j f k hf hk' with⟨g0,g1,g2⟩|⟨rfl,rfl,rfl⟩
 have:=h.loc j f k b h0 g1 g2 hb1;omega
 rcases hnb b hb1 with h4|⟨h4,h5⟩
 have:=hgb b h4;omega;have:=h.frm.size;omega;obtain⟨cs,hc,hcf⟩:=h.cel j hj
 have hne:j≠i:=λe=>om
 exact⟨cs,by rw[Wbd (Wcb hne)];exact hc,hcf⟩
 refine⟨hos.trans h.frm.os,htp.trans h.frm.tape,hou.trans h.frm.output,Wbj h.frm.size hsz,λb hb' hne=>?_,λb vs t' hb'=>?_,Wgu h.frm.drawn hdw⟩
 rw[hblk b (by have:=h.frm.size;omega) λhbb=>by have:=(hgb b (hob b hbb)).1;omega];exact h.frm.block b hb' hne;have hlt:=Zyz hb';obtain⟨vs1,h1⟩:=h.frm.typ b vs t' hb';exact⟨vs1,Zg7 (hblk b (by have:=h.frm.size;omega) λhbb=>by have:=(hgb b (hob b hbb)).1;omega) h1⟩
def OpT.index_tr {t e:TypeId} {x y:Operand} {k:IntKind} {j:Int} {i s ty n:Nat} {cs:List OV} (ho:o.op=.indexAddr t x y) (hu:P.underlying t=some (.slice e)) (hz:P.cellsOf e=s) (hs0:s≠0)
  (hx:opd G st x=some (.own i n)) (hb:H[i]? = some (.tr ty s n cs)) (hy:opd G st y=some (.sc (.int k j))) (h0:0≤j) (h1:j<n):OpT P G n0 o st H (.ept i n j.toNat 0) H:=
 Waa λc a w β hn hr=>by
  have g1:=hr.opd hx;have g2:=hr.opd hy
  simp  [VR]at g1 g2
  obtain⟨_,ed,he,k1,k2⟩:=g1;obtain⟨q1,q2,_,vals,_,⟨q4,q5⟩,_⟩:=hr.trs he hb;have hv:=k2 q1.symm
  rcases q5 with⟨q5,q7⟩|⟨g,cap,cur,e1,e2,e3,e4,e5,e6,e7⟩
  omega;rw[e1]at hv;simp[execOp,ho,Instr.indexAt,asIntOf,Wu hu,hv,g2,Zfq hz hs0,Zda,h0,h1];exact⟨rfl,ed,he,k1,λ_=>⟨g,by rw[e1];rfl,gD⟩⟩
def OpT.field_tr {s:TypeId} {x:Operand} {f:Nat} {fs:Array Field} {fd:Field} {i n k off z t:Nat} {cs:List OV} (ho:o.op=.fieldAddr s x f) (hu:P.underlying s=some (.struct fs)) (hf:fs[f]? = some fd) (hz:P.cellsOf fd.type≠0)
  (hx:opd G st x=some (.ept i n k off)) (hb:H[i]? = some (.tr t z n cs)):OpT P G n0 o st H (.ept i n k (off+fd.offset)) H:=
 Waa λc a w β h0 hr=>by
  have run:∀ b off,a.eval x=.pointer (some ⟨b,off,none⟩)→(execOp a.eval o).run P w=.ok (.value (.pointer (some ⟨b,off+fd.offset,none⟩))) w:=λb off he=>by
   simp[execOp,ho,Instr.fieldAt,Wu hu,hf,he,Instr.sureAddr,fieldPlace,Zfq rfl hz,hz,Zda]
  obtain⟨g0,e,h2,h3,h4⟩:=hr.opd hx;obtain⟨h5,_⟩:=hr.trs h2 hb;obtain⟨g,h6,h7⟩:=h4 om
  refine⟨_,run _ _ h7,rfl,e,h2,h3,λ_=>⟨g,h6,?_⟩⟩
  grind
def OpT.len_tr {cl:Call} {x:Operand} {T e s t i n:Nat} {cs:List OV} (ho:o.op=.call cl) (hcl:cl={callee:=.builtin .len,args:=#[x],argTypes:=#[T]}) (hT:P.underlying T=some (.slice e)) (hx:opd G st x=some (.own i n)) (hb:H[i]? = some (.tr t s n cs)) :
  OpT P G n0 o st H (.sc (.int .i64 n)) H:=
 Waa λc a w β h0 hr=>by
  obtain⟨_,ed,he,k1,k2⟩:=hr.opd hx;obtain⟨q1,q2,_,vals,_,⟨q4,q5⟩,_⟩:=hr.trs he hb;have hv:=k2 q1.symm
  refine⟨.int .i64 n,?_,by simp  [VR]⟩
  rcases q5 with⟨q5,q7⟩|⟨g',cap,cur,e1,_⟩
  rw[q5]at hv;simp[execOp,ho,hcl,resolve,invoke,builtin,hv,Builtin.len_,Wu hT,goInt,q7];rw[e1]at hv;simp[execOp,ho,hcl,resolve,invoke,builtin,hv,Builtin.len_,Wu hT,goInt]
def plain1:OV→PV
 |.pv p=>p
 |.own _ _ n _=>.ln n
def plains (os:List OV):List PV:=os.map plain1
def OVRs.plains {S:Nat→Nat→Prop} {β:List Bnd} {w:World} {base b:Nat}:∀ os us bs o,OVRs S β w base os us bs→(∀ j u,us[j]? = some u→w.cell? ⟨b,o+j,none⟩=some u)→VRow S β w b o (plains os)
 |[],_,_,_,_,_=>by simp  [AM.plains,Wbu,VRow]
 |_::os,[],_,_,h,_=>by simp  [OVRs]at h
 |x::os,u::us,bs,o,h,hc=>by
  obtain⟨b1,b2,h1,h2,_⟩:=h
  refine⟨⟨u,by simpa using hc 0 u rfl,?_⟩,OVRs.plains os us b2 (o+1) h2 λj v hj=>?_⟩
  cases x;exact h1.1;obtain⟨_,_,⟨_,h3⟩,_⟩:=h1;simp  [plain1,VR]
  grind
  have:=hc (j+1) v gD
  grind
def Wc3:=@List.drop_left'
def Wca:=@List.drop_eq_nil_of_le
def OpT.load_tr {t:TypeId} {x:Operand} {i n k off s ty:Nat} {cs:List OV} {p:PV} (ho:o.op=.load t x) (hx:opd G st x=some (.ept i n k off)) (hb:H[i]? = some (.tr ty s n cs))
  (hl:ldPV P t (plains (cs.drop (k*s+off)))=some p):OpT P G n0 o st H p H:=
 Waa λc a w β h0 hr=>by
  obtain⟨_,ed,he,k1,k2⟩:=hr.opd hx;obtain⟨q1,q2,_,vals,bs',⟨q4,q5⟩,q6,_⟩:=hr.trs he hb;obtain⟨g,k3,k4⟩:=k2 om
  rcases q5 with⟨q5,q7⟩|⟨g',cap,cur,e1,e2,e3,e4,e5,e6,e7⟩
  rw[q5]at k3;simp[Value.ownBlock]at k3;rw[e1]at k3;cases k3
  have hd:∃ bs2,OVRs (stab c β H w) β w c.w0.heap.size (cs.drop (k*s+off)) (vals.drop (k*s+off)) bs2:=by
   have h9:cs=cs.take (k*s+off)++cs.drop (k*s+off):=(Waz _ _).symm;rw[h9]at q6;obtain⟨us1,us2,b1,b2,r1,_,r3,r4⟩:=Wd7 _ _ _ _ q6;have h10:=Wf8 _ _ _ r3
   refine⟨b2,?_⟩
   rw[r1];rw[Wad]at h10
   have h11:(us1++us2).drop (k*s+off)=us2:=by
    by_cases hle:k*s+off≤cs.length
    rw[Wc3 om];have h12:=Wf8 _ _ _ r4;rw[Wa2]at h12;have h13:us2=[]:=Waj om;subst h13;rw[Wca gD]
   grind
  obtain⟨bs2,hd⟩:=hd
  obtain⟨v,h6,h7⟩:=run_ld (P:=P) (OVRs.plains (b:=g') _ _ _ (k*s+off) hd (λj u hj=>by
   rw[Zgh e3]
   grind)) hl
  rw[←q2]at h6;exact⟨v,by simp[execOp,ho,Instr.loadAt,k4,Instr.sureAddr,h6],h7⟩
def OpT.store_tr {t:TypeId} {x y:Operand} {i n k off s ty:Nat} {cs:List OV} {p:PV} (ho:o.op=.store t x y) (hx:opd G st x=some (.ept i n k off)) (hy:opd G st y=some p) (hb:H[i]? = some (.tr ty s n cs))
  (ht:P.cellsOf t=p.cells.length) (hti:(P.info? t).isSome=true) (hl:k*s+off+p.cells.length≤n*s) (h1:(p.cells.all PV.one)=true) :
  OpT P G n0 o st H (.sc undef) (H.set i (.tr ty s n (cs.take (k*s+off)++p.cells.map .pv++cs.drop (k*s+off+p.cells.length)))):=by
 intro c a w β hn0 hr;have g1:=hr.opd hx;have g2:=(hr.opd hy).cells;simp only[VR]at g1;obtain⟨_,ed,he,k1,k2⟩:=g1;obtain⟨q1,q2,q3,vals,bs',⟨q4,q5⟩,q6,q7⟩:=hr.trs he hb;obtain⟨g,k3,k4⟩:=k2 om;have hlu:=Wav _ _ g2
 rcases q5 with⟨q5,_⟩|⟨g',cap,cur,e1,e2,e3,e4,e5,e6,e7⟩
 rw[q5]at k3;simp[Value.ownBlock]at k3;rw[e1]at k3;simp[Value.ownBlock]at k3;subst k3
 have hcurs:n*s≤cur.size:=by rw[e6];exact W8 s e4
 have hrun:=Zft P g' (k*s+off) ty (a.eval y).cells.toList 0 cur w e3 (by rw[hlu];omega) (Wgf h1 g2);obtain⟨ti,htio⟩:=Was.1 hti
 have hsz:(sizeOf t).run P w=.ok (a.eval y).cells.size w:=by
  rw[Wcj w htio,ht,←hlu];simp
 rw[q2]at k4
 have hex:(execOp a.eval o).run P w=.ok .skip (w.setRow g' (cur.toList.take (k*s+off+0)++(a.eval y).cells.toList++cur.toList.drop (k*s+off+0+(a.eval y).cells.toList.length)).toArray):=by
  simp only[execOp,ho,Instr.storeAt,k4,Instr.sureAddr,storeVar];simp[hsz,hrun]
 simp only[wpv,hex]
 let us:=(a.eval y).cells.toList
 have hus:us.length=p.cells.length:=hlu
 let vals':=vals.take (k*s+off)++us++vals.drop (k*s+off+us.length)
 have hvl:vals.length=n*s:=q4;have hcl:cs.length=n*s:=(Wf8 _ _ _ q6).trans hvl
 have h9:cs=cs.take (k*s+off)++((cs.drop (k*s+off)).take us.length++cs.drop (k*s+off+us.length)):=by
  rw[←Wep (i:=us.length) (j:=k*s+off),Waz,Waz]
 have q6':=q6;rw[h9]at q6';obtain⟨us1,us2,b1,b2',r1,r2,r3,r4⟩:=Wd7 _ _ _ _ q6';obtain⟨us3,us4,b2,b3,r5,r6,r7,r8⟩:=Wd7 _ _ _ _ r4;have l1:=Wf8 _ _ _ r3;have l2:=Wf8 _ _ _ r7;rw[Wad,hcl,Wbp om]at l1;rw[Wad,Wa2,hcl,Wbp om]at l2;subst r5 r6
 have e8:vals.take (k*s+off)=us1:=by rw[r1,Wc0 l1.symm]
 have e9:vals.drop (k*s+off+us.length)=us4:=by
  rw[r1,←Wap,Wc3 (by rw[Wm,←l1,←l2])]
 have hnd:=q3;rw[q7,r2]at hnd;simp only[Wb2,Wj]at hnd;have hrow:=Zp6 (us:=(cur.toList.take (k*s+off+0)++us++cur.toList.drop (k*s+off+0+us.length)).toArray) e3 sO;have hrb:=hr.rebufT he hb (n':=n) (cs':=cs.take (k*s+off)++p.cells.map .pv++cs.drop (k*s+off+p.cells.length)) (w':=w.setRow g' (cur.toList.take (k*s+off+0)++us++cur.toList.drop (k*s+off+0+us.length)).toArray) (v':=ed.v) (vals:=vals') (bs':=b1++b3)
  rfl rfl rfl (λ_=>Ws _) (by rw[Wea];exact Ws _) (λb hb' hne=>?_) (Ws _) (λ_=>rfl) ?_ (λg hg=>.inl hg) (λb hbb=>?_) ?_ (λhx' hbx=>?_)
 obtain⟨s1,s2,s3⟩:=hrb;exact⟨_,s1,by simp only[VR],s3,s2⟩
 have:b≠g':=λeq=>hne (by rw[e1,eq];rfl)
 simp only[World.setRow,Wbt];rw[if_neg (Wcb this)]
 refine⟨gD,.inr ⟨g',cap,_,e1,e2,hrow,e4,e5,?_,?_⟩⟩
 simp;omega;simp only[vals',Wdg];have hv2:vals=cur.toList.take (n*s):=e7.symm;rw[hv2,Wdx,Wbp (by omega:k*s+off≤n*s),Wdb,Wd1,Wbe gD]
 congr 1
 congr 1
 simp only[Wm,Wad,Wa7];omega
 have hbe:b∈bs':=by rw[r2];rcases Wj.1 hbb with h|h<;>simp[h]
 refine⟨by rw[q7];simp[hbe],λho=>?_⟩
 exact hnd.2.2 b (by rw[ho];simp) b (by rw[r2]at hbe;simpa using hbe) rfl;rw[Wb2];exact⟨hnd.2.1.1,hnd.2.1.2.1.2.1,λx hx y hy=>hnd.2.1.2.2 x hx y (.inr hy)⟩
 have hkeep:∀ b,b∈bs'→(w.setRow g' (cur.toList.take (k*s+off+0)++us++cur.toList.drop (k*s+off+0+us.length)).toArray).heap[b]? = w.heap[b]?:=λb hbb=>by
  have:b≠g':=λeq=>by
   refine hnd.2.2 b ?_ b (by rw[r2]at hbb;simpa using hbb) rfl
   rw[e1,eq];simp[Value.ownBlock]
  simp only[World.setRow,Wbt];rw[if_neg (Wcb this)]
 have m1:=Wcq hx' hbx _ _ _ (λb hbb=>hkeep b (by rw[r2];simp[hbb])) r3;have m2:=Wcq hx' hbx _ _ _ (λb hbb=>hkeep b (by rw[r2];simp[hbb])) r8;have m3:=Wh9 (base:=c.w0.heap.size) _ _ (Wal hx' hbx g2);simp only[vals',e8,e9]
 have hdr:cs.drop (k*s+off+p.cells.length)=cs.drop (k*s+off+us.length):=by rw[hus]
 have m4:=Eq.mpr (congrArg (λz=>OVRs _ _ _ _ z us4 b3) hdr) m2;have:=Wfl _ _ _ _ _ _ (Wfl _ _ _ _ _ _ m1 m3) m4
 simpa only[Wam]using this
def Wdp:=@List.length_nil
def OpT.append_tr {cl:Call} {x y:Operand} {T U e:TypeId} {i j s t t' n:Nat} {ti:TypeInfo} {z:Value} {cs:List OV} {ys:List (List PV)}
  (ho:o.op=.call cl) (hcl:cl={callee:=.builtin .append,args:=#[x,y],argTypes:=#[T,U]}) (hT:P.underlying T=some (.slice t)) (hU:P.underlying U=some (.slice e)) (hi:P.info? t=some ti) (hz:ti.zero=some z)
  (hs:ti.size=s) (hzs:z.cells.size=s) (hx:opd G st x=some (.own i n)) (hb:H[i]? = some (.tr t s n cs)) (hy:opd G st y=some (.own j ys.length)) (hq:H[j]? = some (.fb s t' ys)) (h1:(ys.flatten.all PV.one)=true)
  (hn:(n+ys.length)*ti.bytes≤140737488355328) (hn2:n+ys.length≤140737488355328):OpT P G n0 o st H (.own i (n+ys.length)) (H.set i (.tr t s (n+ys.length) (cs++ys.flatten.map .pv))):=by
 intro c a w β h0 hr
 have hsrc:(ys=[]∧∃ ad cap,a.eval y=.slice ad 0 cap)∨∃ b off cap vals,a.eval y=.slice (some ⟨b,off,none⟩) ys.length cap∧VRs (stab c β H w) β w ys.flatten vals∧(∀ x∈ys,x.length=s)∧∀ j v,vals[j]? = some v→w.cell? ((⟨b,off,none⟩:Addr).add j)=some v:=by
  have hu:=hr.opd hy;simp only[VR]at hu;obtain⟨_,ed,he,g1,g2⟩:=hu;obtain⟨q1,q2,q3,vals,⟨q4,q5⟩,q6⟩:=hr.blk j ed _ he hq;have hv:=g2 q1.symm
  rcases q5 with⟨q5,q7⟩|⟨g,cap,cur,e1,e2,e3,e4,e5,e6,e7⟩
  exact .inl ⟨Waj q7,none,0,by rw[hv,q5]⟩
  refine .inr ⟨g,0,cap,vals,by rw[hv,e1],q6,q3,λj v hj=>?_⟩
  rw[Zda,Zgh e3];rw[←e7,Wbg]at hj
  split at hj
  simpa using hj
  cases hj
 have hvx:=hr.opd hx;simp only[VR]at hvx;obtain⟨ho1,ed,he,g1,g2⟩:=hvx;obtain⟨q1,q2,q3,vals,bs',hown,q6,q7⟩:=hr.trs he hb;have hxv:=g2 q1.symm;have hil:=(We.1 hb).1
 have hex:(execOp a.eval o).run P w=((Builtin.append_ #[T,U] o.type #[ed.v,a.eval y]).run P w).andThen λv w'=>.ok (.value v) w':=by
  simp[execOp,ho,hcl,resolve,invoke,builtin,hxv]
 rw[Zyl hT hU hi]at hex;obtain⟨hvl,hown'⟩:=hown;have hnd:=q3;rw[q7]at hnd;simp only[Wb2]at hnd
 have hset:∀ {α:Type} (l:List α) (i:Nat) (x:α),l[i]? = some x→l.set i x=l:=λl i x hx=>by
  refine Wb1 λj=>?_
  grind
 have keep:ys=[]→(∃ ad cap,a.eval y=.slice ad 0 cap)→wpv P o a w (λv w'=>RelV G c β H w st (H.set i (.tr t s (n+ys.length) (cs++ys.flatten.map .pv))) a (.own i (n+ys.length)) v w'):=by
  rintro rfl ⟨ad,cap,hya⟩
  have hrun:(Builtin.append_ #[T,T] o.type #[ed.v,a.eval y]).run P w=.ok ed.v w:=by
   rw[hya]
   rcases hown' with⟨e1,e2⟩|⟨g,cp,cur,e1,e2,e3,e4,_⟩
   rw[e1];exact Zmx hT hi none 0 0 ad cap (Ws _);rw[e1];exact Zmx hT hi _ _ _ ad cap e4
  simp only[wpv,hex,hrun,Wan,Wdp,Wdg,Wdd,Wbu,Wam];rw[hset H i _ hb]
  refine⟨β,hr,?_,W3 _ _,Wd3 _ _⟩
  simp only[VR];exact⟨by rw[←hxv];exact ho1,ed,he,g1,λ_=>rfl⟩
 rcases hsrc with⟨hy0,hya⟩|⟨b,off,cap,nvals,hya,k1,k2,k3⟩
 exact keep hy0 hya
 by_cases hy0:ys=[]
 exact keep hy0 ⟨_,_,by rw[hya,hy0];rfl⟩;have hyl:0<ys.length:=Wcn.2 hy0
 have hnl:nvals.length=ys.length*s:=by rw[Wav _ _ k1,Zsd ys k2]
 have hone:∀ u∈nvals,u.oneCell'=true:=Wgf h1 k1
 have hfin:∀ v' w',(Builtin.append_ #[T,T] o.type #[ed.v,a.eval y]).run P w=.ok v' w'→v'.oneCell'=true→w'.os=w.os→w'.tape=w.tape→w'.output=w.output→w.drawn≤w'.drawn→w.heap.size≤w'.heap.size →
   (∀ b,b<w.heap.size→ed.v.ownBlock≠some b→w'.heap[b]? = w.heap[b]?) →
   World.ownsM w' c.w0.heap.size t s v' (n+ys.length) (vals++nvals)→(∀ g,v'.ownBlock=some g→ed.v.ownBlock=some g∨(w.heap.size≤g∧g<w'.heap.size)) →
   wpv P o a w (λv w'=>RelV G c β H w st (H.set i (.tr t s (n+ys.length) (cs++ys.flatten.map .pv))) a (.own i (n+ys.length)) v w'):=by
  intro v' w' hrun hv1 m1 m2 m3 md m4 m5 m7 m8;simp only[wpv,hex,hrun,Wan]
  have hin:∀ b∈bs',b∈ed.bs∧ed.v.ownBlock≠some b:=λb hbb=>⟨by rw[q7];simp[hbb],λho=>hnd.2.2 b (by rw[ho];simp) b hbb rfl⟩
  obtain⟨r1,r2,r3⟩:=hr.rebufT he hb (n':=n+ys.length) (cs':=cs++ys.flatten.map .pv) (bs':=bs') m1 m2 m3 (dle.of md) m4 m5 om (λhl=>absurd hl om) m7 m8 hin hnd.2.1 (λhx' hbx'=>by
   have:=Wfl _ _ _ _ _ _ (Wcq hx' hbx' _ _ _ (λb hbb=>m5 b (by
    have h5:=hr.loc i ed _ b (hr.notIn hb rfl) he hb (hin b hbb).1
    exact h5.2) (hin b hbb).2) q6) (Wh9 (base:=c.w0.heap.size) _ _ (Wal hx' hbx' k1))
   simpa only[Wam]using this)
  refine⟨_,r1,?_,r3,r2⟩
  simp only[VR];exact⟨Z48 m7,_,W6 (by rw[hr.len];exact hil),Ws _,λ_=>rfl⟩
 have hmax:n+ys.length≤maxLen:=by unfold maxLen;omega
 rcases hown' with⟨e1,e2⟩|⟨g,cp,cur,e1,e2,e3,e4,e5,e6,e7⟩
 have hv0:vals=[]:=Waj (by rw[hvl,e2];simp);subst hv0 e2
 have hn':ys.length*ti.bytes≤140737488355328:=by simpa using hn
 have hrun:=run_append_nil (P:=P) w T o.type t ti z hT hi hz ⟨b,off,none⟩ ys.length cap nvals (by rw[hnl,hs]) k3 hyl (by have:=hmax;simp[maxLen]at this;omega) om;rw[←hya,←e1]at hrun;have hcap:=Wgy w ys.length 0 t;have hcap2:=Wek w ys.length 0 t (by simpa using hmax)
 refine hfin _ _ hrun rfl rfl rfl rfl (by first|exact Ws _|exact Wcr _ _) sM (λb' hb' _=>heap_alloc_old _ _ (by simpa using hb')) ?_ (λg hg=>?_)
 refine⟨by simp[hnl],.inr ⟨w.heap.size,_,_,sM,hr.frm.size,Zy0 w.drew _ _,by simpa using hcap,hcap2,?_,?_⟩⟩
 simp[Weo,hzs,hnl];rw[←Way];congr 1;omega;simp[hnl];simp[Value.ownBlock]at hg;subst hg;exact .inr ⟨Ws _,sM⟩
 have hcells:∀ j u,vals[j]? = some u→w.cell? ((⟨g,0,none⟩:Addr).add j)=some u:=λj u hj=>by
  rw[Zda,Zgh e3];rw[←e7,Wbg]at hj
  split at hj
  simpa using hj
  cases hj
 by_cases hroom:n+ys.length≤cp
 have hfit:n*ti.size+nvals.length≤cur.size:=by
  rw[hs,hnl,e6,←Way];exact W8 s hroom
 have hrun:=Zxn (P:=P) w T o.type t ti hT hi g n cp cur e3 ⟨b,off,none⟩ ys.length cap nvals (by rw[hnl,hs]) k3 hone hroom hfit;rw[←hya,←e1]at hrun
 have hcl2:cur.toList.take (n*ti.size)=vals:=by rw[hs];exact e7
 rw[hcl2]at hrun;have hrow:=Zp6 (us:=(vals++nvals++cur.toList.drop (n*ti.size+nvals.length)).toArray) e3 gD;have hvlen:vals.length=n*s:=hvl
 refine hfin _ _ hrun rfl rfl rfl rfl (by first|exact Ws _|exact Wcr _ _) (by rw[Wea];exact Ws _) (λb' hb' hne=>?_) ?_ (λg' hg=>?_)
 have:b'≠g:=λeq=>hne (by rw[e1,eq];rfl)
 simp only[World.setRow,Wbt];rw[if_neg (Wcb this)]
 refine⟨by simp only[Wm];rw[hvlen,hnl,←Way],.inr ⟨g,cp,_,sM,e2,hrow,by simpa using hroom,e5,?_,?_⟩⟩
 simp only[List.size_toArray,Wm,Wa2,Wa7];rw[hvlen,hnl,hs]
 have:n*s+ys.length*s≤cur.size:=by rw[hnl,hs]at hfit;exact hfit
 omega;simp only[];rw[Wc0 (by simp only[Wm];rw[hvlen,hnl,←Way])];simp[Value.ownBlock]at hg;subst hg;exact .inl (by rw[e1];rfl)
 have hgr:cp<n+ys.length:=om
 have hrun:=run_append_grow (P:=P) w T o.type t ti z hT hi hz ⟨g,0,none⟩ n cp vals (by rw[hvl,hs]) hcells ⟨b,off,none⟩ ys.length cap nvals (by rw[hnl,hs]) k3 hgr (by have:=hmax;simp[maxLen]at this;omega) (growslice_fits hgr hn);rw[←hya,←e1]at hrun;have hcap:=Wgy w (n+ys.length) cp t;have hcap2:=Wek w (n+ys.length) cp t hmax
 refine hfin _ _ hrun rfl rfl rfl rfl (by first|exact Ws _|exact Wcr _ _) sM (λb' hb' _=>heap_alloc_old _ _ (by simpa using hb')) ?_ (λg' hg=>?_)
 refine⟨by simp only[Wm];rw[hvl,hnl,←Way],.inr ⟨w.heap.size,_,_,sM,hr.frm.size,Zy0 w.drew _ _,by simpa using hcap,hcap2,?_,?_⟩⟩
 simp[Weo,hzs,hnl,hvl];rw[←Way,←Way];congr 1;omega;rw[Web,Web,Wc0 (by simp[hvl,hnl,Way])];simp[Value.ownBlock]at hg;subst hg;exact .inr ⟨Ws _,sM⟩
end
section
variable {α γ:Type}
def Wdq:=@Nat.add_sub_cancel_left
def Z9m {s off:Nat} {v:γ}:∀(L:List (List γ)) k x,L[k]? = some x→(∀ y∈L,y.length=s)→off<s→L.flatten.set (k*s+off) v=(L.set k (x.set off v)).flatten
 |[],k,x,hk,_,_=>gD
 |y::L,0,x,hk,hl,ho=>by
  grind
 |y::L,k+1,x,hk,hl,ho=>by
  have hy:=hl y sM;simp;rw[show(k+1)*s+off=y.length+(k*s+off) by grind,Wbl _ _ om,Wdq,Z9m L k x gD gD ho]
def Z9n {s off:Nat}:∀(L:List (List γ)) k x,L[k]? = some x→(∀ y∈L,y.length=s)→off<s→L.flatten[k*s+off]? = x[off]?
 |[],k,x,hk,_,_=>gD
 |y::L,0,x,hk,hl,ho=>by
  grind
 |y::L,k+1,x,hk,hl,ho=>by
  have hy:=hl y sM;simp;rw[show(k+1)*s+off=y.length+(k*s+off) by grind,Wa6 om,Wdq,Z9n L k x gD gD ho]
def Z6r {s off:Nat}:∀(L:List (List γ)) k x,L[k]? = some x→(∀ y∈L,y.length=s)→off≤s→∃ r,L.flatten.drop (k*s+off)=x.drop off++r
 |[],k,x,hk,_,_=>gD
 |y::L,0,x,hk,hl,ho=>by
  cases hk;have hy:=hl y sM;simp;exact⟨_,List.drop_append_of_le_length om⟩
 |y::L,k+1,x,hk,hl,ho=>by
  have hy:=hl y sM;simp;rw[show(k+1)*s+off=y.length+(k*s+off) by grind,Wc2];exact Z6r L k x gD gD ho
def Z9o {s:Nat}:∀(L:List (List γ)),(∀ y∈L,y.length=s)→L.flatten.length=L.length*s
 |[],_=>sM
 |y::L,hl=>by
  simp only[Wb0,Wm,Wak,Wcw];rw[Z9o L λz hz=>hl z gD,hl y sM];omega
def cellsO (orow:α→List OV) (l:List α):List OV:=(l.map orow).flatten
def owB (t s:Nat) (row:α→List PV) (l:List α):OV:=.own t s l.length (((l.map row).flatten).map .pv)
variable {orow:α→List OV} {row:α→List PV} {s:Nat} {l m:List α} {j:Int} {z z':α}
def Z2q:cellsO orow l++cellsO orow m=cellsO orow (l++m):=by simp[cellsO]
def Z5h (hz:idx l j=some z) (f:α→γ):(l.map f)[j.toNat]? = some (f z):=by
 rw[Wba,(Zo8 hz).2.2];rfl
def Zsu {f:α→List γ} (hs:∀ z,(f z).length=s):∀ y∈l.map f,y.length=s:=λy hy=>by
 grind
def Z9p (hs:∀ z,(orow z).length=s):(cellsO orow l).length=l.length*s:=by
 rw[cellsO,Z9o _ (Zsu hs),Wt]
def Zagi (hs:∀ z,(orow z).length=s) (hz:idx l j=some z) {off:Nat} (ho:off<s):(cellsO orow l)[j.toNat*s+off]? = (orow z)[off]?:=
 Z9n _ _ _ (Z5h hz orow) (Zsu hs) ho
def Zabf (hs:∀ z,(orow z).length=s) (hz:idx l j=some z) {off:Nat} (ho:off<s):j.toNat*s+off<(cellsO orow l).length:=by
 rw[Z9p hs];have h3:=Zo8 hz;have:(j.toNat+1)*s≤l.length*s:=W8 s om
 grind
def Zagj (hs:∀ z,(orow z).length=s) (hz:idx l j=some z) {off:Nat} (ho:off<s) {o:OV} (hz':orow z'=(orow z).set off o):(cellsO orow l).set (j.toNat*s+off) o=cellsO orow (l.set j.toNat z'):=by
 rw[cellsO,Z9m _ _ _ (Z5h hz orow) (Zsu hs) ho,cellsO,Wdz,hz']
def Zafa (xs ys:List OV):∃ zs,plains (xs++ys)=plains xs++zs:=⟨plains ys,by simp[plains]⟩
def Zaht {P:Program} {t:TypeId} {cs zs:List PV} {p:PV} (h:ldPV P t cs=some p):ldPV P t (cs++zs)=some p:=by
 unfold ldPV at h⊢
 grind
def Zahu {P:Program} {t:TypeId} (hs:∀ z,(orow z).length=s) (hz:idx l j=some z) {off:Nat} (ho:off≤s) {p:PV} (h:ldPV P t (plains ((orow z).drop off))=some p):ldPV P t (plains ((cellsO orow l).drop (j.toNat*s+off)))=some p:=by
 obtain⟨r,hr⟩:=Z6r _ _ _ (Z5h hz orow) (Zsu hs) ho;rw[cellsO,hr];obtain⟨zs,h2⟩:=Zafa ((orow z).drop off) r;rw[h2];exact Zaht h
def Zabg {q:Nat→Bool}:∀ a b,PV.idss q a=true→PV.idss q b=true→PV.idss q (a++b)=true
 |[],_,_,hb=>hb
 |p::a,b,ha,hb=>by
  simp  [PV.idss,Wh]at ha
  simp  [Wdc,PV.idss,Wh];exact⟨ha.1,Zabg a b ha.2 hb⟩
def Zxo {q:Nat→Bool} (hc:∀ z,PV.idss q (row z)=true):∀(l:List α),PV.idss q (l.map row).flatten=true
 |[]=>by simp  [Wbu,Wdd,PV.idss]
 |x::l=>Zabg _ _ (hc x) (Zxo hc l)
def FZ.owB {t:Nat} (hs:∀ z,(row z).length=s) (hc:∀ z,PV.idss (λ_=>false) (row z)=true) (l:List α):FZ (owB t s row l) (.sl s (l.map row)):=⟨l.map row,rfl,sM,Zsu hs,FZs.pvs _ (Zxo hc l)⟩
def FZs.cells (h:∀ z,FZs (orow z) (row z)):∀ l,FZs (cellsO orow l) (l.map row).flatten
 |[]=>by simp  [cellsO,Wbu,Wdd,FZs]
 |x::l=>by
  have:=FZs.app _ _ _ _ (h x) (FZs.cells h l)
  simpa only[cellsO,W0,Wb0]using this
end
def T.os (x:List OV):T:=.bs [some (.tr 0 0 0 x)]
def T.os_inj {x y:List OV}:(T.os x=T.os y)=(x=y):=by simp[T.os]
structure Gst (G:Glob) where
 run:List Blk→Option (List Blk×List T×List T)
 sound:∀ {H H':List Blk} {l r:List T},run H=some (H',l,r)→l=r→∀ {c:Ctx} {β:List Bnd} {st:St} {a:Act} {w:World},RelB G c β st H a w →
  ∃ β',RelB G c β' st H' a w∧BExt (λ_=>true) β β'∧Ext (stab c β H w) w (stab c β' H' w) w
def gH (r:Option (List Blk×List T×List T)):Option (List Blk):=match r with|some x=>some x.1|none=>none
def gl (r:Option (List Blk×List T×List T)):List T:=match r with|some x=>x.2.1|none=>[]
def gr (r:Option (List Blk×List T×List T)):List T:=match r with|some x=>x.2.2|none=>[]
section
variable {P:Program} {G:Glob} {n0 nt:Nat} {o:Oper} {st:St} {H H':List Blk} {Q:Exit→St→List Blk→Prop}
def Gst.le (g:Gst G) (h1:gH (g.run H)=some H') (h2:gl (g.run H)=gr (g.run H)):Le G n0 nt st H st H':=λc a w β _ _ hr=>by
 cases hx:g.run H;rw[hx]at h1;cases h1;rw[hx]at h1 h2;cases h1;obtain⟨β',h3,_,_⟩:=g.sound hx h2 hr
 grind
def Wfj:=@List.append_inj
def Hnd.pre (g:Gst G) (k:Hnd P G):Hnd P G where
 run o st H:=match g.run H with
  |some (H1,l,r)=>match Nat.beq l.length r.length with
   |true=>(k.run o st H1).map λx=>⟨x.p,x.H,l++x.l,r++x.r⟩
   |false=>none
  |none=>none
 sound:=by
  intro n0 o st H x h he
  split at h
  rename_i H1 l r hg
  split at h
  rename_i hl
  simp at h
  obtain⟨y,hy,rfl⟩:=h;obtain⟨h1,h2⟩:=Wfj he (Wd hl);intro c a w β hn hr;obtain⟨β1,hr1,_,_⟩:=g.sound hg h1 hr;exact k.sound hy h2 c a w β1 hn hr1;cases h;cases h
def Hnd.post (k:Hnd P G) (g:Gst G):Hnd P G where
 run o st H:=match k.run o st H with
  |some x=>match g.run x.H with
   |some (H1,l,r)=>match Nat.beq l.length r.length with
    |true=>some ⟨x.p,H1,l++x.l,r++x.r⟩
    |false=>none
   |none=>none
  |none=>none
 sound:=by
  intro n0 o st H x h he
  split at h
  rename_i y hy
  split at h
  rename_i H1 l r hg
  split at h
  rename_i hl;cases h;obtain⟨h1,h2⟩:=Wfj he (Wd hl);intro c a w β hn hr
  refine Zh4 (k.sound hy h2 c a w β hn hr) λv w' ⟨β1,hr1,hv⟩=>?_
  obtain⟨β2,hr2,hb,hx⟩:=g.sound hg h1 hr1;exact⟨β2,hr2,Wci hx hb hv⟩;cases h;cases h;cases h
end
section
variable {P:Program} {G:Glob} {α α':Type}
def Gst.eqC (i:Nat) {ca cb:List OV} (h:ca=cb):Gst G where
 run H:=match H[i]? with
  |some (.tr t s n cs)=>some (H.set i (.tr t s n cb),[T.os cs],[T.os ca])
  |_=>none
 sound:=by
  intro H H' l r h1 h2 c β st a w hr
  split at h1
  rename_i t s n cs hb;cases h1
  simp  [Wai,T.os_inj,and_true]at h2
  subst h h2
  have hset:H.set i (.tr t s n cs)=H:=by
   refine Wb1 λj=>?_
   grind
  rw[hset];exact⟨β,hr,W3 _ _,Wd3 _ _⟩
  grind
def Gst.takeB (i:Nat) (orow:α→List OV) {s:Nat} (hs:∀ z,(orow z).length=s) {l:List α} {j:Int} {z:α} (hz:idx l j=some z) {off:Nat} (ho:off<s) (row':α'→List PV) {s':Nat} (hs':∀ z,(row' z).length=s') (hc':∀ z,PV.idss (λ_=>false) (row' z)=true) (x:List α') (t':Nat)
  (hcell:(orow z)[off]? = some (owB t' s' row' x)):Gst G where
 run H:=match H[i]? with
  |some (.tr t s1 n cs)=>match Nat.beq s1 s with
   |true=>some ((H.set i (.tr t s1 n ((cellsO orow l).set (j.toNat*s+off) (.pv (.own H.length x.length)))))++[.buf s' t' (x.map row') false],[T.os cs],[T.os (cellsO orow l)])
   |false=>none
  |_=>none
 sound:=by
  intro H H' l r h1 h2 c β st a w hr
  split at h1
  rename_i t s1 n cs hb
  split at h1
  rename_i hse;have hse:=Wd hse;subst hse;cases h1;cases h2;have hg:=Zagi hs hz ho;rw[hcell]at hg;obtain⟨β1,hr1,x1,y1⟩:=hr.take hb hg
  have hlen:(H.set i (.tr t s1 n ((cellsO orow l).set (j.toNat*s1+off) (.pv (.own H.length x.length))))).length=H.length:=sM
  have hb2:(H.set i (.tr t s1 n ((cellsO orow l).set (j.toNat*s1+off) (.pv (.own H.length x.length))))++[Blk.tr t' s' x.length (((x.map row').flatten).map .pv)])[H.length]? = some (.tr t' s' x.length (((x.map row').flatten).map .pv)):=by
   simp
  obtain⟨β2,hr2,x2,y2⟩:=hr1.trBuf (i:=H.length) (xs:=x.map row') hb2 (FZs.pvs _ (Zxo hc' x)) sM (Zsu hs');rw[Wbl _ _ sM,hlen,Nat.sub_self]at hr2 y2;exact⟨β2,hr2,Wd6 x1 x2,Wd8 y1 y2⟩;cases h1
  grind
def Gst.giveB (i jb:Nat) (orow:α→List OV) {s:Nat} (hs:∀ z,(orow z).length=s) {l:List α} {j:Int} {z:α} (hz:idx l j=some z) {off:Nat} (ho:off<s) (row':α'→List PV) (s':Nat) (x:List α') (t':Nat) (m0:Nat) (hm:x.length=m0) (z':α)
  (hz':orow z'=(orow z).set off (owB t' s' row' x)):Gst G where
 run H:=match H[i]?,H[jb]? with
  |some (.tr t s1 n cs),some (.buf s2 t2 xs false)=>match Nat.beq s1 s&&Nat.beq s2 s'&&Nat.beq t2 t'&&!(Nat.beq i jb)with
   |true=>some ((H.set i (.tr t s1 n (cellsO orow (l.set j.toNat z')))).set jb .dead,[T.os cs,.rs xs],[T.os ((cellsO orow l).set (j.toNat*s+off) (.pv (.own jb m0))),.rs (x.map row')])
   |false=>none
  |_,_=>none
 sound:=by
  intro H H' l r h1 h2 c β st a w hr
  split at h1
  rename_i t s1 n cs s2 t2 xs hb hbj
  split at h1
  rename_i hse;simp only[Wh]at hse;obtain⟨⟨⟨e1,e2⟩,e3⟩,e4⟩:=hse;have e1:=Wd e1;have e2:=Wd e2;have e3:=Wd e3
  have e4:i≠jb:=λh=>gD
  subst e1 e2 e3;cases h1;cases h2;obtain⟨β1,hr1,x1,y1⟩:=hr.bufTr hbj
  have hb1:(H.set jb (.tr t2 s2 (x.map row').length ((x.map row').flatten.map .pv)))[i]? = some (.tr t s1 n ((cellsO orow l).set (j.toNat*s1+off) (.pv (.own jb x.length)))):=gD
  have hgl:=Zabf hs hz ho;obtain⟨β2,hr2,x2,y2⟩:=hr1.give (q:=j.toNat*s1+off) (n':=(x.map row').length) e4 hb1 gD (W6 (We.1 hbj).1);rw[Wdh,Wt]at hr2 y2;rw[Wt]at y1;have hcs:=Zagj hs hz ho hz';simp only[owB]at hcs;rw[hcs]at hr2 y2
  have hcomm:∀ k,((H.set jb (.tr t2 s2 x.length ((x.map row').flatten.map .pv))).set i k).set jb .dead=(H.set i k).set jb .dead:=λk=>by
   rw[List.set_comm _ _ (Wcb e4),Wdh]
  rw[hcomm]at hr2 y2;exact⟨β2,hr2,Wd6 x1 x2,Wd8 y1 y2⟩;cases h1
  grind
def Gst.giveA (i jb:Nat) (orow:α→List OV) (l:List α) (c0:List OV) (off:Nat) (row':α'→List PV) (s':Nat) (x:List α') (t':Nat) (m0:Nat) (hm:x.length=m0) (hc:c0[off]? = some (.pv (.own jb m0))):Gst G where
 run H:=match H[i]?,H[jb]? with
  |some (.tr t s1 n cs),some (.buf s2 t2 xs false)=>match Nat.beq s2 s'&&Nat.beq t2 t'&&!(Nat.beq i jb)with
   |true=>some ((H.set i (.tr t s1 n (cellsO orow l++c0.set off (owB t' s' row' x)))).set jb .dead,[T.os cs,.rs xs],[T.os (cellsO orow l++c0),.rs (x.map row')])
   |false=>none
  |_,_=>none
 sound:=by
  intro H H' l0 r h1 h2 c β st a w hr
  split at h1
  rename_i t s1 n cs s2 t2 xs hb hbj
  split at h1
  rename_i hse;simp only[Wh]at hse;obtain⟨⟨e2,e3⟩,e4⟩:=hse;have e2:=Wd e2;have e3:=Wd e3
  have e4:i≠jb:=λh=>gD
  subst e2 e3;cases h1;cases h2;obtain⟨β1,hr1,x1,y1⟩:=hr.bufTr hbj
  have hb1:(H.set jb (.tr t2 s2 (x.map row').length ((x.map row').flatten.map .pv)))[i]? = some (.tr t s1 n (cellsO orow l++c0)):=gD
  obtain⟨β2,hr2,x2,y2⟩:=hr1.give (q:=(cellsO orow l).length+off) (n':=(x.map row').length) e4 hb1 gD (W6 (We.1 hbj).1);rw[Wbl _ _ om,Wdq,Wt]at hr2 y2;rw[Wt]at y1
  have hcomm:∀ k,((H.set jb (.tr t2 s2 x.length ((x.map row').flatten.map .pv))).set i k).set jb .dead=(H.set i k).set jb .dead:=λk=>by
   rw[List.set_comm _ _ (Wcb e4),Wdh]
  rw[hcomm]at hr2 y2;exact⟨β2,hr2,Wd6 x1 x2,Wd8 y1 y2⟩;cases h1
  grind
def Gst.toBuf (i:Nat) (orow:α→List OV) (row:α→List PV) {s:Nat} (hs:∀ z,(row z).length=s) (hf:∀ z,FZs (orow z) (row z)) (l:List α):Gst G where
 run H:=match H[i]? with
  |some (.tr t s1 n cs)=>match Nat.beq s1 s with
   |true=>some (H.set i (.buf s t (l.map row) false),[T.os cs,.n n],[T.os (cellsO orow l),.n l.length])
   |false=>none
  |_=>none
 sound:=by
  intro H H' l0 r h1 h2 c β st a w hr
  split at h1
  rename_i t s1 n cs hb
  split at h1
  rename_i hse;have hse:=Wd hse;subst hse;cases h1;cases h2;exact hr.trBuf hb (FZs.cells hf l) sM (Zsu hs);cases h1
  grind
def Gst.toTr (i:Nat) (orow:α→List OV) (row:α→List PV) (l:List α) (h:((l.map row).flatten).map OV.pv=cellsO orow l):Gst G where
 run H:=match H[i]? with
  |some (.buf s t xs false)=>some (H.set i (.tr t s l.length (cellsO orow l)),[.rs xs],[.rs (l.map row)])
  |_=>none
 sound:=by
  intro H H' l0 r h1 h2 c β st a w hr
  split at h1
  rename_i s t xs hb;cases h1;cases h2;have:=hr.bufTr hb;rw[h,Wt]at this;exact this
  grind
def RelB.nilOwn {c:Ctx} {β:List Bnd} {st:St} {H:List Blk} {a:Act} {w:World} (h:RelB G c β st H a w) {i q t s n t' s':Nat} {cs:List OV} (hb:H[i]? = some (.tr t s n cs)) (hq:cs[q]? = some (.pv (.sc (.slice none 0 0)))) :
  ∃ β',RelB G c β' st (H.set i (.tr t s n (cs.set q (.own t' s' 0 [])))) a w∧BExt (λ_=>true) β β'∧Ext (stab c β H w) w (stab c β' (H.set i (.tr t s n (cs.set q (.own t' s' 0 [])))) w) w:=by
 obtain⟨e,he⟩:∃ e,β[i]? = some e:=⟨β[i]'(by rw[h.len];grind),gD⟩;obtain⟨l1,l2,rfl,rfl⟩:=Zz6 hq;obtain⟨k1,k2,k3,vals,bs',k4,k5,k6⟩:=h.trs he hb;obtain⟨us1,us2,b1,b2,rfl,rfl,k7,k8⟩:=Wd7 _ _ _ _ k5;cases us2
 simp  [OVRs]at k8
 rename_i u us2;obtain⟨d,b3,⟨hu,hd⟩,k9,hb3⟩:=k8;subst hu hd;subst hb3;obtain⟨r1,r2,r3⟩:=h.one (i:=i) (e:=e) (bs:=e.bs) (k':=.tr t s n (l1++.own t' s' 0 []::l2)) he hb rfl (λb hbb=>hbb) (λb hi hff=>hff)
  (λhx hbx=>by
   refine⟨k1,k2,k3,us1++.slice none 0 0::us2,b1++([]++b2),k4,Wfl _ _ _ _ _ _ (Wcq hx hbx _ _ _ (λ_ _=>rfl) k7) ?_,k6⟩
   exact⟨[],b2,⟨[],[],⟨sM,.inl ⟨rfl,rfl⟩⟩,rfl,rfl⟩,Wcq hx hbx _ _ _ (λ_ _=>rfl) k9,rfl⟩)
 grind
def Gst.nilA (i:Nat) (orow:α→List OV) (l:List α) (c0:List OV) (off t' s':Nat) (hc:c0[off]? = some (.pv (.sc (.slice none 0 0)))):Gst G where
 run H:=match H[i]? with
  |some (.tr t s1 n cs)=>some (H.set i (.tr t s1 n (cellsO orow l++c0.set off (.own t' s' 0 []))),[T.os cs],[T.os (cellsO orow l++c0)])
  |_=>none
 sound:=by
  intro H H' l0 r h1 h2 c β st a w hr
  split at h1
  rename_i t s1 n cs hb;cases h1;cases h2;have:=hr.nilOwn (q:=(cellsO orow l).length+off) (t':=t') (s':=s') hb gD
  rwa [Wbl _ _ om,Wdq]at this
  grind
def Hnd.idxT {l:List α} {j:Int} {z:α} (hz:AM.idx l j=some z):Hnd P G where
 run o st H:=match o.op with
  |.indexAddr t x y=>match P.underlying t,opd G st x,opd G st y with
   |some (.slice e),some (.own i n),some (.sc (.int _ j'))=>match H[i]? with
    |some (.tr _ s n1 _)=>match Nat.beq (P.cellsOf e) s&&!(Nat.beq s 0)with
     |true=>some ⟨.ept i l.length j.toNat 0,H,[.n n,.n n1,.i j'],[.n l.length,.n l.length,.i j]⟩
     |false=>none
    |_=>none
   |_,_,_=>none
  |_=>none
 sound:=by
  intro n0 o st H x h he
  suffices hT:OpT P G n0 o st H x.p x.H from hT.weak
  split at h
  rename_i t x y ho
  split at h
  rename_i e i n k j' hu hx hy
  split at h
  rename_i ty s n1 cs hb
  split at h
  rename_i hc;cases h;cases he;have h3:=Zo8 hz;exact OpT.index_tr ho hu sA (λh=>sA) hx hb hy h3.1 h3.2.1;cases h;cases h;cases h;cases h
def Hnd.fdT:Hnd P G where
 run o st H:=match o.op with
  |.fieldAddr s x f=>match fieldPl P s f,opd G st x with
   |some (d,m),some (.ept i n k off)=>match H[i]? with
    |some (.tr _ _ n1 _)=>match Nat.beq m 0 with
     |true=>none
     |false=>some ⟨.ept i n k (off+d),H,[.n n],[.n n1]⟩
    |_=>none
   |_,_=>none
  |_=>none
 sound:=by
  intro n0 o st H x h he
  suffices hT:OpT P G n0 o st H x.p x.H from hT.weak
  split at h
  rename_i s x f ho
  split at h
  rename_i d m i n k off hf hx
  split at h
  rename_i ty z n1 cs hb
  split at h
  cases h;rename_i hm;cases h;cases he
  unfold fieldPl at hf
  split at hf
  rename_i fs hu;cases hfd:fs[f]?;simp[hfd]at hf
  simp  [hfd]at hf
  obtain⟨rfl,rfl⟩:=hf;exact OpT.field_tr ho hu hfd (λh=>sA) hx hb;cases hf;cases h;cases h;cases h
def Hnd.lenT (l:List α):Hnd P G where
 run o st H:=match o.op with
  |.call cl=>match cl with
   |{callee:=.builtin .len,args:=⟨[x]⟩,argTypes:=⟨[T0]⟩}=>match P.underlying T0,opd G st x with
    |some (.slice _),some (.own i n)=>match H[i]? with
     |some (.tr _ _ n1 _)=>some ⟨.sc (.int .i64 l.length),H,[.n n,.n n1],[.n l.length,.n l.length]⟩
     |_=>none
    |_,_=>none
   |_=>none
  |_=>none
 sound:=by
  intro n0 o st H x h he
  suffices hT:OpT P G n0 o st H x.p x.H from hT.weak
  split at h
  rename_i cl ho
  split at h
  split at h
  rename_i e i n hu hx
  split at h
  rename_i ty s n1 cs hb;cases h;cases he;exact OpT.len_tr ho rfl hu hx hb;cases h;cases h;cases h;cases h
def Hnd.ldT (orow:α→List OV) {s:Nat} (hs:∀ z,(orow z).length=s) {l:List α} {j:Int} {z:α} (hz:AM.idx l j=some z):Hnd P G where
 run o st H:=match o.op with
  |.load t x=>match opd G st x with
   |some (.ept i n k off)=>match H[i]? with
    |some (.tr _ s1 n1 cs)=>match Nat.beq s1 s&&Nat.ble off s with
     |true=>(ldPV P t (plains ((orow z).drop off))).map λp=>⟨p,H,[.n n,.n n1,.n k,T.os cs],[.n l.length,.n l.length,.n j.toNat,T.os (cellsO orow l)]⟩
     |false=>none
    |_=>none
   |_=>none
  |_=>none
 sound:=by
  intro n0 o st H x h he
  suffices hT:OpT P G n0 o st H x.p x.H from hT.weak
  split at h
  rename_i t x ho
  split at h
  rename_i i n k off hx
  split at h
  rename_i ty s1 n1 cs hb
  split at h
  rename_i hc;simp only[Wh]at hc;have h1:=Wd hc.1;subst h1
  simp at h
  obtain⟨p,hp,rfl⟩:=h;cases he;exact OpT.load_tr ho hx hb (Zahu hs hz sA hp);cases h;cases h;cases h;cases h
def Hnd.ldH (orow:α→List OV) {s:Nat} (hs:∀ z,(orow z).length=s) {l:List α} {j:Int} {z:α} (hz:AM.idx l j=some z) (p:PV):Hnd P G where
 run o st H:=match o.op with
  |.load t x=>match opd G st x with
   |some (.ept i n k off)=>match H[i]?,isAggT P t with
    |some (.tr _ s1 n1 cs),some false=>match Nat.beq s1 s&&Nat.blt off s with
     |true=>some ⟨p,H,[.n n,.n n1,.n k,T.os cs],[.n l.length,.n l.length,.n j.toNat,T.os ((cellsO orow l).set (j.toNat*s+off) (.pv p))]⟩
     |false=>none
    |_,_=>none
   |_=>none
  |_=>none
 sound:=by
  intro n0 o st H x h he
  suffices hT:OpT P G n0 o st H x.p x.H from hT.weak
  split at h
  rename_i t x ho
  split at h
  rename_i i n k off hx
  split at h
  rename_i ty s1 n1 cs hb hag
  split at h
  rename_i hc;simp only[Wh]at hc;have h1:=Wd hc.1;subst h1;have hlt:=W2 hc.2;cases h;cases he
  refine OpT.load_tr ho hx hb ?_
  have hd:((cellsO orow l).set (j.toNat*s1+off) (.pv p)).drop (j.toNat*s1+off)=.pv p::(cellsO orow l).drop (j.toNat*s1+off+1):=by
   rw[←List.getElem_cons_drop (by simpa using Zabf hs hz hlt),List.getElem_set_self,Wfv om]
  rw[hd];simp only[plains,W0,plain1,ldPV,hag,List.head?_cons];cases h;cases h;cases h;cases h
def Hnd.stO (orow:α→List OV) {s:Nat} (hs:∀ z,(orow z).length=s) {l:List α} {j:Int} {z:α} (hz:AM.idx l j=some z) (off0:Nat) (p0:Option PV):Hnd P G where
 run o st H:=match o.op with
  |.store t x y=>match opd G st x,opd G st y with
   |some (.ept i n k off),some (.own jb m)=>match H[i]? with
    |some (.tr ty s1 n1 cs)=>match Nat.beq s1 s&&(Nat.beq (P.cellsOf t) 1&&(P.info? t).isSome&&Nat.blt off s&&Nat.beq off off0)with
     |true=>some ⟨.sc undef,H.set i (.tr ty s1 n1 ((cellsO orow l).set (j.toNat*s+off0) (.pv (.own jb m)))),[.n n,.n n1,.n k,T.os cs],[.n l.length,.n l.length,.n j.toNat,T.os (match p0 with|none=>cellsO orow l|some p=>(cellsO orow l).set (j.toNat*s+off0) (.pv p))]⟩
     |false=>none
    |_=>none
   |_,_=>none
  |_=>none
 sound:=by
  intro n0 o st H x h he
  suffices hT:OpT P G n0 o st H x.p x.H from hT.weak
  split at h
  rename_i t x y ho
  split at h
  rename_i i n k off jb m hx hy
  split at h
  rename_i ty s1 n1 cs hb
  split at h
  rename_i hc;simp only[Wh]at hc;obtain⟨c0,⟨⟨c1,c2⟩,c3⟩,c4⟩:=hc;have h1:=Wd c0;have h2:=Wd c4;subst h1 h2;cases h;simp only[Wai,Wed,T.os_inj,and_true]at he;obtain⟨rfl,rfl,rfl,hcs⟩:=he;have hlt:=W2 c3;have h3:=Zo8 hz
  have hbound:j.toNat*s1+off+1≤l.length*s1:=by
   have:(j.toNat+1)*s1≤l.length*s1:=W8 s1 om
   grind
  have hcl:(PV.own jb m).cells=[.own jb m]:=rfl;have:=OpT.store_tr (n0:=n0) ho hx hy hb sA c2 gD rfl;rw[hcl]at this
  have hset:∀ cs:List OV,j.toNat*s1+off<cs.length→cs.take (j.toNat*s1+off)++[PV.own jb m].map OV.pv++cs.drop (j.toNat*s1+off+[PV.own jb m].length)=cs.set (j.toNat*s1+off) (.pv (.own jb m)):=λcs hl=>by
   rw[List.set_eq_take_append_cons_drop,if_pos hl];simp
  have hgl:j.toNat*s1+off<(cellsO orow l).length:=by rw[Z9p hs];omega
  rw[hset cs gD,hcs]at this;cases p0;exact this;simp_all;cases h;cases h;cases h;cases h
def Hnd.litFb:Hnd P G where
 run o st H:=match o.op with
  |.buildSlice t len parts=>match opds G st parts.toList with
   |some ps=>match litPV P t len ps with
    |some (e,out)=>some ⟨.own H.length len,H++[.fb (P.cellsOf e) e (rowsOf (P.cellsOf e) len out)],[],[]⟩
    |none=>none
   |none=>none
  |_=>none
 sound:=by
  intro n0 o st H x h he
  suffices hT:OpT P G n0 o st H x.p x.H from hT.weak
  split at h
  rename_i t len parts ho
  split at h
  rename_i ps hp
  split at h
  rename_i e out hl;cases h;exact OpT.litF ho hp hl;cases h;cases h;cases h
def Hnd.appT (orow:α→List OV) (l m:List α) (c0:List OV) (hn:l.length+m.length≤lim):Hnd P G where
 run o st H:=match o.op with
  |.call cl=>match cl with
   |{callee:=.builtin .append,args:=⟨[x,y]⟩,argTypes:=⟨[T0,U]⟩}=>match P.underlying T0,P.underlying U,opd G st x,opd G st y with
    |some (.slice t),some (.slice _),some (.own i n),some (.own b n2)=>match P.info? t,H[i]?,H[b]? with
     |some ti,some (.tr t' s n1 cs),some (.fb s2 _ ys)=>match ti.zero with
      |some z=>match Nat.beq t t'&&Nat.beq ti.size s&&Nat.beq z.cells.size s&&Nat.ble ti.bytes 65536&&Nat.beq s s2&&ys.flatten.all PV.one with
       |true=>some ⟨.own i (l++m).length,H.set i (.tr t s (l++m).length (cellsO orow l++c0)),[.n n,.n n1,T.os cs,.n n2,.n ys.length,T.os (ys.flatten.map .pv)],[.n l.length,.n l.length,T.os (cellsO orow l),.n m.length,.n m.length,T.os c0]⟩
       |false=>none
      |none=>none
     |_,_,_=>none
    |_,_,_,_=>none
   |_=>none
  |_=>none
 sound:=by
  intro n0 o st H x h he
  suffices hT:OpT P G n0 o st H x.p x.H from hT.weak
  split at h
  rename_i cl ho
  split at h
  split at h
  rename_i t e i n b n2 hu1 hu2 hx hy
  split at h
  rename_i ti t' s n1 cs s2 t2 ys hti hb hbb
  split at h
  rename_i z hz
  split at h
  rename_i hc;simp only[Wh]at hc;obtain⟨⟨⟨⟨⟨c1,c2⟩,c3⟩,c4⟩,c5⟩,c6⟩:=hc;have c1:=Wd c1;have c5:=Wd c5;subst c1 c5;cases h;simp only[Wai,Wed,T.os_inj,and_true]at he;obtain⟨rfl,rfl,rfl,h5,h6,rfl⟩:=he
  have hlim:l.length+ys.length≤lim:=om
  have hby:=by
   have:=Wdy hlim (W2 c4);omega
  have:=OpT.append_tr (n0:=n0) ho rfl hu1 hu2 hti hz (Wd c2) (Wd c3) hx hb gD hbb c6 hby (by unfold lim at hlim;omega);rw[Wm,←h6];exact this;cases h;cases h;cases h;cases h;cases h;cases h
end
section
variable {P:Program} {G:Glob} {n0 nt:Nat} {o:Oper} {st:St} {H H':List Blk} {Q:Exit→St→List Blk→Prop} {α:Type}
def Hnd.s:Hnd P G where
 run o st H:=(stdRun P G o st H).map λr=>⟨r.1,r.2,[],[]⟩
 sound:=by
  intro n0 o st H x h he;simp only[Wg]at h;obtain⟨r,h1,rfl⟩:=h;exact(Wgi h1).weak
def Gst.share (i:Nat):Gst G where
 run H:=match H[i]? with
  |some (.buf s t xs _)=>some (H.set i (.buf s t xs true),[],[])
  |_=>none
 sound:=by
  intro H H' l r h1 _ c β st a w hr
  split at h1
  rename_i s t xs sh hb;cases h1
  refine⟨β,hr.share hb,W3 _ _,⟨λb hi hs=>?_,λ_ _ _ _ _ _ h=>h⟩⟩
  rcases hs with hs|⟨h2,h3,h4⟩
  exact .inl hs
  refine .inr ⟨h2,h3,λj e k he hk=>?_⟩
  rcases Zoq hk with⟨_,hk⟩|⟨rfl,rfl⟩
  exact h4 j e k he hk;intro hbb;have:=h4 j e _ he hb hbb;exact⟨rfl,this.2⟩
  grind
def wkP (H:List Blk):PV→PV
 |.own j n=>match H[j]? with
  |some (.buf s _ xs true)=>match Nat.beq n xs.length with
   |true=>.sl s xs
   |false=>.own j n
  |_=>.own j n
 |p=>p
def wkP_wk (H:List Blk) (p:PV):Wk H false p (wkP H p):=by
 unfold wkP;split;split;rename_i j n x s t xs hb;split;rename_i hn;have:=Wd hn;subst this;exact .own j s t xs true hb (.inr rfl);exact .refl _;exact .refl _;exact .refl _
def OpW.ofWk {p:PV} {st':St} (hw:∀ c a w β,RelB G c β st H a w→RelB G c β st' H a w) (h:OpW P G n0 o st' H p H'):OpW P G n0 o st H p H':=by
 intro c a w β h0 hr
 refine Zh4 (h {c with gh:=(st.map λx=>(x.2,a.tmps.getD x.1 undef))++c.gh} a w β h0 ((hw c a w β hr).ghost (g:=st.map λx=>(x.2,a.tmps.getD x.1 undef)) (λx hx=>by
  obtain⟨y,hy,rfl⟩:=W9.1 hx
  exact(hr.slots y hy).2))) λv w' ⟨β',h1,h2⟩=>?_
 obtain⟨h3,h4⟩:=h1.unghost;exact⟨β',⟨h3.ok,h3.len,h3.pre,h3.blk,h3.inj,h3.loc,h3.cel,λx hx=>⟨(hr.slots x hx).1,h4 _ (Wcm hx)⟩,h3.nt,h3.dfr,h3.frm,h3.gh⟩,h2⟩
def wkJ (j s:Nat) (xs:List (List PV)):PV→PV
 |.own i n=>match Nat.beq i j with
  |true=>.sl s xs
  |false=>.own i n
 |p=>p
def ownNs (j:Nat):St→List Nat
 |[]=>[]
 |(_,.own i n)::st=>match Nat.beq i j with
  |true=>n::ownNs j st
  |false=>ownNs j st
 |_::st=>ownNs j st
def Z9q {j n k:Nat}:∀ {st:St},(k,PV.own j n)∈st→n∈ownNs j st
 |[],h=>gD
 |(q,p)::st,h=>by
  rcases W1.1 h with h|h
  cases h;simp  [ownNs,Nat.beq_refl,W1,true_or];have ih:=Z9q h
  cases p with
  |own i m=>
   simp  [ownNs]
   grind
  |_=>exact ih
def Hnd.wkO (j:Nat) (row:α→List PV) (l:List α) (k:Hnd P G):Hnd P G where
 run o st H:=match H[j]? with
  |some (.buf s _ xs true)=>(k.run o (st.map λx=>(x.1,wkJ j s (l.map row) x.2)) H).map λx=>⟨x.p,x.H,.rs xs::.ns (ownNs j st)::x.l,.rs (l.map row)::.ns ((ownNs j st).map λ_=>l.length)::x.r⟩
  |_=>none
 sound:=by
  intro n0 o st H x h he
  split at h
  rename_i s t xs hb
  simp at h
  obtain⟨y,hy,rfl⟩:=h
  simp at he
  obtain⟨rfl,hn,he⟩:=he;show OpW P G n0 o st H y.p y.H
  refine OpW.ofWk (λc a w β hr=>?_) (k.sound hy he)
  refine⟨hr.ok,hr.len,hr.pre,hr.blk,hr.inj,hr.loc,hr.cel,λz hz=>?_,hr.nt,hr.dfr,hr.frm,hr.gh⟩
  obtain⟨⟨q,p⟩,hp,rfl⟩:=W9.1 hz
  refine⟨(hr.slots _ hp).1,hr.wk (hr.slots _ hp).2 ?_⟩
  cases p with
  |own i n=>
   simp  [wkJ];split;rename_i hi;have hi:=Wd hi;subst hi;have hm:=Z9q hp;rw[hn]at hm;obtain⟨_,_,rfl⟩:=W9.1 hm;have:=Wk.own (any:=false) i s t (l.map row) true hb (.inr rfl)
   rwa [Wt]at this
   exact .refl _
  |_=>exact .refl _
  cases h
def Zaaf {c:Ctx} {β:List Bnd} {a:Act} {w:World} (hr:RelB G c β st H a w) {lo hi:Option Operand} {n:Nat} {l h:Int} (hlo:loOf G st lo=some l) (hhi:hiOf G st n hi=some h) (h0:0≤l) (h1:l≤h) (h2:h≤n) :
  (Instr.sliceBounds false n n (lo.map a.eval) (hi.map a.eval) none).run P w=.ok (l.toNat,h.toNat,n) w:=by
 have hhv:=Zad6 hr hhi;cases lo;cases hlo;cases hi;cases hhi;simp[Instr.sliceBounds];rename_i y;obtain⟨k,hy⟩:=hhv y rfl;simp[Instr.sliceBounds,hy,Instr.sliceBound,asIntOf,h2,h1];rename_i x';obtain⟨k',hx''⟩:=Zad5 hr hlo x' rfl;cases hi;cases hhi;simp[Instr.sliceBounds,hx'',Instr.sliceBound,asIntOf,h0,h1];rename_i y;obtain⟨k,hy⟩:=hhv y rfl
 have h0h:0≤h:=om
 simp[Instr.sliceBounds,hx'',hy,Instr.sliceBound,asIntOf,h2,h0,h0h];omega
def Hnd.subS {s:ByteArray} {l h:Int} (hh:0≤l∧l≤h∧h≤(s.size:Int)):Hnd P G where
 run o st H:=match o.op with
  |.slice t x lo hi none=>match P.underlying t,opd G st x,loOf G st lo,hiOf G st s.size hi with
   |some .string,some (.sc v),some l',some h'=>some ⟨.sc (.string (s.extract l.toNat h.toNat)),H,[.v v,.i l',.i h'],[.v (.string s),.i l,.i h]⟩
   |_,_,_,_=>none
  |_=>none
 sound:=by
  intro n0 o st H x hr he
  suffices hT:OpT P G n0 o st H x.p x.H from hT.weak
  split at hr
  ·rename_i t x lo hi ho
   split at hr
   ·rename_i v l' h' hu hx hlo hhi
    simp only[Wn]at hr;subst hr;simp only[Wai,T.v.injEq,T.i.injEq,and_true]at he;obtain⟨rfl,rfl,rfl⟩:=he
    refine Waa λc a w β hn hr=>⟨.string (s.extract l'.toNat h'.toNat),?_,by simp only[VR]⟩
    have g1:=hr.opd hx;simp only[VR]at g1;have hsb:=Zaaf (P:=P) hr hlo hhi hh.1 hh.2.1 hh.2.2;simp[execOp,ho,Instr.sliceAt,Instr.slice,Wu hu,g1,hsb]
   ·cases hr
  ·cases hr
def OpT.len_ln {cl:Call} {x:Operand} {T e n:Nat} (ho:o.op=.call cl) (hcl:cl={callee:=.builtin .len,args:=#[x],argTypes:=#[T]}) (hT:P.underlying T=some (.slice e)) (hx:opd G st x=some (.ln n)):OpT P G n0 o st H (.sc (.int .i64 n)) H:=
 Waa λc a w β h0 hr=>by
  obtain⟨ad,cap,hv⟩:=hr.opd hx
  refine⟨.int .i64 n,?_,by simp  [VR]⟩
  simp[execOp,ho,hcl,resolve,invoke,builtin,hv,Builtin.len_,Wu hT,goInt]
def Hnd.lenL:Hnd P G where
 run o st H:=match o.op with
  |.call cl=>match cl with
   |{callee:=.builtin .len,args:=⟨[x]⟩,argTypes:=⟨[T0]⟩}=>match P.underlying T0,opd G st x with
    |some (.slice _),some (.ln n)=>some ⟨.sc (.int .i64 n),H,[],[]⟩
    |_,_=>none
   |_=>none
  |_=>none
 sound:=by
  intro n0 o st H x h he
  suffices hT:OpT P G n0 o st H x.p x.H from hT.weak
  split at h
  rename_i cl ho
  split at h
  split at h
  rename_i e n hu hx;cases h;exact OpT.len_ln ho rfl hu hx;cases h;cases h;cases h
def FZs.c {o:OV} {os:List OV} {p:PV} {ps:List PV} (h:FZ o p) (k:FZs os ps):FZs (o::os) (p::ps):=⟨h,k⟩
def FZs.n:FZs [] []:=by simp  [FZs]
def Wfk:=@Nat.add_comm
def Wgr:=@List.ext_getElem
def Zabh (z:Array Value) (s:Nat) (hs:z.size=s) (h0:0<s):∀ n ,(List.range (n*s)).map (λi=>z[i%s]!)=(List.replicate n z.toList).flatten
 |0=>sM
 |n+1=>by
  rw[Wcw,Wfk,List.range_add,Wat,List.replicate_succ,Wb0,←Zabh z s hs h0 n]
  congr 1
  refine Wgr gD λi h1 h2=>?_
  simp at h1
  simp  [List.getElem_map,List.getElem_range,Nat.mod_eq_of_lt h1,Array.getElem_toList];rw[getElem!_pos z i om];simp_all
def Z6s (x:List PV) (s:Nat) (hs:x.length=s):∀ n ,rowsOf s n (List.replicate n x).flatten=List.replicate n x
 |0=>rfl
 |n+1=>by
  simp only[rowsOf,List.replicate_succ,Wb0];rw[Wc0 hs,Wc3 hs,Z6s x s hs n]
def Wf9:=@List.map_replicate
def Zagk (row:α→List PV) (z0:α) (z:Array Value) (s n:Nat) (hs:z.size=s) (h0:0<s) (hz:row z0=z.toList.map .sc):rowsOf s n (((madeCells z (n*s)).toList.take (n*s)).map .sc)=(List.replicate n z0).map row:=by
 rw[Wbe (by rw[Wa7,size_madeCells];grind),Wf9,hz]
 have:(madeCells z (n*s)).toList=(List.range (n*s)).map (λi=>z[i%s]!):=by
  simp[madeCells,hs]
 rw[this,Zabh z s hs h0,List.map_flatten,Wf9];exact Z6s _ s gD n
def Wes:=@Bool.not_eq_true'
def Wbf:=@Int.le_refl
def Wc4:=@List.length_replicate
def Hnd.mkN (row:α→List PV) (z0:α) {m:Int} (hm:0≤m∧m≤(lim:Int)):Hnd P G where
 run o st H:=match o.op with
  |.makeSlice t x y=>match P.underlying t,opd G st x,opd G st y with
   |some (.slice e),some (.sc (.int _ l)),some (.sc (.int _ m'))=>match P.info? e with
    |some ti=>match ti.zero with
     |some z=>match Nat.ble ti.bytes 65536&&Nat.beq z.cells.size ti.size&&!(Nat.beq ti.size 0)with
      |true=>some ⟨.own H.length (List.replicate m.toNat z0).length,H++[.buf ti.size e (List.map row (List.replicate m.toNat z0)) false],[.i l,.i m',.ps (z.cells.toList.map .sc)],[.i m,.i m,.ps (row z0)]⟩
      |false=>none
     |none=>none
    |none=>none
   |_,_,_=>none
  |_=>none
 sound:=by
  intro n0 o st H x h he
  suffices hT:OpT P G n0 o st H x.p x.H from hT.weak
  split at h
  ·rename_i t x y ho
   split at h
   ·rename_i e k l k' m' hu hx hy
    split at h
    ·rename_i ti hti
     split at h
     ·rename_i z hz
      split at h
      ·rename_i hc
       simp only[Wh,Wes]at hc;obtain⟨⟨hb,h3⟩,h4⟩:=hc;have h3:=Wd h3
       have h4:0<ti.size:=Nat.pos_of_ne_zero λh=>by rw[h]at h4;cases h4
       simp only[Wn]at h;subst h;simp only[Wai,T.i.injEq,T.ps.injEq,and_true]at he;obtain⟨rfl,rfl,hz0⟩:=he;obtain⟨h1,h2⟩:=bounded hm.1 hm.2 (W2 hb);have:=Wh6 (n0:=n0) (H:=H) ho hu hti hz hx hy hm.1 (Wbf _) h1 (W2 h2);rw[Zagk row z0 z.cells ti.size _ h3 h4 hz0.symm]at this;rw[Wc4];exact this
      ·cases h
     ·cases h
    ·cases h
   ·cases h
  ·cases h
def Gst.ownF (i q s t:Nat):Gst G where
 run H:=match H[i]? with
  |some k=>match k.isCF,k.rowOf[q]? with
   |true,some (.sc (.slice none 0 0))=>match Nat.blt i H.length with
    |true=>some ((H++[Blk.buf s t [] false]).set i (.far (k.rowOf.set q (.own H.length 0))),[],[])
    |false=>none
   |_,_=>none
  |none=>none
 sound:=by
  intro H H' l r h1 _ c β st a w hr
  split at h1
  rename_i k hb
  split at h1
  rename_i hcf hq
  split at h1
  cases h1;have hil:=(We.1 hb).1;obtain⟨g1,g2⟩:=hr.own s t
  have hb':(H++[Blk.buf s t [] false])[i]? = some k:=gD
  have hown:VR (stab c (β++[⟨0,.slice none 0 0,0,s,[]⟩]) (H++[.buf s t [] false]) w) (β++[⟨0,.slice none 0 0,0,s,[]⟩]) w (.own H.length 0) (.slice none 0 0):=⟨⟨_,_,rfl⟩,_,by rw[Wa6 (by rw[hr.len];grind),hr.len,Nat.sub_self];rfl,Ws _,λ_=>rfl⟩;obtain⟨e,he⟩:∃ e,(β++[(⟨0,.slice none 0 0,0,s,[]⟩:Bnd)])[i]? = some e:=⟨_,Wr (by rw[g1.len];simp;omega)⟩;obtain⟨vs,ty,k1,k2⟩:=Wgk hcf (g1.blk i e _ he hb');obtain⟨l1,l2,e1,e2⟩:=Zz6 hq
  have hvs:VRs (stab c (β++[⟨0,.slice none 0 0,0,s,[]⟩]) (H++[.buf s t [] false]) w) (β++[⟨0,.slice none 0 0,0,s,[]⟩]) w (k.rowOf.set q (.own H.length 0)) vs.toList:=by
   rw[e1,←e2,Zai3];rw[e1]at k2;have k3:=Wdj l1.length _ _ k2;have k4:=Wdk l1.length _ _ k2;rw[Whc]at k3;rw[Whd]at k4;rw[←Waz l1.length vs.toList]
   refine VRs.append _ _ _ _ k3 ?_
   cases hd:vs.toList.drop l1.length;rw[hd]at k4;simp only[VRs]at k4;rw[hd]at k4;obtain⟨k5,k6⟩:=k4;subst k5;exact⟨hown,k6⟩
  have hw:=g1.writeF he hb' hcf (us:=vs) hvs sM
  have hsame:w.setRow e.b vs=w:=by
   obtain⟨fz,h5,_⟩:=k1;exact setRow_self w e.b vs ty fz h5
  rw[hsame]at hw;exact⟨_,hw.1,Wbz _ _,Wd8 g2 hw.2⟩;cases h1;cases h1;cases h1
def Le.toFar {i:Nat} {cs:List PV} (hb:H[i]? = some (.cells cs)):Le G n0 nt st H st (H.set i (.far cs)):=λc a w β _ _ hr=>
 ⟨β,hr.wkF hb rfl (cs':=cs) (Wem _ _ _)⟩
def Zto {orow:α→List OV} {l:List α} (h:∀ z,OV.idss (λ_=>false) (orow z)=true):OV.idss (λ_=>false) (cellsO orow l)=true:=by
 induction l with
 |nil=>simp  [cellsO,Wbu,Wdd,OV.idss]
 |cons x l ih=>
  have app:∀ a b,OV.idss (λ_=>false) a=true→OV.idss (λ_=>false) b=true→OV.idss (λ_=>false) (a++b)=true:=λa b ha hb=>by
   induction a with
   |nil=>grind
   |cons p a ih=>
    simp  [OV.idss]at ha
    simp  [Wdc,OV.idss]
    grind
  exact app _ _ (h x) ih
def Zbr {t s:Nat} {row:α→List PV} (h:∀ z,PV.idss (λ_=>false) (row z)=true) (l:List α):OV.ids (λ_=>false) (owB t s row l)=true:=by
 simp only[owB,OV.ids];have h1:=Zxo h l
 generalize (l.map row).flatten=ps at h1
 induction ps with
 |nil=>simp only[Wbu,OV.idss]
 |cons p ps ih=>
  simp only[PV.idss]at h1;simp only[W0,OV.idss,OV.ids]
  grind
def OVids.c {q:Nat→Bool} {o:OV} {os:List OV} (h:o.ids q=true) (k:OV.idss q os=true):OV.idss q (o::os)=true:=by simp  [OV.idss,h,k,Wf6]
def Wbh:=@OVids.c
theorem OVids.n {q:Nat→Bool}:OV.idss q []=true:=rfl
def Wbi:=@OVids.n
def Le.frF {i:Nat} {cs cs':List PV} (hb:H[i]? = some (.far cs)) (hw:Wks H false cs cs') (hi:PV.idss (λj=>decide (j<i)) cs'=true):Le G n0 nt st H st (H.set i (.cells cs')):=λc a w β _ _ hr=>by
 have h2:=(hr.wkF hb rfl (cs':=cs') hw).near (cs:=cs') gD hi;rw[Wdh]at h2
 grind
end
section
variable {P:Program} {G:Glob} {α:Type}
inductive WkZ:List PV→List OV→Prop
 |nil:WkZ [] []
 |same {ps:List PV} {os:List OV} {p:PV}:WkZ ps os→WkZ (p::ps) (.pv p::os)
 |own {ps:List PV} {os:List OV} {t s:Nat}:WkZ ps os→WkZ (.sc (.slice none 0 0)::ps) (.own t s 0 []::os)
 |sl {ps:List PV} {os:List OV} {s:Nat}:WkZ ps os→WkZ (.sc (.slice none 0 0)::ps) (.pv (.sl s [])::os)
def WkZ.app {ps:List PV} {os:List OV} {ps':List PV} {os':List OV} (h:WkZ ps os) (h':WkZ ps' os'):WkZ (ps++ps') (os++os'):=by
 induction h with
 |nil=>grind
 |same _ ih=>exact .same ih
 |own _ ih=>exact .own ih
 |sl _ ih=>exact .sl ih
def WkZ.rep {ps:List PV} {os:List OV} (h:WkZ ps os):∀ n ,WkZ (List.replicate n ps).flatten (List.replicate n os).flatten
 |0=>.nil
 |n+1=>h.app (WkZ.rep h n)
def VR.nilSl {S:Nat→Nat→Prop} {β:List Bnd} {w:World} {s:Nat} {u:Value} (h:VR S β w (.sc (.slice none 0 0)) u):VR S β w (.sl s []) u:=by
 simp  [VR]at h⊢
 grind
def OVRs.wkz {S:Nat→Nat→Prop} {β:List Bnd} {w:World} {base:Nat} {ps:List PV} {os:List OV} (h:WkZ ps os) :
  ∀ us bs,OVRs S β w base (ps.map .pv) us bs→OVRs S β w base os us bs:=by
 induction h with
 |nil=>grind
 |same _ ih=>
  intro us bs h;cases us
  simp  [W0,OVRs]at h
  simp  [W0,OVRs]at h⊢
  grind
 |own _ ih=>
  intro us bs h;cases us
  simp  [W0,OVRs]at h
  obtain⟨b1,b2,⟨hu,hb⟩,h2,h3⟩:=h;subst hu hb;exact⟨[],b2,⟨[],[],⟨sM,.inl ⟨rfl,rfl⟩⟩,rfl,rfl⟩,ih _ _ h2,h3⟩
 |sl _ ih=>
  intro us bs h;cases us
  simp  [W0,OVRs]at h
  obtain⟨b1,b2,⟨hu,hb⟩,h2,h3⟩:=h;exact⟨b1,b2,⟨VR.nilSl hu,hb⟩,ih _ _ h2,h3⟩
def RelB.wkz {c:Ctx} {β:List Bnd} {st:St} {H:List Blk} {a:Act} {w:World} (h:RelB G c β st H a w) {i t s n:Nat} {ps:List PV} {os:List OV} (hb:H[i]? = some (.tr t s n (ps.map .pv))) (hz:WkZ ps os) :
  ∃ β',RelB G c β' st (H.set i (.tr t s n os)) a w∧BExt (λ_=>true) β β'∧Ext (stab c β H w) w (stab c β' (H.set i (.tr t s n os)) w) w:=by
 obtain⟨e,he⟩:∃ e,β[i]? = some e:=⟨β[i]'(by rw[h.len];grind),gD⟩;obtain⟨k1,k2,k3,vals,bs',k4,k5,k6⟩:=h.trs he hb;obtain⟨r1,r2,r3⟩:=h.one (i:=i) (e:=e) (bs:=e.bs) (k':=.tr t s n os) he hb rfl (λb hbb=>hbb) (λb hi hff=>hff)
  (λhx hbx=>⟨k1,k2,k3,vals,bs',k4,Wcq hx hbx _ _ _ (λ_ _=>rfl) (OVRs.wkz hz _ _ k5),k6⟩)
 grind
def Gst.toTz (i:Nat) (orow:α→List OV) (z0:α) (m:Nat) {ps:List PV} (hz:WkZ ps (orow z0)):Gst G where
 run H:=match H[i]? with
  |some (.buf s t xs false)=>some (H.set i (.tr t s (List.replicate m z0).length (cellsO orow (List.replicate m z0))),[.rs xs],[.rs (List.map (λx=>x) (List.replicate m ps))])
  |_=>none
 sound:=by
  intro H H' l0 r h1 h2 c β st a w hr
  split at h1
  rename_i s t xs hb;cases h1;cases h2;obtain⟨β1,hr1,x1,y1⟩:=hr.bufTr hb;simp only[List.map_id',Wc4]at hr1 y1;obtain⟨β2,hr2,x2,y2⟩:=hr1.wkz (W6 (We.1 hb).1) (hz.rep m);rw[Wdh]at hr2 y2;simp  [cellsO,Wf9,Wc4];exact⟨β2,hr2,Wd6 x1 x2,Wd8 y1 y2⟩
  grind
def Hnd.ownAs (n n':Nat) (hn:n=n') (k:Hnd P G):Hnd P G where
 run o st H:=match k.run o st H with
  |some x=>match x.p with
   |.own j q=>some ⟨.own j n',x.H,.n q::x.l,.n n::x.r⟩
   |_=>none
  |none=>none
 sound:=by
  intro n0 o st H x h he
  split at h
  rename_i y hy
  split at h
  rename_i j q hp;cases h
  simp at he
  obtain⟨rfl,he⟩:=he;subst hn;have:=k.sound hy he (n0:=n0);rw[hp]at this;exact this;cases h;cases h
def retL (m:Nat) (ks:List Blk):Prop:=ks.all (λk=>k.isRet&&k.farO m)=true
theorem retN {m:Nat}:retL m []:=rfl
def retC {m:Nat} {k:Blk} {ks:List Blk} (h:(k.isRet&&k.farO m)=true) (hk:retL m ks):retL m (k::ks):=by
 simp only[retL,Wd4,h];exact hk
def retT {m t s n:Nat} {orow:α→List OV} {l:List α} {ks:List Blk} (h:∀ z,OV.idss (λ_=>false) (orow z)=true) (hk:retL m ks):retL m (.tr t s n (cellsO orow l)::ks):=
 retC (Weh (λj hj=>gD) _ (Zto h)) hk
end
inductive Fr where
 |c (x:Code)
 |b (id:Nat)
 |x (e:Exit)
structure Cf where
 fs:List Fr
 st:St
 H:List Blk
section
variable {P:Program} {G:Glob} {n0 nt:Nat} {st st':St} {H H':List Blk} {fs gs:List Fr} {q:Exit→St→List Blk→Prop}
def runF (P:Program) (G:Glob) (n0 nt:Nat) (q:Exit→St→List Blk→Prop):List Fr→Exit→St→List Blk→Prop
 |[],e,st,H=>q e st H
 |f::fs,e,st,H=>match f with
  |.c x=>match e with
   |.normal=>AWP P G n0 nt x (runF P G n0 nt q fs) st H
   |e=>runF P G n0 nt q fs e st H
  |.b i=>match e with
   |.exit j=>match Nat.beq j i with
    |true=>runF P G n0 nt q fs .normal st H
    |false=>runF P G n0 nt q fs (.exit j) st H
   |e=>runF P G n0 nt q fs e st H
  |.x e'=>match e with
   |.normal=>runF P G n0 nt q fs e' st H
   |e=>runF P G n0 nt q fs e st H
def popE (i:Nat):List Fr→Option (List Fr)
 |[]=>none
 |f::fs=>match f with
  |.b j=>match Nat.beq i j with
   |true=>some fs
   |false=>popE i fs
  |.c _=>popE i fs
  |.x _=>popE i fs
def Zq5 {i:Nat}:∀ {fs:List Fr},popE i fs=some gs→runF P G n0 nt q gs .normal st H→runF P G n0 nt q fs (.exit i) st H
 |[],h,_=>by simp[popE]at h
 |f::fs,h,k=>by
  cases f with
  |c x=>exact Zq5 (fs:=fs) h k
  |x e=>exact Zq5 (fs:=fs) h k
  |b j=>
   simp  [popE]at h
   simp  [runF]
   cases hb:Nat.beq i j with
   |true=>grind
   |false=>simp  [hb]at h⊢;exact Zq5 (fs:=fs) h k
def Zu7 {i:Nat}:∀ {fs:List Fr},popE i fs=none→q (.exit i) st H→runF P G n0 nt q fs (.exit i) st H
 |[],_,k=>k
 |f::fs,h,k=>by
  cases f with
  |c x=>exact Zu7 (fs:=fs) h k
  |x e=>exact Zu7 (fs:=fs) h k
  |b j=>
   simp  [popE]at h
   simp  [runF]
   cases hb:Nat.beq i j with
   |true=>grind
   |false=>simp  [hb]at h⊢;exact Zu7 (fs:=fs) h k
def Zz7:∀ {fs:List Fr},q .ret st H→runF P G n0 nt q fs .ret st H
 |[],k=>k
 |f::fs,k=>by cases f<;>exact Zz7 (fs:=fs) k
inductive Nf where
 |reg (id:Nat) (ops:Array Oper) (d:Bool) (fs:List Fr)
 |cond (x:Operand) (a b:Code) (fs:List Fr)
 |loop (id:Nat) (x:Code) (fs:List Fr)
 |fin (e:Exit)
 |bad
def nf:Nat→List Fr→Nf
 |0,_=>.bad
 |n+1,fs=>match fs with
  |[]=>.fin .normal
  |f::fs=>match f with
   |.b _=>nf n fs
   |.x e=>match e with
    |.normal=>nf n fs
    |.exit i=>match popE i fs with
     |some gs=>nf n gs
     |none=>.fin (.exit i)
    |.ret=>.fin .ret
    |_=>.bad
   |.c x=>match x with
    |.skip=>nf n fs
    |.region id ops d=>.reg id ops d fs
    |.seq a b=>nf n (.c a::.c b::fs)
    |.cond x a b=>.cond x a b fs
    |.block id y=>match y with
     |.loop z=>.loop id z fs
     |y=>nf n (.c y::.b id::fs)
    |.exit i=>match popE i fs with
     |some gs=>nf n gs
     |none=>.fin (.exit i)
    |.ret=>.fin .ret
    |_=>.bad
def Nf.ok (P:Program) (G:Glob) (n0 nt:Nat) (q:Exit→St→List Blk→Prop):Nf→St→List Blk→Prop
 |.reg id ops d fs,st,H=>AWP P G n0 nt (.region id ops d) (runF P G n0 nt q fs) st H
 |.cond x a b fs,st,H=>AWP P G n0 nt (.cond x a b) (runF P G n0 nt q fs) st H
 |.loop id x fs,st,H=>AWP P G n0 nt (.block id (.loop x)) (runF P G n0 nt q fs) st H
 |.fin e,st,H=>q e st H
 |.bad,_,_=>False
def Zabi {a b:Code} (h:runF P G n0 nt q (.c a::.c b::fs) .normal st H):runF P G n0 nt q (.c (.seq a b)::fs) .normal st H:=
 AWP.seq (Wc6 h λe st H h=>by cases e<;>exact h)
def Z6t {id:Nat} {y:Code} (h:runF P G n0 nt q (.c y::.b id::fs) .normal st H):runF P G n0 nt q (.c (.block id y)::fs) .normal st H:=
 Wf5 (Wc6 h λe st H h=>by cases e<;>exact h)
def nf_ok:∀ n fs,Nf.ok P G n0 nt q (nf n fs) st H→runF P G n0 nt q fs .normal st H
 |0,_,h=>by simp  [nf,Nf.ok]at h
 |n+1,[],h=>h
 |n+1,f::fs,h=>by
  cases f with
  |b i=>exact nf_ok n fs h
  |x e=>
   cases e with
   |normal=>exact nf_ok n fs h
   |exit i=>
    simp  [nf]at h
    cases hp:popE i fs;rw[hp]at h;exact Zu7 hp h;rename_i gs;rw[hp]at h;exact Zq5 hp (nf_ok n gs h)
   |ret=>exact Zz7 (fs:=fs) h
   |goto l=>exact h.elim
   |panic c=>exact h.elim
   |outgrown=>exact h.elim
  |c x=>
   cases x with
   |skip=>exact AWP.skip (nf_ok n fs h)
   |region id ops d=>exact h
   |seq a b=>exact Zabi (nf_ok n _ h)
   |cond x a b=>exact h
   |block id y=>
    cases y with
    |loop z=>exact h
    |_=>exact Z6t (nf_ok n _ h)
   |exit i=>
    refine AWP.exit ?_
    simp  [nf]at h
    cases hp:popE i fs;rw[hp]at h;exact Zu7 hp h;rename_i gs;rw[hp]at h;exact Zq5 hp (nf_ok n gs h)
   |ret=>exact AWP.ret (Zz7 (fs:=fs) h)
   |_=>exact h.elim
def unr:Nat→Nat→List Fr→List Fr
 |0,_,fs=>fs
 |n+1,d,fs=>match fs with
  |[]=>[]
  |f::fs=>match f with
   |.b _=>unr n d fs
   |.x e=>match e with
    |.normal=>unr n d fs
    |.exit i=>match popE i fs with
     |some gs=>unr n d gs
     |none=>f::fs
    |_=>f::fs
   |.c x=>match d with
    |0=>f::fs
    |d+1=>match x with
     |.seq a b=>unr n d (.c a::.c b::fs)
     |.block id y=>unr n d (.c y::.b id::fs)
     |.skip=>unr n d fs
     |.exit i=>match popE i fs with
      |some gs=>unr n d gs
      |none=>f::fs
     |_=>f::fs
def unr_ok:∀ n d fs,runF P G n0 nt q (unr n d fs) .normal st H→runF P G n0 nt q fs .normal st H
 |0,_,_,h=>h
 |n+1,_,[],h=>h
 |n+1,d,f::fs,h=>by
  cases f with
  |b i=>exact unr_ok n d fs h
  |x e=>
   cases e with
   |normal=>exact unr_ok n d fs h
   |exit i=>
    simp  [unr]at h
    cases hp:popE i fs
    grind
    rename_i gs;rw[hp]at h;exact Zq5 (fs:=fs) hp (unr_ok n d gs h)
   |_=>exact h
  |c x=>
   cases d;exact h;rename_i d
   cases x with
   |seq a b=>exact Zabi (unr_ok n d _ h)
   |block id y=>exact Z6t (unr_ok n d _ h)
   |skip=>exact AWP.skip (unr_ok n d fs h)
   |exit i=>
    simp  [unr]at h
    cases hp:popE i fs
    grind
    rename_i gs;rw[hp]at h;exact AWP.exit (Zq5 hp (unr_ok n d gs h))
   |_=>exact h
def LeC (G:Glob) (n0 nt:Nat) (q:Exit→St→List Blk→Prop):Prop:=∀ e st H st' H',Le G n0 nt st H st' H'→q e st' H'→q e st H
def LeC.leq (q:Exit→St→List Blk→Prop):LeC G n0 nt (LeQ G n0 nt q):=λ_ _ _ _ _ h k=>LeQ.le h k
def LeC.round {id n:Nat} {I:Nat→St→List Blk→Prop} (hq:LeC G n0 nt q):LeC G n0 nt (roundQ G n0 nt id I n q):=λe st H st' H' h k=>by
 cases e with
 |normal=>exact LeQ.le h k
 |exit j=>
  simp  [roundQ]at k⊢
  cases hb:Nat.beq j id
  simp  [hb]at k⊢;exact hq _ _ _ _ _ h k
  simp  [hb]at k⊢;exact hq _ _ _ _ _ h k
 |_=>exact hq _ _ _ _ _ h k
def LeC.run (hq:LeC G n0 nt q):∀ fs ,LeC G n0 nt (runF P G n0 nt q fs)
 |[]=>hq
 |f::fs=>λe st H st' H' h k=>by
  have ih:=LeC.run hq fs;cases f
  cases e with
  |normal=>exact AWP.le h k
  |_=>exact ih _ _ _ _ _ h k
  rename_i i
  cases e with
  |exit j=>
   simp  [runF]at k⊢
   cases hb:Nat.beq j i
   simp  [hb]at k⊢;exact ih _ _ _ _ _ h k
   simp  [hb]at k⊢;exact ih _ _ _ _ _ h k
  |_=>exact ih _ _ _ _ _ h k
  cases e with
  |normal=>exact ih _ _ _ _ _ h k
  |_=>exact ih _ _ _ _ _ h k
def hasC:List Fr→Bool
 |[]=>false
 |f::fs=>match f with
  |.c _=>true
  |.b _=>hasC fs
  |.x e=>match e with
   |.normal=>hasC fs
   |_=>false
def Z8c:∀ {fs:List Fr},hasC fs=true→Le G n0 nt st H st' H'→runF P G n0 nt q fs .normal st' H'→runF P G n0 nt q fs .normal st H
 |[],h,_,_=>by simp[hasC]at h
 |f::fs,h,hl,k=>by
  cases f with
  |c x=>exact AWP.le hl k
  |b i=>exact Z8c (fs:=fs) h hl k
  |x e=>cases e with
   |normal=>exact Z8c (fs:=fs) h hl k
   |_=>simp[hasC]at h
end
def Hnd.rd {P:Program} {G:Glob} (k:Hnd P G):Hnd P G where
 run o st H:=k.run o (st.pick (readsOf o)) H
 sound:=by
  intro n0 o st H x h he
  exact(k.sound h he).at (Wcy _ _)
def Hnd.lenO {P:Program} {G:Glob}:Hnd P G where
 run o st H:=match o.op with
  |.call cl=>match cl with
   |{callee:=.builtin .len,args:=⟨[x]⟩,argTypes:=⟨[T0]⟩}=>match P.underlying T0,opd G st x with
    |some (.slice _),some (.own _ n)=>some ⟨.sc (.int .i64 n),H,[],[]⟩
    |_,_=>none
   |_=>none
  |_=>none
 sound:=by
  intro n0 o st H x h he
  split at h
  rename_i cl ho
  split at h
  split at h
  rename_i e i n hu hx;cases h
  refine(Waa λc a w β hn hr=>?_).weak
  have hv:=hr.opd hx;obtain⟨⟨ad,cap,hv⟩,_⟩:=hv
  refine⟨.int .i64 n,?_,by simp  [VR]⟩
  simp[execOp,ho,resolve,invoke,builtin,hv,Builtin.len_,Wu hu,goInt];cases h;cases h;cases h
def Zahv {p:PV} (h:PV.isNil p=true):p=.sc (.slice none 0 0):=by
 unfold PV.isNil at h
 grind
structure SW (P:Program) (G:Glob) (n0 nt:Nat) {A:Type} (E:List (Nat×Hnd P G)) (F:Option A) (Q:A→Exit→St→List Blk→Prop) (Z:Cf):Prop where
 run:∀ r,F=some r→runF P G n0 nt (Q r) Z.fs .normal Z.st Z.H
inductive En where
 |at (e:Exit) (st:St) (H:List Blk)
 |q (Q:Exit→St→List Blk→Prop)
def En.sat:En→Exit→St→List Blk→Prop
 |.at e st H,e',st',H'=>e'=e∧st'=st∧H'=H
 |.q Q,e',st',H'=>e'=.ret∧Q e' st' H'
def mdQ {A:Type} (G:Glob) (n0 nt:Nat) (Qm:A→En) (a:A):Exit→St→List Blk→Prop:=LeQ G n0 nt (Qm a).sat
def lpQ {A σ:Type} (G:Glob) (n0 nt:Nat) (id:Nat) (L:Nat→σ→Option A) (hd:σ→St×List Blk) (n:Nat) (Qm:A→En) (a:A):Exit→St→List Blk→Prop:=
 roundQ G n0 nt id (λn st H=>∃ s,L n s=some a∧st=(hd s).1∧H=(hd s).2) (n+1) (LeQ G n0 nt (Qm a).sat)
def fnQ {A:Type} (P:Program) (rs:Array ResultVar) (n0:Nat) (p1:A→PV) (K1:A→List Blk) (a:A):Exit→St→List Blk→Prop:=FnQ P rs n0 λp K=>p=p1 a∧K=K1 a
structure Aft (P:Program) (G:Glob) (n0 nt:Nat) {A:Type} (F:Option A) (Q:A→Exit→St→List Blk→Prop) (fs:List Fr) (E:En):Prop where
 run:∀ e st H,E.sat e st H→∀ r,F=some r→runF P G n0 nt (Q r) fs e st H
structure Zt (G:Glob) (n0 nt:Nat) where
 run:St→List Blk→Option (St×List Blk×List T×List T)
 sound:∀ {st:St} {H:List Blk} {x:St×List Blk×List T×List T},run st H=some x→x.2.2.1=x.2.2.2→Le G n0 nt st H x.1 x.2.1
section
variable {P:Program} {G:Glob} {n0 nt:Nat}
def Zt.own (k s t:Nat):Zt G n0 nt where
 run st H:=match st.get k with
  |some p=>match PV.isNil p with
   |true=>some (st.put k (.own H.length 0),H++[.buf s t [] false],[],[])
   |false=>none
  |none=>none
 sound:=by
  intro st H x h _
  split at h
  rename_i p hk
  split at h
  rename_i hn;cases h
  refine Le.own ?_
  rw[hk]
  unfold PV.isNil at hn
  split at hn
  rfl;cases hn;cases h;cases h
def Zt.share (i:Nat):Zt G n0 nt where
 run st H:=match H[i]? with
  |some (.buf s t xs _)=>some (st,H.set i (.buf s t xs true),[],[])
  |_=>none
 sound:=by
  intro st H x h _
  split at h
  rename_i hb;cases h;exact Le.share hb;cases h
def Zt.wn (k s:Nat):Zt G n0 nt where
 run st H:=match st.get k with
  |some p=>match PV.isNil p with
   |true=>some (st.put k (.sl s []),H,[],[])
   |false=>none
  |none=>none
 sound:=by
  intro st H x h _
  split at h
  rename_i p hk
  split at h
  rename_i hn;cases h
  refine Le.wk hk ?_
  unfold PV.isNil at hn
  split at hn
  exact .nil s;cases hn;cases h;cases h
def Zt.wo {α:Type} (k:Nat) (row:α→List PV) (l:List α):Zt G n0 nt where
 run st H:=match st.get k with
  |some (.own i n)=>match H[i]? with
   |some (.buf s _ xs true)=>some (st.put k (.sl s (l.map row)),H,[.n n,.rs xs],[.n l.length,.rs (l.map row)])
   |_=>none
  |_=>none
 sound:=by
  intro st H x h he
  split at h
  rename_i i n hk
  split at h
  rename_i s t xs hb;cases h;cases he;exact Le.wk hk (Wk.ownT hb (.inr rfl));cases h;cases h
def Zt.kp (ks:List Nat) (m:Nat):Zt G n0 nt where
 run st H:=match Nat.ble n0 m&&(st.pick ks).all (λx=>x.2.ids (λj=>decide (j<m)))&&(H.take m).all (Blk.farOk m)with
  |true=>some (st.pick ks,H.take m,[],[])
  |false=>none
 sound:=by
  intro st H x h _
  split at h
  rename_i hc;simp only[Wh]at hc;cases h;exact Le.keep sA hc.2 rfl hc.1.2;cases h
def Zt.pick (ks:List Nat):Zt G n0 nt where
 run st H:=some (st.pick ks,H,[],[])
 sound:=by
  intro st H x h _;cases h;exact Le.pick rfl
def Zt.kq (ks:List Nat) (m:Nat):Zt G n0 nt where
 run st H:=match Nat.beq m H.length with
  |true=>some (st.pick ks,H,[],[])
  |false=>(Zt.kp (G:=G) (n0:=n0) (nt:=nt) ks m).run st H
 sound:=by
  intro st H x h he
  split at h
  exact(Zt.pick ks).sound h he;exact(Zt.kp ks m).sound h he
inductive Ch where
 |s (k:Nat) (p:PV)
 |k (i:Nat) (b:Blk)
 |b (i:Nat) (xs:List (List PV)) (n:Nat)
 |f (i k:Nat) (p:PV)
def Ch.c (i:Nat) (cs:List PV):Ch:=.k i (.cells cs)
def Ch.l {α:Type} (i:Nat) (row:α→List PV) (l:List α):Ch:=.b i (l.map row) l.length
def setS (k:Nat) (p:PV):St→St
 |[]=>[(k,p)]
 |x::l=>match Nat.beq x.1 k with
  |true=>(k,p)::l
  |false=>x::setS k p l
def rehd (i n:Nat):PV→PV
 |.own j m=>match Nat.beq j i with
  |true=>.own j n
  |false=>.own j m
 |p=>p
def reblk (i n:Nat):Blk→Blk
 |.far cs=>.far (cs.map (rehd i n))
 |b=>b
def upc (z:St×List Blk):Ch→St×List Blk
 |.s k p=>(setS k p z.1,z.2)
 |.k i b=>(z.1,match Nat.ble z.2.length i with|true=>z.2++[b]|false=>z.2.set i b)
 |.b i xs n=>match z.2[i]? with
  |some (.buf s t _ sh)=>(z.1.map λx=>(x.1,rehd i n x.2),(z.2.map (reblk i n)).set i (.buf s t xs sh))
  |_=>z
 |.f i k p=>match z.2[i]? with
  |some (.far cs)=>(z.1,z.2.set i (.far (cs.set k p)))
  |some (.cells cs)=>(z.1,z.2.set i (.cells (cs.set k p)))
  |_=>z
def ups (ch:List Ch) (z:St×List Blk):St×List Blk:=ch.foldl upc z
def tgt (Z:Cf) (ks:List Nat) (m:Nat) (ch:List Ch):St×List Blk:=ups ch (Z.st.pick ks,Z.H.take m)
inductive Q1 where
 |n (ks:List Nat) (m:Nat) (ch:List Ch)
 |x (id:Nat) (ks:List Nat) (m:Nat) (ch:List Ch)
 |q (Q:Exit→St→List Blk→Prop)
def Q1.en (Z:Cf):Q1→En
 |.n ks m ch=>.at .normal (tgt Z ks m ch).1 (tgt Z ks m ch).2
 |.x i ks m ch=>.at (.exit i) (tgt Z ks m ch).1 (tgt Z ks m ch).2
 |.q Q=>.q Q
def St_ext {S S':St} (e1:S.map (·.1)=S'.map (·.1)) (e2:S.map (·.2)=S'.map (·.2)):S=S':=by
 induction S generalizing S' with
 |nil=>simp_all
 |cons x l ih=>cases S' with
  |nil=>grind
  |cons y m=>
   grind
def ownN (j:Nat):PV→List Nat
 |.own i m=>match Nat.beq i j with
  |true=>[m]
  |false=>[]
 |_=>[]
def lnB (j n:Nat):Nat→List Blk→List Blk
 |_,[]=>[]
 |i,b::H=>(match b with
  |.far cs=>.far (cs.map (rehd j n))
  |.tr t s m cs=>match Nat.beq i j with
   |true=>.tr t s n cs
   |false=>.tr t s m cs
  |b=>b)::lnB j n (i+1) H
def ownB (j:Nat):Nat→List Blk→List Nat
 |_,[]=>[]
 |i,b::H=>(match b with
  |.far cs=>cs.flatMap (ownN j)
  |.tr _ _ m _=>match Nat.beq i j with
   |true=>[m]
   |false=>[]
  |_=>[])++ownB j (i+1) H
def Zai4 {j n:Nat} {p:PV} (h:∀ m∈ownN j p,m=n):rehd j n p=p:=by
 unfold rehd;split;rename_i i m
 unfold ownN at h
 split;rename_i hb
 dsimp  at h
 rw[hb]at h;rw[h m (Wl.2 rfl)];rfl;rfl
def Wet:=@List.flatMap_cons
def Z5i {j n:Nat}:∀ {l:List PV},(∀ m∈l.flatMap (ownN j),m=n)→l.map (rehd j n)=l
 |[],_=>rfl
 |p::l,h=>by
  simp only[Wet,Wj]at h;rw[W0,Zai4 λm hm=>h m (.inl hm),Z5i λm hm=>h m (.inr hm)]
def lnB_id {j n:Nat}:∀ {i:Nat} {H:List Blk},(∀ m∈ownB j i H,m=n)→lnB j n i H=H
 |_,[],_=>rfl
 |i,b::H,h=>by
  simp  [ownB,Wj]at h
  unfold lnB;rw[lnB_id λm hm=>h m (.inr hm)];split;rw[Z5i λm hm=>h m (.inl hm)];rename_i m _;split;rename_i hb;rw[h m (.inl gD)];rfl;rfl
def Zai5 {n:Nat}:∀ {l:List Nat},l=l.map (λ_=>n)→∀ m∈l,m=n
 |x::l,h,m,hm=>by
  grind
def Zt.ln (j:Nat) {n' n:Nat} (h:n'=n):Zt G n0 nt where
 run st H:=some (st.map λx=>(x.1,rehd j n' x.2),lnB j n' 0 H,[.ns ((st.map (·.2)).flatMap (ownN j)++ownB j 0 H)],[.ns (((st.map (·.2)).flatMap (ownN j)++ownB j 0 H).map λ_=>n)])
 sound:=by
  intro st H x hx he;cases hx;subst h;simp only[Wai,T.ns.injEq,and_true]at he;have:=Zai5 he
  refine Le.eq ?_ (lnB_id λm hm=>this m gD).symm
  have h2:=Z5i (l:=st.map (·.2)) λm hm=>this m (Wj.2 (.inl hm))
  rw[Wao]at h2
  refine(St_ext ?_ ?_).symm
  rw[Wao];rfl;rw[Wao];exact h2
def Wa9:=@List.length_set
def lset {α:Type} (l:List α) (i:Nat) (x:α):(l.set i x).length=l.length:=Wa9 ..
structure FC where
 cs:List OV
 h:OV.idss (λ_=>false) cs=true
def FC.of {α:Type} (orow:α→List OV) (l:List α) (h:∀ z,OV.idss (λ_=>false) (orow z)=true):FC:=⟨cellsO orow l,Zto h⟩
def farL (os:List (Nat×FC)) (m:Nat):Nat→List Blk→Option (List T×List T)
 |_,[]=>some ([],[])
 |i,b::H=>match farL os m (i+1) H with
  |none=>none
  |some r=>match b with
   |.tr t s n cs=>match os.lookup i with
    |some f=>some (.bs [some (.tr t s n cs)]::r.1,.bs [some (.tr t s n f.cs)]::r.2)
    |none=>none
   |b=>match b.farOk m with
    |true=>some r
    |false=>none
def Z8d {os:List (Nat×FC)} {m:Nat}:∀ {i:Nat} {H:List Blk} {r:List T×List T},farL os m i H=some r→r.1=r.2→H.all (Blk.farOk m)=true
 |_,[],_,_,_=>rfl
 |i,b::H,r,h,he=>by
  unfold farL at h
  split at h
  cases h;rename_i q hq;rw[Wd4]
  split at h
  split at h
  rename_i f _;cases h
  simp at he
  rw[Z8d hq he.2,he.1];simp;exact Weh (λ_ h=>by cases h) _ f.h;cases h
  split at h
  rename_i hb;cases h;rw[hb,Z8d hq he];rfl;cases h
def Zt.kpt (ks:List Nat) (m:Nat) (os:List (Nat×FC)):Zt G n0 nt where
 run st H:=match Nat.ble n0 m&&(st.pick ks).all (λx=>x.2.ids (λj=>decide (j<m))),farL os m 0 (H.take m)with
  |true,some r=>some (st.pick ks,H.take m,r.1,r.2)
  |_,_=>none
 sound:=by
  intro st H x h he
  split at h
  rename_i hc hf;simp only[Wh]at hc;cases h;exact Le.keep sA (Z8d hf he) rfl hc.2;cases h
def Zt.gst (g:Gst G):Zt G n0 nt where
 run st H:=(g.run H).map λr=>(st,r.1,r.2.1,r.2.2)
 sound:=by
  intro st H x h he;simp only[Wg]at h;obtain⟨r,h1,rfl⟩:=h;exact Gst.le g (H':=r.1) (by rw[h1];rfl) (by rw[h1];exact he)
def Zt.swap (i j:Nat):Zt G n0 nt where
 run st H:=match H[i]?,H[j]? with
  |some a,some b=>match Nat.ble n0 i&&Nat.ble n0 j&&okIds (swapB i j a b H)with
   |true=>some (st.map λz=>(z.1,z.2.ren (sw i j)),swapB i j a b H,[],[])
   |false=>none
  |_,_=>none
 sound:=by
  intro st H x h _
  split at h
  rename_i a b hi hj
  split at h
  rename_i hc
  simp  [Wh]at hc
  cases h
  exact λ_ _ _ _ h0 _ hr=>hr.swap hi hj h0 gD gD hc.2
  cases h;cases h
def wkL (any:Bool) (H:List Blk):List PV→List PV→List Ow→Option (List T×List T)
 |[],qs,_=>match qs with
  |[]=>some ([],[])
  |_::_=>none
 |p::ps,qs,ws=>match qs with
  |[]=>none
  |q::qs=>match p,q with
   |.own i n,.sl _ _=>match ws with
    |w::ws=>match H[i]? with
     |some (.buf s _ xs sh)=>match any||sh with
      |true=>(wkL any H ps qs ws).map λr=>(.n n::.rs xs::.p q::r.1,.n w.n::.rs w.xs::.p (.sl s w.xs)::r.2)
      |false=>none
     |_=>none
    |[]=>none
   |p,.sl s xs=>match PV.isNil p with
    |true=>(wkL any H ps qs ws).map λr=>(.rs xs::r.1,.rs []::r.2)
    |false=>(wkL any H ps qs ws).map λr=>(.p p::r.1,.p (.sl s xs)::r.2)
   |p,q=>(wkL any H ps qs ws).map λr=>(.p p::r.1,.p q::r.2)
def wkL_ok {any:Bool} {H:List Blk}:∀ ps qs ws x,wkL any H ps qs ws=some x→x.1=x.2→Wks H any ps qs
 |[],[],ws,x,_,_=>.nil
 |[],_::_,ws,x,h,_=>by simp[wkL]at h
 |p::ps,[],ws,x,h,_=>by simp[wkL]at h
 |p::ps,q::qs,ws,x,h,he=>by
  unfold wkL at h
  simp at h
  split at h
  rename_i i n s0 x0
  split at h
  rename_i w ws'
  split at h
  rename_i s t xs sh hb
  split at h
  rename_i hs;simp only[Wg]at h;obtain⟨r,hr,rfl⟩:=h;simp only[Wai,Wed,Wgj,T.p.injEq]at he;obtain⟨h1,h2,h3,h4⟩:=he
  have hw:n=xs.length:=by rw[h1,←w.h,h2]
  subst hw;rw[h3,←h2];exact .cons _ _ _ _ (.own i s t xs sh hb gD) (wkL_ok _ _ _ r hr h4);cases h;cases h;cases h
  split at h
  rename_i hn;simp only[Wg]at h;obtain⟨r,hr,rfl⟩:=h
  simp at he
  rw[he.1,Zahv hn];exact .cons _ _ _ _ (.nil _) (wkL_ok _ _ _ r hr he.2);simp only[Wg]at h;obtain⟨r,hr,rfl⟩:=h
  simp at he
  rw[he.1];exact .cons _ _ _ _ (.refl _) (wkL_ok _ _ _ r hr he.2);simp only[Wg]at h;obtain⟨r,hr,rfl⟩:=h
  simp at he
  rw[he.1];exact .cons _ _ _ _ (.refl _) (wkL_ok _ _ _ r hr he.2)
def Hnd.wkP (qs:List PV) (ws:List Ow) (k:Hnd P G):Hnd P G where
 run o st H:=match k.run o st H with
  |some x=>match x.p with
   |.agg cs=>match wkL false x.H cs qs ws with
    |some r=>match Nat.beq r.1.length r.2.length with
     |true=>some ⟨.agg qs,x.H,r.1++x.l,r.2++x.r⟩
     |false=>none
    |none=>none
   |_=>none
  |none=>none
 sound:=by
  intro n0 o st H x h he
  split at h
  rename_i y hy
  split at h
  rename_i cs hp
  split at h
  rename_i r hr
  split at h
  rename_i hl;cases h;obtain⟨h1,h2⟩:=Wfj he (Wd hl);have h3:=k.sound (n0:=n0) hy h2;rw[hp]at h3;intro c a w β h0 hrl
  refine Zh4 (h3 c a w β h0 hrl) λv w' ⟨β',g1,g2⟩=>⟨β',g1,?_⟩
  obtain⟨us,rfl,g2⟩:=g2;exact⟨us,rfl,g1.wks (wkL_ok _ _ _ r hr h1) _ g2⟩;cases h;cases h;cases h;cases h
def Zt.wkc (i:Nat) (cs':List PV) (ws:List Ow):Zt G n0 nt where
 run st H:=match H[i]? with
  |some (.cells cs)=>match PV.idss (λj=>decide (j<i)) cs' with
   |true=>(wkL false H cs cs' ws).map λr=>(st,H.set i (.cells cs'),r.1,r.2)
   |false=>none
  |some (.far cs)=>match PV.idss (λj=>decide (j<i)) cs' with
   |true=>(wkL false H cs cs' ws).map λr=>(st,H.set i (.cells cs'),r.1,r.2)
   |false=>none
  |_=>none
 sound:=by
  intro st H x h he
  split at h
  rename_i cs hb
  split at h
  rename_i hi;simp only[Wg]at h;obtain⟨r,hr,rfl⟩:=h;exact Le.wkc hb (wkL_ok _ _ _ r hr he) hi;cases h;rename_i cs hb
  split at h
  rename_i hi;simp only[Wg]at h;obtain⟨r,hr,rfl⟩:=h;exact Le.frF hb (wkL_ok _ _ _ r hr he) hi;cases h;cases h
def Zt.toFar (i:Nat):Zt G n0 nt where
 run st H:=match H[i]? with
  |some (.cells cs)=>some (st,H.set i (.far cs),[],[])
  |_=>none
 sound:=by
  intro st H x h _
  split at h
  rename_i hb;cases h;exact Le.toFar hb;cases h
def Zt.re {S S':St} {K K':List Blk} (h1:S=S') (h2:K=K'):Zt G n0 nt where
 run st H:=some (S',K',[.ns (st.map (·.1)),.ps (st.map (·.2)),.bs (H.map some)],[.ns (S.map (·.1)),.ps (S.map (·.2)),.bs (K.map some)])
 sound:=by
  intro st H x h he;cases h
  simp at he
  obtain⟨e1,e2,e3⟩:=he
  have:st=S:=by
   clear h1
   induction st generalizing S with
   |nil=>simp_all
   |cons x l ih=>cases S with
    |nil=>grind
    |cons y m=>
     grind
  exact Le.eq (this.trans h1) ((Zby e3).trans h2)
def ztO (t:Zt G n0 nt) (Z:Cf):Option (Cf×List T×List T):=(t.run Z.st Z.H).map λr=>(⟨Z.fs,r.1,r.2.1⟩,r.2.2.1,r.2.2.2)
def tZ (r:Option (Cf×List T×List T)):Cf:=match r with|some r=>r.1|none=>⟨[],[],[]⟩
def tL (r:Option (Cf×List T×List T)):List T:=match r with|some r=>r.2.1|none=>[.n 0]
def tR (r:Option (Cf×List T×List T)):List T:=match r with|some r=>r.2.2|none=>[]
def ztO_le {t:Zt G n0 nt} {Z:Cf} (ok:tL (ztO t Z)=tR (ztO t Z)):Le G n0 nt Z.st Z.H (tZ (ztO t Z)).st (tZ (ztO t Z)).H∧(tZ (ztO t Z)).fs=Z.fs:=by
 unfold ztO at ok⊢
 cases hr:t.run Z.st Z.H;rw[hr]at ok;simp[tL,tR]at ok;rw[hr]at ok;exact⟨t.sound hr ok,rfl⟩
variable {A B:Type} {E:List (Nat×Hnd P G)} {F X Y:Option A} {Q:A→Exit→St→List Blk→Prop} {Z:Cf}
def SW.b {x:Option B} {f:B→Option A} (k:∀ v,x=some v→SW P G n0 nt E (f v) Q Z):SW P G n0 nt E (x.bind f) Q Z:=.mk λr hr=>
 let ⟨v,h1,h2⟩:=bindb hr
 (k v h1).run r h2
def SW.l {e:B} {f:B→Option A} (k:∀ v,e=v→SW P G n0 nt E (f v) Q Z):SW P G n0 nt E ((some e).bind f) Q Z:=.mk λr hr=>(k e rfl).run r hr
def SW.c {p:Prop} [Decidable p] (k:p→SW P G n0 nt E F Q Z):SW P G n0 nt E (if p then F else none) Q Z:=.mk λr hr=>
 let ⟨h1,h2⟩:=chkb hr
 (k h1).run r h2
def SW.n:SW P G n0 nt E none Q Z:=.mk λ_ hr=>noneb hr
def hasN (k:Nat):List Nat→Bool
 |[]=>false
 |x::l=>match Nat.beq x k with
  |true=>true
  |false=>hasN k l
def ksA (st:List Nat) (ops:Array Oper):List Nat:=st++ops.toList.filterMap λo=>match o.dst with
 |some k=>match hasN k st with
  |true=>none
  |false=>some k
 |none=>none
def ksO (ks:Option (List Nat)) (st:St) (ops:Array Oper):List Nat:=match ks with
 |some ks=>ks
 |none=>ksA (st.map (·.1)) ops
def rgO (nt:Nat) (hs:List (Nat×Hnd P G)) (ks:Option (List Nat)) (Z:Cf):Option (Cf×Eqs):=match nf 1000 Z.fs with
 |.reg _ ops d fs=>match d with
  |false=>(Reg nt ops hs (ksO ks Z.st ops) Z.st Z.H).map λr=>(⟨fs,r.1,r.2.1⟩,r.2.2)
  |true=>none
 |_=>none
def drO (n0 nt:Nat) (hs:List (Nat×Hnd P G)) (k:Nat) (ord ch:List Nat) (sws:List (Nat×Nat)) (ks:Option (List Nat)) (Z:Cf):Option (Cf×Eqs):=match nf 1000 Z.fs with
 |.reg _ ops d fs=>match d with
  |true=>(Dr n0 nt ops hs k ord ch sws (ksO ks Z.st ops) Z.st Z.H).map λr=>(⟨fs,r.1,r.2.1⟩,r.2.2)
  |false=>none
 |_=>none
def zZ (r:Option (Cf×Eqs)):Cf:=match r with|some r=>r.1|none=>⟨[],[],[]⟩
def zL (r:Option (Cf×Eqs)):List (List T):=match r with|some r=>r.2.map (·.1)|none=>[[.n 0]]
def zR (r:Option (Cf×Eqs)):List (List T):=match r with|some r=>r.2.map (·.2)|none=>[]
def Z8e {r:Option (Cf×Eqs)} (h:zL r=zR r):∃ x,r=some x∧Eqs.ok x.2:=by
 cases r;cases h;rename_i x;exact⟨x,rfl,Eqs.of h⟩
def Zaeb {ops:Array Oper} {id:Nat} {q:Exit→St→List Blk→Prop} {hs:List (Nat×Hnd P G)} {ks:List Nat} {st:St} {H:List Blk} {r:St×List Blk×Eqs} (h1:Reg nt ops hs ks st H=some r) (h2:Eqs.ok r.2.2) (hq:q .normal r.1 r.2.1):AWP P G n0 nt (.region id ops false) q st H:=by
 unfold Reg at h1
 simp only[Wg]at h1;obtain⟨r',h3,rfl⟩:=h1
 refine Whk rfl ?_
 have:=Wfg (n0:=n0) (Q:=q) (l2:=[]) h3 h2 (Why (st':=r'.1.pick ks) (Wcy _ _) (Wgs hq))
 grind
def dr_awp {ops:Array Oper} {q:Exit→St→List Blk→Prop} {hs:List (Nat×Hnd P G)} {k:Nat} {ord ch:List Nat} {sws:List (Nat×Nat)} {ks:List Nat} {st:St} {H:List Blk} {r:St×List Blk×Eqs} (h1:Dr n0 nt ops hs k ord ch sws ks st H=some r) (h2:Eqs.ok r.2.2) (hq:q .normal r.1 r.2.1):ADraw P G n0 nt ops q st H:=by
 unfold Dr at h1
 split at h1
 cases h1;simp only[]at h1
 split at h1
 rename_i hc
 simp at hc
 split at h1
 rename_i es' H0 Hf g1 g2 g3
 split at h1
 rename_i r1 hr
 split at h1
 rename_i q1 hsw;cases h1;obtain⟨e1,e2⟩:=Wco h2;obtain⟨e3,e4⟩:=Wee e2
 simp at e1
 have hH0:=Zby e1;subst hH0;have tail:=Wfg (n0:=n0) (Q:=q) (l2:=[]) hr e4 (Whp hsw (Why (st':=q1.1.pick ks) (Wcy _ _) (Wgs hq)));rw[Wam]at tail;exact ADraw.drawn (rkOf k ord) k (st.map (·.1)) _ _ rfl hc.1 (all_ok g1 e3) g2 g3 rfl rfl tail;cases h1;cases h1;cases h1;cases h1
def SW.r (hs:List (Nat×Hnd P G)) (k:SW P G n0 nt [] F Q (zZ (rgO nt (E++hs) none Z))) (ok:zL (rgO nt (E++hs) none Z)=zR (rgO nt (E++hs) none Z):=by kernel_rfl):SW P G n0 nt E F Q Z:=.mk λr hr=>by
 obtain⟨x,h1,h2⟩:=Z8e ok;have h3:=k.run r hr;rw[h1]at h3
 refine nf_ok 1000 _ ?_
 unfold rgO at h1
 split at h1
 rename_i hn;rw[hn]
 split at h1
 simp only[Wg]at h1;obtain⟨y,h4,rfl⟩:=h1;exact Zaeb h4 h2 h3;cases h1
 grind
def SW.d0 (hs:List (Nat×Hnd P G)) (k:Nat) (ord ch:List Nat) (sws:List (Nat×Nat)) (c:SW P G n0 nt [] F Q (zZ (drO n0 nt (E++hs) k ord ch sws none Z))) (hm:P.follows .mixedOrders=true:=by kernel_rfl)
  (ok:zL (drO n0 nt (E++hs) k ord ch sws none Z)=zR (drO n0 nt (E++hs) k ord ch sws none Z):=by kernel_rfl):SW P G n0 nt E F Q Z:=.mk λr hr=>by
 obtain⟨x,h1,h2⟩:=Z8e ok;have h3:=c.run r hr;rw[h1]at h3
 refine nf_ok 1000 _ ?_
 unfold drO at h1
 split at h1
 rename_i hn;rw[hn]
 split at h1
 simp only[Wg]at h1;obtain⟨y,h4,rfl⟩:=h1;exact Wfx hm (dr_awp h4 h2 h3);cases h1
 grind
def SW.d (hs:List (Nat×Hnd P G)) (k:Nat) (c:SW P G n0 nt [] F Q (zZ (drO n0 nt (E++hs) k [] [] [] none Z))) (hm:P.follows .mixedOrders=true:=by kernel_rfl)
  (ok:zL (drO n0 nt (E++hs) k [] [] [] none Z)=zR (drO n0 nt (E++hs) k [] [] [] none Z):=by kernel_rfl):SW P G n0 nt E F Q Z:=SW.d0 hs k [] [] [] c hm ok
def SW.a (k:SW P G n0 nt [] F Q (zZ (rgO nt (E++[]) none Z))) (ok:zL (rgO nt (E++[]) none Z)=zR (rgO nt (E++[]) none Z):=by kernel_rfl):SW P G n0 nt E F Q Z:=SW.r [] k ok
def TO0 (P:Program) (G:Glob) (n0 nt:Nat) (Z:Cf) (S:St) (K:List Blk):Prop:=match nf 1000 Z.fs with
 |.reg id ops d _=>AWP P G n0 nt (.region id ops d) (To S K) Z.st Z.H
 |_=>False
structure TO (P:Program) (G:Glob) (n0 nt:Nat) (Z:Cf) (S:St) (K:List Blk):Prop where
 run:TO0 P G n0 nt Z S K
def tlZ (Z:Cf) (S:St) (K:List Blk):Cf:=match nf 1000 Z.fs with
 |.reg _ _ _ fs=>⟨fs,S,K⟩
 |_=>⟨[],[],[]⟩
def SW.to (ks:List Nat) (ch:List Ch) (p:TO P G n0 nt Z (ups ch (Z.st.pick ks,Z.H)).1 (ups ch (Z.st.pick ks,Z.H)).2) (k:SW P G n0 nt [] F Q (tlZ Z (ups ch (Z.st.pick ks,Z.H)).1 (ups ch (Z.st.pick ks,Z.H)).2)):SW P G n0 nt E F Q Z:=.mk λr hr=>by
 have h3:=k.run r hr
 refine nf_ok 1000 _ ?_
 replace p:=p.run
 unfold TO0 at p
 unfold tlZ at h3
 split at p
 rename_i hn
 simp  [hn]at h3
 rw[hn];exact AWP.to _ _ p h3
 grind
def toS (r:Option (Cf×Eqs)):List Nat×List PV×List (Option Blk)×List (List T):=match r with
 |some r=>(r.1.st.map (·.1),r.1.st.map (·.2),r.1.H.map some,r.2.map (·.1))
 |none=>([],[],[],[[.n 0]])
variable {S:St} {K:List Blk}
def Zabj {r:Option (Cf×Eqs)} (h:toS r=(S.map (·.1),S.map (·.2),K.map some,zR r)):∃ x,r=some x∧Eqs.ok x.2∧x.1.st=S∧x.1.H=K:=by
 cases r;simp[toS,zR]at h;rename_i x;simp only[toS,Wa1]at h;exact⟨x,rfl,Eqs.of h.2.2.2,St_ext h.1 h.2.1,Zby h.2.2.1⟩
def TO.r (hs:List (Nat×Hnd P G)) (ok:toS (rgO nt hs (some (S.map (·.1))) Z)=(S.map (·.1),S.map (·.2),K.map some,zR (rgO nt hs (some (S.map (·.1))) Z)):=by kernel_rfl):TO P G n0 nt Z S K:=by
 obtain⟨x,h1,h2,h3,h4⟩:=Zabj ok
 unfold rgO at h1
 refine .mk ?_
 unfold TO0
 split at h1
 split at h1
 simp only[Wg]at h1;obtain⟨y,h5,rfl⟩:=h1;exact Zaeb h5 h2 (To.mk h3 h4);cases h1
 grind
def TO.d0 (hs:List (Nat×Hnd P G)) (k:Nat) (ord ch:List Nat) (sws:List (Nat×Nat)) (hm:P.follows .mixedOrders=true:=by kernel_rfl)
  (ok:toS (drO n0 nt hs k ord ch sws (some (S.map (·.1))) Z)=(S.map (·.1),S.map (·.2),K.map some,zR (drO n0 nt hs k ord ch sws (some (S.map (·.1))) Z)):=by kernel_rfl):TO P G n0 nt Z S K:=by
 obtain⟨x,h1,h2,h3,h4⟩:=Zabj ok
 unfold drO at h1
 refine .mk ?_
 unfold TO0
 split at h1
 split at h1
 simp only[Wg]at h1;obtain⟨y,h5,rfl⟩:=h1;exact Wfx hm (dr_awp h5 h2 (To.mk h3 h4));cases h1
 grind
def TO.d (hs:List (Nat×Hnd P G)) (k:Nat) (hm:P.follows .mixedOrders=true:=by kernel_rfl)
  (ok:toS (drO n0 nt hs k [] [] [] (some (S.map (·.1))) Z)=(S.map (·.1),S.map (·.2),K.map some,zR (drO n0 nt hs k [] [] [] (some (S.map (·.1))) Z)):=by kernel_rfl):TO P G n0 nt Z S K:=TO.d0 hs k [] [] [] hm ok
structure TD (P:Program) (G:Glob) (n0 nt:Nat) (hs:List (Nat×Hnd P G)) (k:Nat) (ops:Array Oper) (st:St) (H:List Blk) (S:St) (K:List Blk):Prop where
 run:ADraw P G n0 nt ops (LeQ G n0 nt (To S K)) st H
def opsZ (Z:Cf):Array Oper:=match nf 1000 Z.fs with
 |.reg _ ops _ _=>ops
 |_=>#[]
def isD (Z:Cf):Bool:=match nf 1000 Z.fs with
 |.reg _ _ d _=>d
 |_=>false
def TO.g (hs:List (Nat×Hnd P G)) (k:Nat) (h:TD P G n0 nt hs k (opsZ Z) Z.st Z.H S K) (hm:P.follows .mixedOrders=true:=by kernel_rfl) (ok:isD Z=true:=by kernel_rfl):TO P G n0 nt Z S K:=by
 refine .mk ?_
 have h1:=h.run
 unfold opsZ at h1
 unfold isD at ok
 unfold TO0
 split at ok
 rename_i hn
 simp  [hn]at h1⊢
 subst ok
 exact AWP.mid (To S K) (Wfx hm h1) λ_ _ _ h=>h
 grind
def TD.e {hs:List (Nat×Hnd P G)} {k:Nat} {ops:Array Oper} {st:St} {H:List Blk} (x y:Nat) (h1:TD P G n0 nt hs k (addEdge ops x y) st H S K) (h2:TD P G n0 nt hs k (addEdge ops y x) st H S K) (hxy:Nat.beq x y=false:=by kernel_rfl):TD P G n0 nt hs k ops st H S K:=
 ⟨ADraw.either x y hxy h1.run h2.run⟩
def dS (r:Option (St×List Blk×Eqs)):List Nat×List PV×List (Option Blk)×List (List T):=match r with
 |some r=>(r.1.map (·.1),r.1.map (·.2),r.2.1.map some,r.2.2.map (·.1))
 |none=>([],[],[],[[.n 0]])
def dR (r:Option (St×List Blk×Eqs)):List (List T):=match r with|some r=>r.2.2.map (·.2)|none=>[]
def TD.d {ops:Array Oper} {st:St} {H:List Blk} {hs:List (Nat×Hnd P G)} {k:Nat} (ord ch:List Nat) (sws:List (Nat×Nat))
  (ok:dS (Dr n0 nt ops hs k ord ch sws (S.map (·.1)) st H)=(S.map (·.1),S.map (·.2),K.map some,dR (Dr n0 nt ops hs k ord ch sws (S.map (·.1)) st H)):=by kernel_rfl):TD P G n0 nt hs k ops st H S K:=by
 cases hr:Dr n0 nt ops hs k ord ch sws (S.map (·.1)) st H;rw[hr]at ok;simp[dS,dR]at ok;rw[hr]at ok
 simp  [dS,Wa1]at ok
 exact⟨dr_awp hr (Eqs.of ok.2.2.2) (Wbq (To.mk (St_ext ok.1 ok.2.1) (Zby ok.2.2.1)))⟩
def unf (i:Nat) (r:Option (St×List Blk×Eqs)):Option (St×List Blk×Eqs):=match r with
 |some r=>match r.2.1[i]? with
  |some (.far cs)=>match PV.idss (λj=>decide (j<i)) cs with
   |true=>some (r.1,r.2.1.set i (.cells cs),r.2.2)
   |false=>none
  |_=>none
 |none=>none
def TD.x {ops:Array Oper} {st:St} {H:List Blk} {hs:List (Nat×Hnd P G)} {k:Nat} (ord ch:List Nat) (sws:List (Nat×Nat)) (i:Nat)
  (ok:dS (unf i (Dr n0 nt ops hs k ord ch sws (S.map (·.1)) st H))=(S.map (·.1),S.map (·.2),K.map some,dR (unf i (Dr n0 nt ops hs k ord ch sws (S.map (·.1)) st H))):=by kernel_rfl):TD P G n0 nt hs k ops st H S K:=by
 cases hr:Dr n0 nt ops hs k ord ch sws (S.map (·.1)) st H;rw[hr]at ok;simp[unf,dS,dR]at ok;rw[hr]at ok
 unfold unf at ok
 dsimp  at ok
 split at ok
 rename_i cs hb
 split at ok
 rename_i hi;simp only[dS,Wa1]at ok;exact⟨dr_awp hr (Eqs.of ok.2.2.2) ⟨_,_,Le.frF hb (Wem _ _ _) hi,To.mk (St_ext ok.1 ok.2.1) (Zby ok.2.2.1)⟩⟩;simp[dS,dR]at ok;simp[dS,dR]at ok
structure HC (P:Program) (G:Glob) where
 b:Bool
 w:Bool
 run:Oper→St→List Blk→Option Out
 sound:b=w→∀ {n0:Nat} {o:Oper} {st:St} {H:List Blk} {x:Out},run o st H=some x→x.l=x.r→OpW P G n0 o st H x.p x.H
def HC.idx {α:Type} {b w:Bool} (row:α→List PV) {l:List α} {j:Int} {z:α} (hz:b=w→AM.idx l j=some z):HC P G where
 b:=b
 w:=w
 run:=idxR P G row l j z l.length
 sound hb:=(Hnd.idx row (hz hb)).sound
def HC.str {b w:Bool} {s:ByteArray} {i z:Int} (hz:b=w→sidx s i=some z):HC P G where
 b:=b
 w:=w
 run:=strR P G s i z
 sound hb:=(Hnd.str (hz hb)).sound
def one3 (hs:List (Nat×Hnd P G)) (cs:List (Nat×HC P G)) (π:Option (Nat×Bool×Bool)) (i:Nat) (o:Oper) (st:St) (H:List Blk):Option Out:=match cs.lookup i with
 |some c=>match π with
  |some q=>(c.run o st H).map λx=>⟨x.p,x.H,.ps [.sc (.bool c.b),.sc (.bool c.w)]::x.l,.ps [.sc (.bool q.2.1),.sc (.bool q.2.2)]::x.r⟩
  |none=>none
 |none=>one2 hs i o st H
def OpW.of_one3 {o:Oper} {st:St} {H:List Blk} {hs:List (Nat×Hnd P G)} {cs:List (Nat×HC P G)} {π:Option (Nat×Bool×Bool)} {i:Nat} {x:Out} (h:one3 hs cs π i o st H=some x) (he:x.l=x.r) (hπ:∀ q∈π,q.2.1=q.2.2):OpW P G n0 o st H x.p x.H:=by
 unfold one3 at h
 split at h
 rename_i c _
 split at h
 simp at h
 obtain⟨y,hy,rfl⟩:=h
 simp at he
 obtain⟨⟨h1,h2⟩,h3⟩:=he;exact c.sound gD (x:=y) hy h3;cases h;exact Wfy h he
inductive Gk where
 |go
 |as (d:Nat) (g:Bool)
 |sp (d:Nat) (w:Bool)
 |no
def slotOf (ops:Array Oper) (j:Nat):Option Nat:=(ops[j]?).bind (·.dst)
def gdK (ops:Array Oper) (π:Option (Nat×Bool×Bool)) (o:Oper):Gk:=match o.guard with
 |none=>.go
 |some (j,w)=>match slotOf ops j with
  |none=>.no
  |some d=>match π with
   |none=>.sp d w
   |some (d0,g,w0)=>match Nat.beq d d0&&(w==w0)with
    |true=>.as d g
    |false=>.sp d w
def gOk (st:St):Gk→Option Eqs
 |.go=>some []
 |.as d g=>match st.get d with
  |some (.sc (.bool g'))=>some [([.p (.sc (.bool g'))],[.p (.sc (.bool g))])]
  |_=>none
 |_=>none
def isPk (ops:Array Oper) (d m:Nat):Bool:=match ops[m]? with
 |some o=>match o.op with
  |.pick (.tmp k) _ _=>Nat.beq k d
  |_=>false
 |none=>false
def fpk (ops:Array Oper) (d:Nat):List Nat→List Nat→Option (List Nat×Nat×List Nat)
 |_,[]=>none
 |a,m::l=>match isPk ops d m with
  |true=>some (a.reverse,m,l)
  |false=>fpk ops d (m::a) l
def fpk_eq {ops:Array Oper} {d:Nat}:∀ {l a:List Nat} {x:List Nat×Nat×List Nat},fpk ops d a l=some x→a.reverse++l=x.1++x.2.1::x.2.2
 |m::l,a,x,h=>by
  unfold fpk at h
  split at h
  cases h;rfl;rw[←fpk_eq h,List.reverse_cons,Wap];rfl
def skR (ops:Array Oper):List Nat→St→St
 |[],st=>st
 |i::l,st=>match ops[i]? with
  |some o=>skR ops l (st.putD o.dst (.sc undef))
  |none=>st
def skOk (nt:Nat) (ops:Array Oper) (d:Nat) (w:Bool):List Nat→List Nat→Bool
 |_,[]=>true
 |dn,i::l=>match ops[i]? with
  |none=>false
  |some o=>match o.guard,o.dst with
   |some (j,w'),some k=>match slotOf ops j with
    |some d'=>(Nat.beq d' d&&(w'==w)||hasN d' dn)&&dstOk nt o&&!(Nat.beq k d)&&skOk nt ops d w (k::dn) l
    |none=>false
   |_,_=>false
def Wz:=@List.mem_cons_self
def Zabk {k:Nat}:∀ {l:List Nat},hasN k l=true→k∈l
 |x::l,h=>by
  unfold hasN at h
  split at h
  rename_i hx;rw[Wd hx];exact Wz;exact Wcf _ (Zabk h)
def AOps.skips {ops:Array Oper} {d:Nat} {g w:Bool} {Q:Exit→St→List Blk→Prop} {H:List Blk} {l2:List Nat} (hne:(g==w)=false):∀ {l dn:List Nat} {st:St},skOk nt ops d w dn l=true→st.get d=some (.sc (.bool g))→(∀ k∈dn,st.get k=some (.sc undef))→AOps P G n0 nt ops l2 Q (skR ops l st) H→AOps P G n0 nt ops (l++l2) Q st H
 |[],_,_,_,_,_,h=>h
 |i::l,dn,st,hk,hd,hu,h=>by
  unfold skOk at hk
  unfold skR at h
  split at hk
  cases hk;rename_i o ho;rw[ho]at h
  split at hk
  rename_i j w' k hg hdst
  split at hk
  rename_i d' hs;simp only[Wh,Wbo]at hk;obtain⟨⟨⟨h1,h2⟩,h3⟩,h4⟩:=hk
  have hkd:d≠k:=λe=>sA
  have hw:wantA ops st o=some false:=by
   unfold wantA;rw[hg];dsimp only
   unfold slotOf at hs
   rw[hs];dsimp
   rcases h1 with⟨e1,e2⟩|e1
   rw[Wd e1,hd,eq_of_beq e2];dsimp only;rw[hne];rw[hu d' (Zabk e1)];rfl
  refine AOps.skip ho h2 hw (AOps.skips hne h4 ?_ ?_ h)
  rw[hdst];exact(Z6q _ _ hkd).trans hd;intro x hx;rw[hdst]
  by_cases hxk:x=k
  subst hxk;exact Zabd _ _ _;exact(Z6q _ _ hxk).trans gD;cases hk
  grind
def pkV (G:Glob) (o:Oper) (w:Bool) (s1 st:St):Option (Bool×Bool):=match o.op with
 |.pick _ y z=>match opd G s1 (match w with|true=>y|false=>z),opd G st (match w with|true=>z|false=>y)with
  |some (.sc (.bool a)),some (.sc (.bool b))=>some (match w with|true=>(a,b)|false=>(b,a))
  |_,_=>none
 |_=>none
def stEq (s1 st:St):List T×List T:=([.ns ((s1.pick (st.map (·.1))).map (·.1)),.ps ((s1.pick (st.map (·.1))).map (·.2))],[.ns (st.map (·.1)),.ps (st.map (·.2))])
def Zabl {s1 st:St} {d:Option Nat} {p:PV} (h:∀ x∈st,x∈s1):∀ x∈st.putD d p,x∈s1.putD d p:=by
 cases d;exact h;intro x hx
 simp  [St.putD,St.put,St.del]at hx⊢
 grind
def Zabm {s1 st:St} (h:(stEq s1 st).1=(stEq s1 st).2):∀ x∈st,x∈s1:=by
 simp  [stEq,Wai,T.ns.injEq,T.ps.injEq,and_true]at h
 exact λx hx=>Wcy (st.map (·.1)) s1 x (by rw[St_ext h.1 h.2];omega)
structure NB where
 {c:Bool}
 {b:Bool}
 h:c=b
def nbO (ps:List (Nat×NB)) (m:Nat) (e:Bool):Bool×Eqs:=match ps.lookup m with
 |some x=>(x.b,[([.p (.sc (.bool e))],[.p (.sc (.bool x.c))])])
 |none=>(e,[])
def nbO_eq {ps:List (Nat×NB)} {m:Nat} {e:Bool} (h:Eqs.ok (nbO ps m e).2):(nbO ps m e).1=e:=by
 unfold nbO at h⊢
 split;rename_i x hx;rw[hx]at h;have:=h _ (Wl.2 rfl)
 simp at this
 rw[this,x.h];rfl
def rC (nt:Nat) (ops:Array Oper) (hs:List (Nat×Hnd P G)) (cs:List (Nat×HC P G)) (ps:List (Nat×NB)):Nat→Option (Nat×Bool×Bool)→List Nat→St→List Blk→Option (St×List Blk×Eqs)
 |0,_,_,_,_=>none
 |n+1,π,l,st,H=>match l with
  |[]=>some (st,H,[])
  |i::l=>match ops[i]? with
   |none=>none
   |some o=>match gdK ops π o with
    |.sp d w=>match st.get d,fpk ops d [] (i::l)with
     |some (.sc (.bool g)),some (bl,m,rest)=>match skOk nt ops d w [] bl,rC nt ops hs cs ps n (some (d,g,w)) bl st H,ops[m]? with
      |true,some r,some o'=>match dstOk nt o',pkV G o' w r.1 (skR ops bl st),gOk r.1 (gdK ops π o'),gOk (skR ops bl st) (gdK ops π o'),r.1.get d,(skR ops bl st).get d,isPk ops d m with
       |true,some ab,some e1,some e2,some (.sc (.bool g2)),some (.sc (.bool g3)),true=>(rC nt ops hs cs ps n π rest (st.putD o'.dst (.sc (.bool (nbO ps m (bif g then ab.1 else ab.2)).1))) H).map λq=>
        (q.1,q.2.1,([.ps [.sc (.bool g2),.sc (.bool g3)],.bs (r.2.1.map some)],[.ps [.sc (.bool g),.sc (.bool g)],.bs (H.map some)])::stEq r.1 st::stEq (skR ops bl st) st::(e1++(e2++(r.2.2++((nbO ps m (bif g then ab.1 else ab.2)).2++q.2.2)))))
       |_,_,_,_,_,_,_=>none
      |_,_,_=>none
     |_,_=>none
    |k=>match dstOk nt o,gOk st k,one3 hs cs π i o st H with
     |true,some e,some x=>(rC nt ops hs cs ps n π l (st.putD o.dst x.p) x.H).map λr=>(r.1,r.2.1,e++((x.l,x.r)::r.2.2))
     |_,_,_=>none
def Z2r {ops:Array Oper} {st:St} {o:Oper} {π:Option (Nat×Bool×Bool)} {e:Eqs} (h:gOk st (gdK ops π o)=some e) (he:e.ok) (hπ:∀ q∈π,q.2.1=q.2.2):wantA ops st o=some true:=by
 unfold gdK at h
 unfold wantA
 split at h
 rename_i hg;rw[hg];rename_i j w hg;rw[hg];dsimp only
 split at h
 cases h;rename_i d hs
 unfold slotOf at hs
 rw[hs]
 split at h
 cases h;rename_i d0 g w0
 split at h
 rename_i hc;simp only[Wh]at hc
 unfold gOk at h
 dsimp only at h
 split at h
 rename_i g' hd;cases h;have:=he _ (Wl.2 rfl)
 simp at this
 dsimp only;rw[hd];dsimp only;rw[this,eq_of_beq hc.2,show g=w0 from hπ _ rfl];simp;cases h;cases h
def AOps.rC {ops:Array Oper} {Q:Exit→St→List Blk→Prop} {hs:List (Nat×Hnd P G)} {cs:List (Nat×HC P G)} {ps:List (Nat×NB)}:∀ {n:Nat} {l2:List Nat} {π:Option (Nat×Bool×Bool)} {l:List Nat} {st:St} {H:List Blk} {r:St×List Blk×Eqs},rC nt ops hs cs ps n π l st H=some r→Eqs.ok r.2.2→(∀ q∈π,q.2.1=q.2.2)→AOps P G n0 nt ops l2 Q r.1 r.2.1→AOps P G n0 nt ops (l++l2) Q st H
 |0,_,_,_,_,_,_,hr,_,_,_=>by simp[AM.rC]at hr
 |n+1,l2,π,l,st,H,r,hr,he,hπ,h=>by
  unfold AM.rC at hr
  split at hr
  cases hr;exact h;rename_i i l
  split at hr
  cases hr;rename_i o ho
  split at hr
  rename_i d w hk
  split at hr
  rename_i g bl m rest hd hf
  split at hr
  rename_i s o' hsk hrun hm
  split at hr
  rename_i ab e1 e2 g2 g3 hdst hpk hg1 hg2 hd2 hd3 hip;simp only[Wg]at hr;obtain⟨q,hq,rfl⟩:=hr;obtain⟨a1,c1⟩:=Wco he;obtain⟨a2,c2⟩:=Wco c1;obtain⟨a3,c3⟩:=Wco c2;obtain⟨a4,c4⟩:=Wee c3;obtain⟨a5,c5⟩:=Wee c4;obtain⟨a6,c6⟩:=Wee c5;obtain⟨a7,c7⟩:=Wee c6
  simp at a1
  obtain⟨⟨b1,b2⟩,a1⟩:=a1;subst b1 b2;have a1:=Zby a1;have hl:i::l=bl++m::rest:=fpk_eq (a:=[]) hf;rw[hl,Wap];have tail:=AOps.rC (n:=n) (l2:=l2) hq c7 hπ h;rw[nbO_eq a7]at tail
  unfold isPk at hip
  rw[hm]at hip
  dsimp  at hip
  split at hip
  rename_i k y z hop;have hip:=Wd hip;subst hip
  unfold pkV at hpk
  rw[hop]at hpk
  dsimp  at hpk
  split at hpk
  rename_i x1 x2 hx1 hx2;cases hpk
  by_cases hw:g3=w
  refine AOps.rC (n:=n) (l2:=m::(rest++l2)) hrun a6 gD ?_
  refine Wgw hm hdst (Z2r hg1 a4 hπ) (OpT.pick (p:=.sc (.bool x1)) hop hd2 ?_).weak ?_
  subst hw;cases g3<;>exact hx1;subst hw;rw[a1]
  refine Why (Zabl (Zabm a2)) ?_
  cases g3<;>exact tail
  have hne:(g3==w)=false:=gD
  refine AOps.skips hne hsk hd (λ_ hx=>(by cases hx)) ?_
  refine Wgw hm hdst (Z2r hg2 a5 hπ) (OpT.pick (b:=g3) (p:=.sc (.bool x2)) hop hd3 ?_).weak ?_
  cases g3<;>cases w<;>first|grind|grind
  refine Why (Zabl (Zabm a3)) ?_
  cases g3<;>cases w<;>first|exact tail|grind
  cases hpk;cases hip;cases hr;cases hr;cases hr
  split at hr
  rename_i e x hdst hg hx;simp only[Wg]at hr;obtain⟨q,hq,rfl⟩:=hr;obtain⟨a1,he⟩:=Wee he;obtain⟨a2,he⟩:=Wco he;exact Wgw ho hdst (Z2r hg a1 hπ) (OpW.of_one3 hx a2 hπ) (AOps.rC hq he hπ h)
  grind
def rcO (nt:Nat) (hs:List (Nat×Hnd P G)) (cs:List (Nat×HC P G)) (ps:List (Nat×NB)) (Z:Cf):Option (Cf×Eqs):=match nf 1000 Z.fs with
 |.reg _ ops d fs=>match d with
  |false=>(rC nt ops hs cs ps 1000 none (List.range ops.size) Z.st Z.H).map λr=>(⟨fs,r.1,r.2.1⟩,r.2.2)
  |true=>none
 |_=>none
def SW.rc (hs:List (Nat×Hnd P G)) (cs:List (Nat×HC P G)) (ps:List (Nat×NB)) (k:SW P G n0 nt [] F Q (zZ (rcO nt (E++hs) cs ps Z))) (ok:zL (rcO nt (E++hs) cs ps Z)=zR (rcO nt (E++hs) cs ps Z):=by kernel_rfl):SW P G n0 nt E F Q Z:=.mk λr hr=>by
 obtain⟨x,h1,h2⟩:=Z8e ok;have h3:=k.run r hr;rw[h1]at h3
 refine nf_ok 1000 _ ?_
 unfold rcO at h1
 split at h1
 rename_i hn;rw[hn]
 split at h1
 simp only[Wg]at h1;obtain⟨y,h4,rfl⟩:=h1
 refine Whk rfl ?_
 have:=AOps.rC (n0:=n0) (l2:=[]) h4 h2 (λ_ h=>(by cases h)) (Wgs h3)
 rwa [Wam]at this
 cases h1
 grind
def SW.bi {α:Type} {l:List α} {j:Int} {f:α→Option A} (i:Nat) (row:α→List PV) (k:∀ {z:α} {h:AM.idx l j=some z},SW P G n0 nt (E++[(i,Hnd.idx row h)]) (f z) Q Z):SW P G n0 nt E ((AM.idx l j).bind f) Q Z:=.mk λr hr=>
 let ⟨v,h1,h2⟩:=bindb hr
 (k (z:=v) (h:=h1)).run r h2
def SW.v {e:B} {f:B→Option A} (k:SW P G n0 nt E (f e) Q Z):SW P G n0 nt E ((some e).bind f) Q Z:=k
section
variable {C:Type} {b:Bool} {x:Option C} {g:C→Option B} {Y:Option B} {f:B→Option A}
def SW.gt [Inhabited C] (k:∀ v,(b=true→x=some v)→SW P G n0 nt E ((if b=true then g v else Y).bind f) Q Z):SW P G n0 nt E ((if b=true then x.bind g else Y).bind f) Q Z:=by
 refine .mk λr hr=>?_
 cases b;exact(k default (λh=>by cases h)).run r hr;cases x;cases hr;rename_i v;exact(k v (λ_=>rfl)).run r hr
def SW.ge [Inhabited C] (k:∀ v,(b=false→x=some v)→SW P G n0 nt E ((if b=true then Y else g v).bind f) Q Z):SW P G n0 nt E ((if b=true then Y else x.bind g).bind f) Q Z:=by
 refine .mk λr hr=>?_
 cases b with
 |true=>exact(k default (λh=>by cases h)).run r hr
 |false=>
  cases x;cases hr;rename_i v;exact(k v (λ_=>rfl)).run r hr
def SW.gl {e:C} (k:∀ v,e=v→SW P G n0 nt E ((if b=true then g v else Y).bind f) Q Z):SW P G n0 nt E ((if b=true then(some e).bind g else Y).bind f) Q Z:=k e rfl
def SW.gm {e:C} (k:∀ v,e=v→SW P G n0 nt E ((if b=true then Y else g v).bind f) Q Z):SW P G n0 nt E ((if b=true then Y else(some e).bind g).bind f) Q Z:=k e rfl
def SW.gv {c d:B} (k:∀ v,(bif b then c else d)=v→SW P G n0 nt E (f v) Q Z):SW P G n0 nt E ((if b=true then some c else some d).bind f) Q Z:=by
 grind
def SW.gw {c d:B} (k:SW P G n0 nt E (f (bif b then c else d)) Q Z):SW P G n0 nt E ((if b=true then some c else some d).bind f) Q Z:=SW.gv λ_ h=>h▸k
end
def cdO (G:Glob) (Z:Cf):Option (PV×Cf×Cf):=match nf 1000 Z.fs with
 |.cond x a b fs=>(opd G Z.st x).map λp=>(p,⟨.c a::fs,Z.st,Z.H⟩,⟨.c b::fs,Z.st,Z.H⟩)
 |_=>none
def cdP (r:Option (PV×Cf×Cf)):Option PV:=match r with|some r=>some r.1|none=>none
def cdT (r:Option (PV×Cf×Cf)):Cf:=match r with|some r=>r.2.1|none=>⟨[],[],[]⟩
def cdF (r:Option (PV×Cf×Cf)):Cf:=match r with|some r=>r.2.2|none=>⟨[],[],[]⟩
def cd_ok {b:Bool} (ok:cdP (cdO G Z)=some (.sc (.bool b))) {q:Exit→St→List Blk→Prop} (h1:b=true→runF P G n0 nt q (cdT (cdO G Z)).fs .normal (cdT (cdO G Z)).st (cdT (cdO G Z)).H)
  (h2:b=false→runF P G n0 nt q (cdF (cdO G Z)).fs .normal (cdF (cdO G Z)).st (cdF (cdO G Z)).H):runF P G n0 nt q Z.fs .normal Z.st Z.H:=by
 refine nf_ok 1000 _ ?_
 unfold cdO at ok h1 h2
 split at ok
 rename_i hn
 simp  [hn]at h1 h2
 rw[hn];rename_i x a b' fs;cases hx:opd G Z.st x;rw[hx]at ok;simp[cdP]at ok;rw[hx]at ok h1 h2;cases ok;exact AWP.cond hx h1 h2;simp[cdP]at ok
def SW.i {b:Bool} (h1:SW P G n0 nt [] X Q (cdT (cdO G Z))) (h2:SW P G n0 nt [] Y Q (cdF (cdO G Z))) (ok:cdP (cdO G Z)=some (.sc (.bool b)):=by kernel_rfl):SW P G n0 nt E (if b=true then X else Y) Q Z:=.mk λr hr=>
 cd_ok ok (λhb=>h1.run r (ifT hr hb)) λhb=>h2.run r (ifF hr hb)
def SW.z (t:Zt G n0 nt) (k:SW P G n0 nt [] F Q (tZ (ztO t Z))) (ok:tL (ztO t Z)=tR (ztO t Z):=by kernel_rfl) (hc:hasC Z.fs=true:=by kernel_rfl):SW P G n0 nt E F Q Z:=.mk λr hr=>by
 obtain⟨h1,h2⟩:=ztO_le ok;have h3:=k.run r hr;rw[h2]at h3;exact Z8c hc h1 h3
def SW.y {Qm:A→En} (t:Zt G n0 nt) (k:SW P G n0 nt [] F (mdQ G n0 nt Qm) (tZ (ztO t Z))) (ok:tL (ztO t Z)=tR (ztO t Z):=by kernel_rfl):SW P G n0 nt E F (mdQ G n0 nt Qm) Z:=.mk λr hr=>by
 obtain⟨h1,h2⟩:=ztO_le ok;have h3:=k.run r hr;rw[h2]at h3;exact LeC.run (LeC.leq _) _ _ _ _ _ _ h1 h3
def SW.w {σ:Type} {id n:Nat} {L:Nat→σ→Option A} {hd:σ→St×List Blk} {Qm:A→En} (t:Zt G n0 nt) (k:SW P G n0 nt [] F (lpQ G n0 nt id L hd n Qm) (tZ (ztO t Z))) (ok:tL (ztO t Z)=tR (ztO t Z):=by kernel_rfl):SW P G n0 nt E F (lpQ G n0 nt id L hd n Qm) Z:=.mk λr hr=>by
 obtain⟨h1,h2⟩:=ztO_le ok;have h3:=k.run r hr;rw[h2]at h3;exact LeC.run (LeC.round (LeC.leq _)) _ _ _ _ _ _ h1 h3
variable {C:Type} {f:C→Option A} {V:Option C}
def mdC (d:Nat) (Z:Cf):Option (Code×List Fr):=match unr 1000 d Z.fs with
 |f::fs=>match f with
  |.c x=>some (x,fs)
  |_=>none
 |[]=>none
def mdZ (d:Nat) (Z:Cf):Cf:=match mdC d Z with|some r=>⟨[.c r.1],Z.st,Z.H⟩|none=>⟨[],[],[]⟩
def mdT (d:Nat) (Z:Cf):List Fr:=match mdC d Z with|some r=>r.2|none=>[]
def SW.m (d:Nat) (q:C→Q1) (h:SW P G n0 nt [] V (mdQ G n0 nt λa=>(q a).en Z) (mdZ d Z)) (k:∀ a,Aft P G n0 nt (f a) Q (mdT d Z) ((q a).en Z)) (ok:(mdC d Z).isSome=true:=by kernel_rfl):SW P G n0 nt E (V.bind f) Q Z:=.mk λr hr=>by
 obtain⟨a,h1,h2⟩:=bindb hr
 refine unr_ok 1000 d _ ?_
 have h3:=h.run a h1
 have h4:=λe st H hs=>(k a).run e st H hs r h2
 unfold mdZ at h3
 unfold mdT at h4
 cases hm:mdC d Z;rw[hm]at ok;cases ok;rw[hm]at h3 h4
 unfold mdC at hm
 split at hm
 rename_i hu
 split at hm
 cases hm;rw[hu];exact AWP.mid ((q a).en Z).sat h3 h4;cases hm
 grind
def lpC (Z:Cf):Option (Nat×Code×List Fr):=match nf 1000 Z.fs with|.loop id x fs=>some (id,x,fs)|_=>none
def lpI (Z:Cf):Nat:=match lpC Z with|some r=>r.1|none=>0
def lpX (Z:Cf):Code:=match lpC Z with|some r=>r.2.1|none=>.skip
def lpT (Z:Cf):List Fr:=match lpC Z with|some r=>r.2.2|none=>[]
def lpO0 (G:Glob) (n0 nt:Nat) (ks:List Nat) (m:Nat) (Z:Cf):Option (List Nat×List PV×List (Option Blk)):=match lpC Z with
 |some _=>((Zt.kq ks m:Zt G n0 nt).run Z.st Z.H).map λr=>(r.1.map (·.1),r.1.map (·.2),r.2.1.map some)
 |none=>none
def kq_eq {ks:List Nat} {m:Nat} {st:St} {H:List Blk} {x:St×List Blk×List T×List T} (h:(Zt.kq ks m:Zt G n0 nt).run st H=some x):x.2.2.1=x.2.2.2:=by
 simp  [Zt.kq,Zt.kp]at h
 grind
def SW.pg {σ:Type} (ks:List Nat) (mb:Nat) (q:C→Q1) (L:Nat→σ→Option C) (hd:σ→List Ch) (s0:σ) (h0:∀ s,L 0 s=none) (h:∀ n s,SW P G n0 nt [] (L (n+1) s) (lpQ G n0 nt (lpI Z) L (λs=>tgt Z ks mb (hd s)) n λa=>(q a).en Z) ⟨[.c (lpX Z)],(tgt Z ks mb (hd s)).1,(tgt Z ks mb (hd s)).2⟩)
  (k:∀ a,Aft P G n0 nt (f a) Q (lpT Z) ((q a).en Z)) (ok:lpO0 G n0 nt ks mb Z=some ((tgt Z ks mb (hd s0)).1.map (·.1),(tgt Z ks mb (hd s0)).1.map (·.2),(tgt Z ks mb (hd s0)).2.map some)) {m:Nat} (hV:V=L m s0):SW P G n0 nt E (V.bind f) Q Z:=.mk λr hr=>by
 subst hV;obtain⟨a,h1,h2⟩:=bindb hr
 refine nf_ok 1000 _ ?_
 have h4:=λe st H hs=>(k a).run e st H hs r h2
 unfold lpT at h4
 unfold lpO0 at ok
 cases hm:lpC Z;rw[hm]at ok;cases ok;rename_i x;rw[hm]at h4
 have hi:lpI Z=x.1:=by unfold lpI;rw[hm]
 have hx:lpX Z=x.2.1:=by unfold lpX;rw[hm]
 simp only[hm,Wg,Wa1]at ok;obtain⟨y,hy,e1,e2,e3⟩:=ok
 unfold lpC at hm
 split at hm
 rename_i hu;cases hm;rw[hu]
 refine AWP.mid ((q a).en Z).sat ?_ h4
 refine AWP.le ((Zt.kq ks mb).sound hy (kq_eq hy)) ?_
 rw[St_ext e1 e2,Zby e3]
 refine AWP.bround (λn st H=>∃ s,L n s=some a∧st=(tgt Z ks mb (hd s)).1∧H=(tgt Z ks mb (hd s)).2) m ⟨s0,h1,rfl,rfl⟩ ?_
 rintro n st H ⟨s,hs,rfl,rfl⟩;cases n;rw[h0]at hs;cases hs;rename_i n;have h5:=(h n s).run a hs;rw[hx,hi]at h5;exact h5
 grind
def cu1 {S0:Type} (f:Nat→S0→Option C) (n:Nat) (s:S0):Option C:=f n s
def SW.p1 {S0:Type} {L:Nat→S0→Option C} {m:Nat} {e0:S0} (ks:List Nat) (mb:Nat) (hd:S0→List Ch) (q:C→Q1)
  (h:∀ n u0,SW P G n0 nt [] (L (n+1) u0) (lpQ G n0 nt (lpI Z) (cu1 L) (λs=>tgt Z ks mb (hd s)) n λa=>(q a).en Z) ⟨[.c (lpX Z)],(tgt Z ks mb (hd u0)).1,(tgt Z ks mb (hd u0)).2⟩)
  (k:∀ a,Aft P G n0 nt (f a) Q (lpT Z) ((q a).en Z)) (h0:∀ u0,L 0 u0=none:=by exact λ_=>rfl) (ok:lpO0 G n0 nt ks mb Z=some ((tgt Z ks mb (hd e0)).1.map (·.1),(tgt Z ks mb (hd e0)).1.map (·.2),(tgt Z ks mb (hd e0)).2.map some):=by kernel_rfl):SW P G n0 nt E ((L m e0).bind f) Q Z:=
 SW.pg ks mb q (cu1 L) (λs=>(hd s)) e0 (λs=>h0 s) (λn s=>h n s) k ok rfl
def cu2 {S0 S1:Type} (f:Nat→S0→S1→Option C) (n:Nat) (s:S0×S1):Option C:=f n s.1 s.2
def SW.p2 {S0 S1:Type} {L:Nat→S0→S1→Option C} {m:Nat} {e0:S0} {e1:S1} (ks:List Nat) (mb:Nat) (hd:S0→S1→List Ch) (q:C→Q1)
  (h:∀ n u0 u1,SW P G n0 nt [] (L (n+1) u0 u1) (lpQ G n0 nt (lpI Z) (cu2 L) (λs=>tgt Z ks mb (hd s.1 s.2)) n λa=>(q a).en Z) ⟨[.c (lpX Z)],(tgt Z ks mb (hd u0 u1)).1,(tgt Z ks mb (hd u0 u1)).2⟩)
  (k:∀ a,Aft P G n0 nt (f a) Q (lpT Z) ((q a).en Z)) (h0:∀ u0 u1,L 0 u0 u1=none:=by exact λ_ _=>rfl) (ok:lpO0 G n0 nt ks mb Z=some ((tgt Z ks mb (hd e0 e1)).1.map (·.1),(tgt Z ks mb (hd e0 e1)).1.map (·.2),(tgt Z ks mb (hd e0 e1)).2.map some):=by kernel_rfl):SW P G n0 nt E ((L m e0 e1).bind f) Q Z:=
 SW.pg ks mb q (cu2 L) (λs=>(hd s.1 s.2)) (e0,e1) (λs=>h0 s.1 s.2) (λn s=>h n s.1 s.2) k ok rfl
def cu3 {S0 S1 S2:Type} (f:Nat→S0→S1→S2→Option C) (n:Nat) (s:S0×S1×S2):Option C:=f n s.1 s.2.1 s.2.2
def SW.p3 {S0 S1 S2:Type} {L:Nat→S0→S1→S2→Option C} {m:Nat} {e0:S0} {e1:S1} {e2:S2} (ks:List Nat) (mb:Nat) (hd:S0→S1→S2→List Ch) (q:C→Q1)
  (h:∀ n u0 u1 u2,SW P G n0 nt [] (L (n+1) u0 u1 u2) (lpQ G n0 nt (lpI Z) (cu3 L) (λs=>tgt Z ks mb (hd s.1 s.2.1 s.2.2)) n λa=>(q a).en Z) ⟨[.c (lpX Z)],(tgt Z ks mb (hd u0 u1 u2)).1,(tgt Z ks mb (hd u0 u1 u2)).2⟩)
  (k:∀ a,Aft P G n0 nt (f a) Q (lpT Z) ((q a).en Z)) (h0:∀ u0 u1 u2,L 0 u0 u1 u2=none:=by exact λ_ _ _=>rfl) (ok:lpO0 G n0 nt ks mb Z=some ((tgt Z ks mb (hd e0 e1 e2)).1.map (·.1),(tgt Z ks mb (hd e0 e1 e2)).1.map (·.2),(tgt Z ks mb (hd e0 e1 e2)).2.map some):=by kernel_rfl):SW P G n0 nt E ((L m e0 e1 e2).bind f) Q Z:=
 SW.pg ks mb q (cu3 L) (λs=>(hd s.1 s.2.1 s.2.2)) (e0,e1,e2) (λs=>h0 s.1 s.2.1 s.2.2) (λn s=>h n s.1 s.2.1 s.2.2) k ok rfl
def cu4 {S0 S1 S2 S3:Type} (f:Nat→S0→S1→S2→S3→Option C) (n:Nat) (s:S0×S1×S2×S3):Option C:=f n s.1 s.2.1 s.2.2.1 s.2.2.2
def SW.p4 {S0 S1 S2 S3:Type} {L:Nat→S0→S1→S2→S3→Option C} {m:Nat} {e0:S0} {e1:S1} {e2:S2} {e3:S3} (ks:List Nat) (mb:Nat) (hd:S0→S1→S2→S3→List Ch) (q:C→Q1)
  (h:∀ n u0 u1 u2 u3,SW P G n0 nt [] (L (n+1) u0 u1 u2 u3) (lpQ G n0 nt (lpI Z) (cu4 L) (λs=>tgt Z ks mb (hd s.1 s.2.1 s.2.2.1 s.2.2.2)) n λa=>(q a).en Z) ⟨[.c (lpX Z)],(tgt Z ks mb (hd u0 u1 u2 u3)).1,(tgt Z ks mb (hd u0 u1 u2 u3)).2⟩)
  (k:∀ a,Aft P G n0 nt (f a) Q (lpT Z) ((q a).en Z)) (h0:∀ u0 u1 u2 u3,L 0 u0 u1 u2 u3=none:=by exact λ_ _ _ _=>rfl) (ok:lpO0 G n0 nt ks mb Z=some ((tgt Z ks mb (hd e0 e1 e2 e3)).1.map (·.1),(tgt Z ks mb (hd e0 e1 e2 e3)).1.map (·.2),(tgt Z ks mb (hd e0 e1 e2 e3)).2.map some):=by kernel_rfl):SW P G n0 nt E ((L m e0 e1 e2 e3).bind f) Q Z:=
 SW.pg ks mb q (cu4 L) (λs=>(hd s.1 s.2.1 s.2.2.1 s.2.2.2)) (e0,e1,e2,e3) (λs=>h0 s.1 s.2.1 s.2.2.1 s.2.2.2) (λn s=>h n s.1 s.2.1 s.2.2.1 s.2.2.2) k ok rfl
def cu5 {S0 S1 S2 S3 S4:Type} (f:Nat→S0→S1→S2→S3→S4→Option C) (n:Nat) (s:S0×S1×S2×S3×S4):Option C:=f n s.1 s.2.1 s.2.2.1 s.2.2.2.1 s.2.2.2.2
def SW.p5 {S0 S1 S2 S3 S4:Type} {L:Nat→S0→S1→S2→S3→S4→Option C} {m:Nat} {e0:S0} {e1:S1} {e2:S2} {e3:S3} {e4:S4} (ks:List Nat) (mb:Nat) (hd:S0→S1→S2→S3→S4→List Ch) (q:C→Q1)
  (h:∀ n u0 u1 u2 u3 u4,SW P G n0 nt [] (L (n+1) u0 u1 u2 u3 u4) (lpQ G n0 nt (lpI Z) (cu5 L) (λs=>tgt Z ks mb (hd s.1 s.2.1 s.2.2.1 s.2.2.2.1 s.2.2.2.2)) n λa=>(q a).en Z) ⟨[.c (lpX Z)],(tgt Z ks mb (hd u0 u1 u2 u3 u4)).1,(tgt Z ks mb (hd u0 u1 u2 u3 u4)).2⟩)
  (k:∀ a,Aft P G n0 nt (f a) Q (lpT Z) ((q a).en Z)) (h0:∀ u0 u1 u2 u3 u4,L 0 u0 u1 u2 u3 u4=none:=by exact λ_ _ _ _ _=>rfl) (ok:lpO0 G n0 nt ks mb Z=some ((tgt Z ks mb (hd e0 e1 e2 e3 e4)).1.map (·.1),(tgt Z ks mb (hd e0 e1 e2 e3 e4)).1.map (·.2),(tgt Z ks mb (hd e0 e1 e2 e3 e4)).2.map some):=by kernel_rfl):SW P G n0 nt E ((L m e0 e1 e2 e3 e4).bind f) Q Z:=
 SW.pg ks mb q (cu5 L) (λs=>(hd s.1 s.2.1 s.2.2.1 s.2.2.2.1 s.2.2.2.2)) (e0,e1,e2,e3,e4) (λs=>h0 s.1 s.2.1 s.2.2.1 s.2.2.2.1 s.2.2.2.2) (λn s=>h n s.1 s.2.1 s.2.2.1 s.2.2.2.1 s.2.2.2.2) k ok rfl
def cu6 {S0 S1 S2 S3 S4 S5:Type} (f:Nat→S0→S1→S2→S3→S4→S5→Option C) (n:Nat) (s:S0×S1×S2×S3×S4×S5):Option C:=f n s.1 s.2.1 s.2.2.1 s.2.2.2.1 s.2.2.2.2.1 s.2.2.2.2.2
def SW.p6 {S0 S1 S2 S3 S4 S5:Type} {L:Nat→S0→S1→S2→S3→S4→S5→Option C} {m:Nat} {e0:S0} {e1:S1} {e2:S2} {e3:S3} {e4:S4} {e5:S5} (ks:List Nat) (mb:Nat) (hd:S0→S1→S2→S3→S4→S5→List Ch) (q:C→Q1)
  (h:∀ n u0 u1 u2 u3 u4 u5,SW P G n0 nt [] (L (n+1) u0 u1 u2 u3 u4 u5) (lpQ G n0 nt (lpI Z) (cu6 L) (λs=>tgt Z ks mb (hd s.1 s.2.1 s.2.2.1 s.2.2.2.1 s.2.2.2.2.1 s.2.2.2.2.2)) n λa=>(q a).en Z) ⟨[.c (lpX Z)],(tgt Z ks mb (hd u0 u1 u2 u3 u4 u5)).1,(tgt Z ks mb (hd u0 u1 u2 u3 u4 u5)).2⟩)
  (k:∀ a,Aft P G n0 nt (f a) Q (lpT Z) ((q a).en Z)) (h0:∀ u0 u1 u2 u3 u4 u5,L 0 u0 u1 u2 u3 u4 u5=none:=by exact λ_ _ _ _ _ _=>rfl) (ok:lpO0 G n0 nt ks mb Z=some ((tgt Z ks mb (hd e0 e1 e2 e3 e4 e5)).1.map (·.1),(tgt Z ks mb (hd e0 e1 e2 e3 e4 e5)).1.map (·.2),(tgt Z ks mb (hd e0 e1 e2 e3 e4 e5)).2.map some):=by kernel_rfl):SW P G n0 nt E ((L m e0 e1 e2 e3 e4 e5).bind f) Q Z:=
 SW.pg ks mb q (cu6 L) (λs=>(hd s.1 s.2.1 s.2.2.1 s.2.2.2.1 s.2.2.2.2.1 s.2.2.2.2.2)) (e0,e1,e2,e3,e4,e5) (λs=>h0 s.1 s.2.1 s.2.2.1 s.2.2.2.1 s.2.2.2.2.1 s.2.2.2.2.2) (λn s=>h n s.1 s.2.1 s.2.2.1 s.2.2.2.1 s.2.2.2.2.1 s.2.2.2.2.2) k ok rfl
def cu7 {S0 S1 S2 S3 S4 S5 S6:Type} (f:Nat→S0→S1→S2→S3→S4→S5→S6→Option C) (n:Nat) (s:S0×S1×S2×S3×S4×S5×S6):Option C:=f n s.1 s.2.1 s.2.2.1 s.2.2.2.1 s.2.2.2.2.1 s.2.2.2.2.2.1 s.2.2.2.2.2.2
def SW.p7 {S0 S1 S2 S3 S4 S5 S6:Type} {L:Nat→S0→S1→S2→S3→S4→S5→S6→Option C} {m:Nat} {e0:S0} {e1:S1} {e2:S2} {e3:S3} {e4:S4} {e5:S5} {e6:S6} (ks:List Nat) (mb:Nat) (hd:S0→S1→S2→S3→S4→S5→S6→List Ch) (q:C→Q1)
  (h:∀ n u0 u1 u2 u3 u4 u5 u6,SW P G n0 nt [] (L (n+1) u0 u1 u2 u3 u4 u5 u6) (lpQ G n0 nt (lpI Z) (cu7 L) (λs=>tgt Z ks mb (hd s.1 s.2.1 s.2.2.1 s.2.2.2.1 s.2.2.2.2.1 s.2.2.2.2.2.1 s.2.2.2.2.2.2)) n λa=>(q a).en Z) ⟨[.c (lpX Z)],(tgt Z ks mb (hd u0 u1 u2 u3 u4 u5 u6)).1,(tgt Z ks mb (hd u0 u1 u2 u3 u4 u5 u6)).2⟩)
  (k:∀ a,Aft P G n0 nt (f a) Q (lpT Z) ((q a).en Z)) (h0:∀ u0 u1 u2 u3 u4 u5 u6,L 0 u0 u1 u2 u3 u4 u5 u6=none:=by exact λ_ _ _ _ _ _ _=>rfl) (ok:lpO0 G n0 nt ks mb Z=some ((tgt Z ks mb (hd e0 e1 e2 e3 e4 e5 e6)).1.map (·.1),(tgt Z ks mb (hd e0 e1 e2 e3 e4 e5 e6)).1.map (·.2),(tgt Z ks mb (hd e0 e1 e2 e3 e4 e5 e6)).2.map some):=by kernel_rfl):SW P G n0 nt E ((L m e0 e1 e2 e3 e4 e5 e6).bind f) Q Z:=
 SW.pg ks mb q (cu7 L) (λs=>(hd s.1 s.2.1 s.2.2.1 s.2.2.2.1 s.2.2.2.2.1 s.2.2.2.2.2.1 s.2.2.2.2.2.2)) (e0,e1,e2,e3,e4,e5,e6) (λs=>h0 s.1 s.2.1 s.2.2.1 s.2.2.2.1 s.2.2.2.2.1 s.2.2.2.2.2.1 s.2.2.2.2.2.2) (λn s=>h n s.1 s.2.1 s.2.2.1 s.2.2.2.1 s.2.2.2.2.1 s.2.2.2.2.2.1 s.2.2.2.2.2.2) k ok rfl
def cu8 {S0 S1 S2 S3 S4 S5 S6 S7:Type} (f:Nat→S0→S1→S2→S3→S4→S5→S6→S7→Option C) (n:Nat) (s:S0×S1×S2×S3×S4×S5×S6×S7):Option C:=f n s.1 s.2.1 s.2.2.1 s.2.2.2.1 s.2.2.2.2.1 s.2.2.2.2.2.1 s.2.2.2.2.2.2.1 s.2.2.2.2.2.2.2
def SW.p8 {S0 S1 S2 S3 S4 S5 S6 S7:Type} {L:Nat→S0→S1→S2→S3→S4→S5→S6→S7→Option C} {m:Nat} {e0:S0} {e1:S1} {e2:S2} {e3:S3} {e4:S4} {e5:S5} {e6:S6} {e7:S7} (ks:List Nat) (mb:Nat) (hd:S0→S1→S2→S3→S4→S5→S6→S7→List Ch) (q:C→Q1)
  (h:∀ n u0 u1 u2 u3 u4 u5 u6 u7,SW P G n0 nt [] (L (n+1) u0 u1 u2 u3 u4 u5 u6 u7) (lpQ G n0 nt (lpI Z) (cu8 L) (λs=>tgt Z ks mb (hd s.1 s.2.1 s.2.2.1 s.2.2.2.1 s.2.2.2.2.1 s.2.2.2.2.2.1 s.2.2.2.2.2.2.1 s.2.2.2.2.2.2.2)) n λa=>(q a).en Z) ⟨[.c (lpX Z)],(tgt Z ks mb (hd u0 u1 u2 u3 u4 u5 u6 u7)).1,(tgt Z ks mb (hd u0 u1 u2 u3 u4 u5 u6 u7)).2⟩)
  (k:∀ a,Aft P G n0 nt (f a) Q (lpT Z) ((q a).en Z)) (h0:∀ u0 u1 u2 u3 u4 u5 u6 u7,L 0 u0 u1 u2 u3 u4 u5 u6 u7=none:=by exact λ_ _ _ _ _ _ _ _=>rfl) (ok:lpO0 G n0 nt ks mb Z=some ((tgt Z ks mb (hd e0 e1 e2 e3 e4 e5 e6 e7)).1.map (·.1),(tgt Z ks mb (hd e0 e1 e2 e3 e4 e5 e6 e7)).1.map (·.2),(tgt Z ks mb (hd e0 e1 e2 e3 e4 e5 e6 e7)).2.map some):=by kernel_rfl):SW P G n0 nt E ((L m e0 e1 e2 e3 e4 e5 e6 e7).bind f) Q Z:=
 SW.pg ks mb q (cu8 L) (λs=>(hd s.1 s.2.1 s.2.2.1 s.2.2.2.1 s.2.2.2.2.1 s.2.2.2.2.2.1 s.2.2.2.2.2.2.1 s.2.2.2.2.2.2.2)) (e0,e1,e2,e3,e4,e5,e6,e7) (λs=>h0 s.1 s.2.1 s.2.2.1 s.2.2.2.1 s.2.2.2.2.1 s.2.2.2.2.2.1 s.2.2.2.2.2.2.1 s.2.2.2.2.2.2.2) (λn s=>h n s.1 s.2.1 s.2.2.1 s.2.2.2.1 s.2.2.2.2.1 s.2.2.2.2.2.1 s.2.2.2.2.2.2.1 s.2.2.2.2.2.2.2) k ok rfl
def atZ (Z:Cf):Option (Exit×List Nat×List PV×List (Option Blk)):=match nf 1000 Z.fs with
 |.fin e=>some (e,Z.st.map (·.1),Z.st.map (·.2),Z.H.map some)
 |_=>none
def atX (id:Nat) (Z:Cf):Option (Exit×List Nat×List PV×List (Option Blk)):=match nf 1000 Z.fs with
 |.fin e=>match e with
  |.exit j=>some (match Nat.beq j id with|true=>.normal|false=>.exit j,Z.st.map (·.1),Z.st.map (·.2),Z.H.map some)
  |_=>none
 |_=>none
def atN (Z:Cf):Option (List Nat×List PV×List (Option Blk)):=match nf 1000 Z.fs with
 |.fin e=>match e with
  |.normal=>some (Z.st.map (·.1),Z.st.map (·.2),Z.H.map some)
  |_=>none
 |_=>none
def enO:En→Option (Exit×List Nat×List PV×List (Option Blk))
 |.at e st H=>some (e,st.map (·.1),st.map (·.2),H.map some)
 |.q _=>none
def SW.k0 {Qm:A→En} {v:A} (ok:(enO (Qm v),true)=(atZ Z,(atZ Z).isSome):=by kernel_rfl):SW P G n0 nt E (some v) (mdQ G n0 nt Qm) Z:=.mk λr hr=>by
 cases hr
 simp at ok
 obtain⟨o1,o2⟩:=ok
 unfold atZ at o1 o2
 refine nf_ok 1000 _ ?_
 cases hn:nf 1000 Z.fs with
 |fin e=>
  simp  [hn]at o1
  show LeQ G n0 nt (Qm v).sat e Z.st Z.H
  cases hq:Qm v with
  |q Q=>rw[hq]at o1;simp[enO]at o1
  |_ e' st H=>
   rw[hq]at o1
   simp  [enO,Wn,Wa1]at o1
   obtain⟨rfl,e1,e2,e3⟩:=o1;exact Wbq ⟨rfl,(St_ext e1 e2).symm,(Zby e3).symm⟩
 |_=>grind
def SW.u0 {σ:Type} {id n:Nat} {L:Nat→σ→Option A} {hd:σ→St×List Blk} {Qm:A→En} {v:A} (ok:(enO (Qm v),true)=(atX id Z,(atX id Z).isSome):=by kernel_rfl):SW P G n0 nt E (some v) (lpQ G n0 nt id L hd n Qm) Z:=.mk λr hr=>by
 cases hr
 simp at ok
 obtain⟨o1,o2⟩:=ok
 unfold atX at o1 o2
 refine nf_ok 1000 _ ?_
 cases hn:nf 1000 Z.fs with
 |fin e=>cases e with
  |exit j=>
   simp  [hn]at o1
   unfold Nf.ok lpQ;simp  [roundQ]
   cases hq:Qm v with
   |q Q=>rw[hq]at o1;simp[enO]at o1
   |_ e' st H=>
    rw[hq]at o1
    simp  [enO,Wn,Wa1]at o1
    obtain⟨h1,e1,e2,e3⟩:=o1;cases hb:Nat.beq j id
    simp  [hb]at h1⊢;exact Wbq ⟨h1.symm,(St_ext e1 e2).symm,(Zby e3).symm⟩
    simp  [hb]at h1⊢;exact Wbq ⟨h1.symm,(St_ext e1 e2).symm,(Zby e3).symm⟩
  |_=>grind
 |_=>grind
def SW.xo {σ:Type} {id n:Nat} {L:Nat→σ→Option A} {hd:σ→St×List Blk} {Qm:A→En} (s:σ) (ok:some ((hd s).1.map (·.1),(hd s).1.map (·.2),(hd s).2.map some)=atN Z:=by kernel_rfl) (hF:F=L n s:=by exact rfl):SW P G n0 nt E F (lpQ G n0 nt id L hd n Qm) Z:=.mk λr hr=>by
 subst hF
 unfold atN at ok
 refine nf_ok 1000 _ ?_
 split at ok
 rename_i e hn;rw[hn]
 split at ok
 simp at ok
 exact Wbq ⟨n,Nat.lt_succ_self _,s,hr,(St_ext ok.1 ok.2.1).symm,(Zby ok.2.2).symm⟩;cases ok
 grind
def enK:En→List Nat×Nat
 |.at _ st H=>(st.map (·.1),H.length)
 |.q _=>([],0)
def SW.k {Qm:A→En} {v:A} (ok:tL (ztO (.kq (enK (Qm v)).1 (enK (Qm v)).2:Zt G n0 nt) Z)=tR (ztO (.kq (enK (Qm v)).1 (enK (Qm v)).2:Zt G n0 nt) Z):=by kernel_rfl)
  (o2:(enO (Qm v),true)=(atZ (tZ (ztO (.kq (enK (Qm v)).1 (enK (Qm v)).2:Zt G n0 nt) Z)),(atZ (tZ (ztO (.kq (enK (Qm v)).1 (enK (Qm v)).2:Zt G n0 nt) Z))).isSome):=by kernel_rfl):SW P G n0 nt E (some v) (mdQ G n0 nt Qm) Z:=
 SW.y (.kq (enK (Qm v)).1 (enK (Qm v)).2) (SW.k0 o2) ok
def SW.u {σ:Type} {id n:Nat} {L:Nat→σ→Option A} {hd:σ→St×List Blk} {Qm:A→En} {v:A} (ok:tL (ztO (.kq (enK (Qm v)).1 (enK (Qm v)).2:Zt G n0 nt) Z)=tR (ztO (.kq (enK (Qm v)).1 (enK (Qm v)).2:Zt G n0 nt) Z):=by kernel_rfl)
  (o2:(enO (Qm v),true)=(atX id (tZ (ztO (.kq (enK (Qm v)).1 (enK (Qm v)).2:Zt G n0 nt) Z)),(atX id (tZ (ztO (.kq (enK (Qm v)).1 (enK (Qm v)).2:Zt G n0 nt) Z))).isSome):=by kernel_rfl):SW P G n0 nt E (some v) (lpQ G n0 nt id L hd n Qm) Z:=
 SW.w (.kq (enK (Qm v)).1 (enK (Qm v)).2) (SW.u0 o2) ok
def kqs (z:St×List Blk):Zt G n0 nt:=.kq (z.1.map (·.1)) z.2.length
def SW.xg {σ:Type} {id n:Nat} {L:Nat→σ→Option A} {hd:σ→St×List Blk} {Qm:A→En} (s:σ) (ok:tL (ztO (kqs (hd s):Zt G n0 nt) Z)=tR (ztO (kqs (hd s):Zt G n0 nt) Z))
  (o2:some ((hd s).1.map (·.1),(hd s).1.map (·.2),(hd s).2.map some)=atN (tZ (ztO (kqs (hd s):Zt G n0 nt) Z))) (hF:F=L n s):SW P G n0 nt E F (lpQ G n0 nt id L hd n Qm) Z:=
 SW.w (kqs (hd s)) (SW.xo s o2 hF) ok
def SW.x1 {S0:Type} {L:Nat→S0→Option A} {id n:Nat} {hd:S0→St×List Blk} {Qm:A→En} {e0:S0} (ok:tL (ztO (kqs (hd e0):Zt G n0 nt) Z)=tR (ztO (kqs (hd e0):Zt G n0 nt) Z):=by kernel_rfl)
  (o2:some ((hd e0).1.map (·.1),(hd e0).1.map (·.2),(hd e0).2.map some)=atN (tZ (ztO (kqs (hd e0):Zt G n0 nt) Z)):=by kernel_rfl):SW P G n0 nt E (L n e0) (lpQ G n0 nt id (cu1 L) hd n Qm) Z:=SW.xg e0 ok o2 rfl
def SW.x2 {S0 S1:Type} {L:Nat→S0→S1→Option A} {id n:Nat} {hd:S0×S1→St×List Blk} {Qm:A→En} {e0:S0} {e1:S1} (ok:tL (ztO (kqs (hd (e0,e1)):Zt G n0 nt) Z)=tR (ztO (kqs (hd (e0,e1)):Zt G n0 nt) Z):=by kernel_rfl)
  (o2:some ((hd (e0,e1)).1.map (·.1),(hd (e0,e1)).1.map (·.2),(hd (e0,e1)).2.map some)=atN (tZ (ztO (kqs (hd (e0,e1)):Zt G n0 nt) Z)):=by kernel_rfl):SW P G n0 nt E (L n e0 e1) (lpQ G n0 nt id (cu2 L) hd n Qm) Z:=SW.xg (e0,e1) ok o2 rfl
def SW.x3 {S0 S1 S2:Type} {L:Nat→S0→S1→S2→Option A} {id n:Nat} {hd:S0×S1×S2→St×List Blk} {Qm:A→En} {e0:S0} {e1:S1} {e2:S2} (ok:tL (ztO (kqs (hd (e0,e1,e2)):Zt G n0 nt) Z)=tR (ztO (kqs (hd (e0,e1,e2)):Zt G n0 nt) Z):=by kernel_rfl)
  (o2:some ((hd (e0,e1,e2)).1.map (·.1),(hd (e0,e1,e2)).1.map (·.2),(hd (e0,e1,e2)).2.map some)=atN (tZ (ztO (kqs (hd (e0,e1,e2)):Zt G n0 nt) Z)):=by kernel_rfl):SW P G n0 nt E (L n e0 e1 e2) (lpQ G n0 nt id (cu3 L) hd n Qm) Z:=SW.xg (e0,e1,e2) ok o2 rfl
def SW.x4 {S0 S1 S2 S3:Type} {L:Nat→S0→S1→S2→S3→Option A} {id n:Nat} {hd:S0×S1×S2×S3→St×List Blk} {Qm:A→En} {e0:S0} {e1:S1} {e2:S2} {e3:S3} (ok:tL (ztO (kqs (hd (e0,e1,e2,e3)):Zt G n0 nt) Z)=tR (ztO (kqs (hd (e0,e1,e2,e3)):Zt G n0 nt) Z):=by kernel_rfl)
  (o2:some ((hd (e0,e1,e2,e3)).1.map (·.1),(hd (e0,e1,e2,e3)).1.map (·.2),(hd (e0,e1,e2,e3)).2.map some)=atN (tZ (ztO (kqs (hd (e0,e1,e2,e3)):Zt G n0 nt) Z)):=by kernel_rfl):SW P G n0 nt E (L n e0 e1 e2 e3) (lpQ G n0 nt id (cu4 L) hd n Qm) Z:=SW.xg (e0,e1,e2,e3) ok o2 rfl
def SW.x5 {S0 S1 S2 S3 S4:Type} {L:Nat→S0→S1→S2→S3→S4→Option A} {id n:Nat} {hd:S0×S1×S2×S3×S4→St×List Blk} {Qm:A→En} {e0:S0} {e1:S1} {e2:S2} {e3:S3} {e4:S4} (ok:tL (ztO (kqs (hd (e0,e1,e2,e3,e4)):Zt G n0 nt) Z)=tR (ztO (kqs (hd (e0,e1,e2,e3,e4)):Zt G n0 nt) Z):=by kernel_rfl)
  (o2:some ((hd (e0,e1,e2,e3,e4)).1.map (·.1),(hd (e0,e1,e2,e3,e4)).1.map (·.2),(hd (e0,e1,e2,e3,e4)).2.map some)=atN (tZ (ztO (kqs (hd (e0,e1,e2,e3,e4)):Zt G n0 nt) Z)):=by kernel_rfl):SW P G n0 nt E (L n e0 e1 e2 e3 e4) (lpQ G n0 nt id (cu5 L) hd n Qm) Z:=SW.xg (e0,e1,e2,e3,e4) ok o2 rfl
def SW.x6 {S0 S1 S2 S3 S4 S5:Type} {L:Nat→S0→S1→S2→S3→S4→S5→Option A} {id n:Nat} {hd:S0×S1×S2×S3×S4×S5→St×List Blk} {Qm:A→En} {e0:S0} {e1:S1} {e2:S2} {e3:S3} {e4:S4} {e5:S5} (ok:tL (ztO (kqs (hd (e0,e1,e2,e3,e4,e5)):Zt G n0 nt) Z)=tR (ztO (kqs (hd (e0,e1,e2,e3,e4,e5)):Zt G n0 nt) Z):=by kernel_rfl)
  (o2:some ((hd (e0,e1,e2,e3,e4,e5)).1.map (·.1),(hd (e0,e1,e2,e3,e4,e5)).1.map (·.2),(hd (e0,e1,e2,e3,e4,e5)).2.map some)=atN (tZ (ztO (kqs (hd (e0,e1,e2,e3,e4,e5)):Zt G n0 nt) Z)):=by kernel_rfl):SW P G n0 nt E (L n e0 e1 e2 e3 e4 e5) (lpQ G n0 nt id (cu6 L) hd n Qm) Z:=SW.xg (e0,e1,e2,e3,e4,e5) ok o2 rfl
def SW.x7 {S0 S1 S2 S3 S4 S5 S6:Type} {L:Nat→S0→S1→S2→S3→S4→S5→S6→Option A} {id n:Nat} {hd:S0×S1×S2×S3×S4×S5×S6→St×List Blk} {Qm:A→En} {e0:S0} {e1:S1} {e2:S2} {e3:S3} {e4:S4} {e5:S5} {e6:S6} (ok:tL (ztO (kqs (hd (e0,e1,e2,e3,e4,e5,e6)):Zt G n0 nt) Z)=tR (ztO (kqs (hd (e0,e1,e2,e3,e4,e5,e6)):Zt G n0 nt) Z):=by kernel_rfl)
  (o2:some ((hd (e0,e1,e2,e3,e4,e5,e6)).1.map (·.1),(hd (e0,e1,e2,e3,e4,e5,e6)).1.map (·.2),(hd (e0,e1,e2,e3,e4,e5,e6)).2.map some)=atN (tZ (ztO (kqs (hd (e0,e1,e2,e3,e4,e5,e6)):Zt G n0 nt) Z)):=by kernel_rfl):SW P G n0 nt E (L n e0 e1 e2 e3 e4 e5 e6) (lpQ G n0 nt id (cu7 L) hd n Qm) Z:=SW.xg (e0,e1,e2,e3,e4,e5,e6) ok o2 rfl
def SW.x8 {S0 S1 S2 S3 S4 S5 S6 S7:Type} {L:Nat→S0→S1→S2→S3→S4→S5→S6→S7→Option A} {id n:Nat} {hd:S0×S1×S2×S3×S4×S5×S6×S7→St×List Blk} {Qm:A→En} {e0:S0} {e1:S1} {e2:S2} {e3:S3} {e4:S4} {e5:S5} {e6:S6} {e7:S7} (ok:tL (ztO (kqs (hd (e0,e1,e2,e3,e4,e5,e6,e7)):Zt G n0 nt) Z)=tR (ztO (kqs (hd (e0,e1,e2,e3,e4,e5,e6,e7)):Zt G n0 nt) Z):=by kernel_rfl)
  (o2:some ((hd (e0,e1,e2,e3,e4,e5,e6,e7)).1.map (·.1),(hd (e0,e1,e2,e3,e4,e5,e6,e7)).1.map (·.2),(hd (e0,e1,e2,e3,e4,e5,e6,e7)).2.map some)=atN (tZ (ztO (kqs (hd (e0,e1,e2,e3,e4,e5,e6,e7)):Zt G n0 nt) Z)):=by kernel_rfl):SW P G n0 nt E (L n e0 e1 e2 e3 e4 e5 e6 e7) (lpQ G n0 nt id (cu8 L) hd n Qm) Z:=SW.xg (e0,e1,e2,e3,e4,e5,e6,e7) ok o2 rfl
def Aft.n {fs:List Fr} {e:Exit} {st:St} {H:List Blk} (h:SW P G n0 nt [] F Q ⟨.x e::fs,st,H⟩):Aft P G n0 nt F Q fs (.at e st H):=.mk λe' st' H' hs r hr=>by
 obtain⟨rfl,rfl,rfl⟩:=hs;exact h.run r hr
def Aft.r {fs:List Fr} {v:A} {Qr:Exit→St→List Blk→Prop} (h:∀ st H,Qr .ret st H→Q v .ret st H):Aft P G n0 nt (some v) Q fs (.q Qr):=.mk λe' st' H' hs r hr=>by
 obtain⟨rfl,hs⟩:=hs;cases hr;exact Zz7 (h _ _ hs)
def feO (P:Program) (rs:Array ResultVar) (n0:Nat) (any:Bool) (m:Nat) (ws:List Ow) (q:PV) (Z:Cf):Option (List T×List T):=match nf 1000 Z.fs with
 |.fin e=>match(match e with|.normal=>true|.ret=>true|_=>false)with
  |true=>match ares P Z.st Z.H rs with
   |some p=>match Nat.ble n0 m&&Nat.ble m Z.H.length&&q.ids (λj=>decide (j<m))with
    |true=>match p,q with
     |.tup ps,.tup qs=>wkL any Z.H ps qs ws
     |p,q=>wkL any Z.H [p] [q] ws
    |false=>none
   |none=>none
  |false=>none
 |_=>none
def feL (r:Option (List T×List T)):List T:=match r with|some r=>r.1|none=>[.n 0]
def feR (r:Option (List T×List T)):List T:=match r with|some r=>r.2|none=>[]
def feO_ok {rs:Array ResultVar} {any:Bool} {m:Nat} {ws:List Ow} {p1:PV} {K1:List Blk} (ok:feL (feO P rs n0 any m ws p1 Z)=feR (feO P rs n0 any m ws p1 Z)) (hK:Z.H.take m=K1) (ha:any=true→K1.all Blk.isCells=true) (hb:any=false→okOut n0 m Z.H=true) :
  ∃ e,nf 1000 Z.fs=.fin e∧(e=.normal∨e=.ret)∧FnQ P rs n0 (λp K=>p=p1∧K=K1) e Z.st Z.H:=by
 unfold feO at ok
 split at ok
 rename_i e hn
 split at ok
 have he:e=.normal∨e=.ret:=gD
 split at ok
 rename_i p hp
 split at ok
 rename_i hc;simp only[Wh]at hc
 have hw:WkG any Z.H p p1:=by
  split at ok
  rename_i ps qs;cases hr:wkL any Z.H ps qs ws;rw[hr]at ok;simp[feL,feR]at ok;rename_i x;rw[hr]at ok;exact .inr ⟨ps,qs,rfl,rfl,wkL_ok _ _ _ x hr ok⟩;cases hr:wkL any Z.H [p] [p1] ws;rw[hr]at ok;simp[feL,feR]at ok;rename_i x;rw[hr]at ok;have:=wkL_ok _ _ _ x hr ok;cases this;rename_i _ _ _ _ h1 h2;exact .inl h1
 refine⟨e,hn,he,?_⟩
 cases any with
 |true=>exact fin he p1 m hp hw hc.1.1 hc.1.2 hc.2 gD ⟨rfl,hK⟩
 |false=>exact finO he p1 m hp hw hc.1.1 hc.1.2 hc.2 (hb rfl) ⟨rfl,hK⟩
 simp[feL,feR]at ok;simp[feL,feR]at ok;simp[feL,feR]at ok;simp[feL,feR]at ok
variable {rs:Array ResultVar} {p1:A→PV} {K1:A→List Blk} {v:A}
def SW.e (m:Nat) (ws:List Ow) (ok:feL (feO P rs n0 true m ws (p1 v) Z)=feR (feO P rs n0 true m ws (p1 v) Z):=by kernel_rfl) (hK:Z.H.take m=K1 v:=by kernel_rfl) (ha:(K1 v).all Blk.isCells=true:=by kernel_rfl):SW P G n0 nt E (some v) (fnQ P rs n0 p1 K1) Z:=.mk λr hr=>by
 cases hr;obtain⟨e,h1,h2,h3⟩:=feO_ok (any:=true) ok hK (λ_=>ha) (λh=>by cases h)
 refine nf_ok 1000 _ ?_
 rw[h1];exact h3
def SW.o (m:Nat) (ws:List Ow) (ok:feL (feO P rs n0 false m ws (p1 v) Z)=feR (feO P rs n0 false m ws (p1 v) Z):=by kernel_rfl) (hK:Z.H.take m=K1 v:=by kernel_rfl) (ho:okOut n0 m Z.H=true:=by kernel_rfl):SW P G n0 nt E (some v) (fnQ P rs n0 p1 K1) Z:=.mk λr hr=>by
 cases hr;obtain⟨e,h1,h2,h3⟩:=feO_ok (any:=false) ok hK (λh=>by cases h) (λ_=>ho)
 refine nf_ok 1000 _ ?_
 rw[h1];exact h3
def SW.o3 (m:Nat) (ws:List Ow) (h6:retL m ((K1 v).drop n0)) (ok:feL (feO P rs n0 false m ws (p1 v) Z)=feR (feO P rs n0 false m ws (p1 v) Z):=by kernel_rfl) (hK:Z.H.take m=K1 v:=by kernel_rfl) (h0:((K1 v).take n0).all Blk.isCells=true:=by kernel_rfl) (h3:Nat.ble n0 m=true:=by kernel_rfl):SW P G n0 nt E (some v) (fnQ P rs n0 p1 K1) Z:=.mk λr hr=>by
 cases hr
 have ho:okOut n0 m Z.H=true:=by
  rw[←hK,Wdx,Wbp (W2 h3)]at h0;simp only[okOut,h0];rw[hK];exact h6
 obtain⟨e,h1,h2,h3⟩:=feO_ok (any:=false) ok hK (λh=>by cases h) (λ_=>ho)
 refine nf_ok 1000 _ ?_
 rw[h1];exact h3
def SW.q {Qm:A→En} {p0:PV} {K0:List Blk} (m:Nat) (ws:List Ow) (hq:Qm v=.q (FnQ P rs n0 λp K=>p=p0∧K=K0)) (ok:feL (feO P rs n0 true m ws p0 Z)=feR (feO P rs n0 true m ws p0 Z):=by kernel_rfl) (hK:Z.H.take m=K0:=by kernel_rfl) (ha:K0.all Blk.isCells=true:=by kernel_rfl)
  (hr:(match nf 1000 Z.fs with|.fin e=>(match e with|.ret=>true|_=>false)|_=>false)=true:=by kernel_rfl):SW P G n0 nt E (some v) (mdQ G n0 nt Qm) Z:=.mk λr hr'=>by
 cases hr';obtain⟨e,h1,h2,h3⟩:=feO_ok (any:=true) ok hK (λ_=>ha) (λh=>by cases h)
 refine nf_ok 1000 _ ?_
 rw[h1]at hr⊢
 have he:e=.ret:=gD
 subst he
 refine Wbq ?_
 rw[hq];exact⟨rfl,h3⟩
def SW.s {σ:Type} {id n:Nat} {L:Nat→σ→Option A} {hd:σ→St×List Blk} {Qm:A→En} {p0:PV} {K0:List Blk} (m:Nat) (ws:List Ow) (hq:Qm v=.q (FnQ P rs n0 λp K=>p=p0∧K=K0)) (ok:feL (feO P rs n0 true m ws p0 Z)=feR (feO P rs n0 true m ws p0 Z):=by kernel_rfl) (hK:Z.H.take m=K0:=by kernel_rfl) (ha:K0.all Blk.isCells=true:=by kernel_rfl)
  (hr:(match nf 1000 Z.fs with|.fin e=>(match e with|.ret=>true|_=>false)|_=>false)=true:=by kernel_rfl):SW P G n0 nt E (some v) (lpQ G n0 nt id L hd n Qm) Z:=.mk λr hr'=>by
 cases hr';obtain⟨e,h1,h2,h3⟩:=feO_ok (any:=true) ok hK (λ_=>ha) (λh=>by cases h)
 refine nf_ok 1000 _ ?_
 rw[h1]at hr⊢
 have he:e=.ret:=gD
 subst he
 refine Wbq ?_
 rw[hq];exact⟨rfl,h3⟩
structure KF {A:Type} (P:Program) (G:Glob) (f:FuncId) (fn:Func) (args:List PV) (H:List Blk) (F:Option A) (p1:A→PV) (K1:A→List Blk):Prop where
 fn:P.funcs[f]? = some fn
 run:∀ r:A,F=some r→ACall P G f args H λp K=>p=p1 r∧K=K1 r
def bodyC (fn:Func):Code:=match fn.body with|some c=>c|none=>.ret
def KF.of {f:FuncId} {fn:Func} {args:List PV} {H:List Blk} (hfn:P.funcs[f]? = some fn) (h:SW P G H.length fn.ntmps [] F (fnQ P fn.results H.length p1 K1) ⟨[.c (bodyC fn)],numb 0 args,H⟩) (hnt:Nat.ble args.length fn.ntmps=true:=by kernel_rfl) (hb:fn.body.isSome=true:=by kernel_rfl):KF P G f fn args H F p1 K1:=by
 refine⟨hfn,λr hF=>?_⟩
 obtain⟨c,hc⟩:=Was.1 hb;have h1:=h.run _ hF
 have h2:bodyC fn=c:=by unfold bodyC;rw[hc]
 rw[h2]at h1;exact ACall.body hfn hc hnt (Wc6 h1 λ_ _ _ h=>h)
def Ww:=@KF.of
def Hnd.ca {f:FuncId} {fn:Func} {args:List PV} {H:List Blk} (h:KF P G f fn args H F p1 K1) {r:A} (hr:F=some r):Hnd P G:=.call h.fn [] (h.run r hr)
def Hnd.cw {f:FuncId} {fn:Func} {args:List PV} {H:List Blk} (ws:List Ow) (h:KF P G f fn args H F p1 K1) {r:A} (hr:F=some r):Hnd P G:=.call h.fn ws (h.run r hr)
def HC.ca {f:FuncId} {fn:Func} {args:List PV} {H:List Blk} {b w:Bool} (h:KF P G f fn args H F p1 K1) {r:A} (hr:b=w→F=some r):HC P G where
 b:=b
 w:=w
 run:=callR P G f fn args H (K1 r) (p1 r) []
 sound hb:=(Hnd.ca h (hr hb)).sound
def SW.bc {Q:B→Exit→St→List Blk→Prop} {F:Option A} {fn:Func} {f0:FuncId} {args:List PV} {H:List Blk} {f:A→Option B} (i:Nat) (h:KF P G f0 fn args H F p1 K1) (k:∀ {v:A} {g:F=some v},SW P G n0 nt (E++[(i,Hnd.ca h g)]) (f v) Q Z):SW P G n0 nt E (F.bind f) Q Z:=.mk λr hr=>
 let ⟨v,h1,h2⟩:=bindb hr
 (k (v:=v) (g:=h1)).run r h2
def inQ {A:Type} (P:Program) (rs:Array ResultVar) (n0:Nat) (p1:A→PV) (K1:A→List Blk) (a:A):Exit→St→List Blk→Prop:=InQ P rs n0 (p1 a) (K1 a)
structure KI {A:Type} (P:Program) (G:Glob) (fn:Func) (args:List PV) (H:List Blk) (F:Option A) (p1:A→PV) (K1:A→List Blk):Prop where
 run:∀ r:A,F=some r→AWP P G H.length fn.ntmps (bodyC fn) (InQ P fn.results H.length (p1 r) (K1 r)) (numb 0 args) H
def KI.mk1 {fn:Func} {args:List PV} {H:List Blk} (h:SW P G H.length fn.ntmps [] F (inQ P fn.results H.length p1 K1) ⟨[.c (bodyC fn)],numb 0 args,H⟩):KI P G fn args H F p1 K1:=
 ⟨λr hF=>Wc6 (h.run r hF) λ_ _ _ h=>h⟩
def fiO (P:Program) (rs:Array ResultVar) (n0:Nat) (Z:Cf):Option PV:=match nf 1000 Z.fs with
 |.fin e=>match(match e with|.normal=>true|.ret=>true|_=>false)&&Nat.ble n0 Z.H.length with
  |true=>ares P Z.st Z.H rs
  |false=>none
 |_=>none
def fiO_ok {p1:PV} {K1:List Blk} {rs:Array ResultVar} {m:Nat} (ok:fiO P rs n0 Z=some p1) (hi:(Nat.ble n0 m&&p1.ids (λj=>decide (j<m))&&((Z.H.take m).all (Blk.farOk m)||Nat.ble Z.H.length m))=true) (hK:(Z.H.take m).map some=K1.map some):∃ e,nf 1000 Z.fs=.fin e∧(e=.normal∨e=.ret)∧InQ P rs n0 p1 K1 e Z.st Z.H:=by
 simp only[Wh,Wbo]at hi
 unfold fiO at ok
 split at ok
 rename_i e hn
 split at ok
 have he:e=.normal∨e=.ret:=gD
 refine⟨e,hn,he,he,ok,m,W2 hi.1.1,hi.1.2,?_,Zby hK.symm⟩
 rcases hi.2 with h|h
 exact .inl h;exact .inr (W2 h);cases ok
 grind
def SW.g (m:Nat) (ok:fiO P rs n0 Z=some (p1 v):=by kernel_rfl) (hi:(Nat.ble n0 m&&(p1 v).ids (λj=>decide (j<m))&&((Z.H.take m).all (Blk.farOk m)||Nat.ble Z.H.length m))=true:=by kernel_rfl) (hK:(Z.H.take m).map some=(K1 v).map some:=by kernel_rfl):SW P G n0 nt E (some v) (inQ P rs n0 p1 K1) Z:=.mk λr hr=>by
 cases hr;obtain⟨e,h1,h2,h3⟩:=fiO_ok ok hi hK
 refine nf_ok 1000 _ ?_
 rw[h1];exact h3
def SW.gq {Qm:A→En} {p0:PV} {K0:List Blk} (m:Nat) (hq:Qm v=.q (InQ P rs n0 p0 K0)) (ok:fiO P rs n0 Z=some p0:=by kernel_rfl) (hi:(Nat.ble n0 m&&p0.ids (λj=>decide (j<m))&&((Z.H.take m).all (Blk.farOk m)||Nat.ble Z.H.length m))=true:=by kernel_rfl) (hK:(Z.H.take m).map some=K0.map some:=by kernel_rfl)
  (hr:(match nf 1000 Z.fs with|.fin e=>(match e with|.ret=>true|_=>false)|_=>false)=true:=by kernel_rfl):SW P G n0 nt E (some v) (mdQ G n0 nt Qm) Z:=.mk λr hr'=>by
 cases hr';obtain⟨e,h1,h2,h3⟩:=fiO_ok ok hi hK
 refine nf_ok 1000 _ ?_
 rw[h1]at hr⊢
 have he:e=.ret:=gD
 subst he
 refine Wbq ?_
 rw[hq];exact⟨rfl,h3⟩
def Hnd.inl {f:FuncId} {fn:Func} {args:List PV} {H0:List Blk} {p0:PV} {K0:List Blk} (hfn:P.funcs[f]? = some fn) (h:AWP P G H0.length fn.ntmps (bodyC fn) (InQ P fn.results H0.length p0 K0) (numb 0 args) H0):Hnd P G where
 run o st H:=match o.op with
  |.call cl=>match cl.callee with
   |.value x=>match opd G st x,opdL G st cl.args.toList with
    |some px,some ps=>match fn.body.isSome&&!(fn.name== "runtime.NumGoroutine")&&Nat.ble args.length fn.ntmps with
     |true=>some ⟨p0,K0,[.p px,.ps ps,.bs (H.map some)],[.p (.sc (.func (.func f) #[] #[])),.ps args,.bs (H0.map some)]⟩
     |false=>none
    |_,_=>none
   |_=>none
  |_=>none
 sound:=by
  intro n0 o st H x h1 he
  split at h1
  rename_i cl ho
  split at h1
  rename_i y hc
  split at h1
  rename_i px ps hx hps
  split at h1
  rename_i hcond;simp only[Wh,Wes]at hcond;cases h1
  simp at he
  obtain⟨rfl,rfl,e3⟩:=he;have e3:=Zby e3;obtain⟨c,hb⟩:=Was.1 hcond.1.1
  have h2:bodyC fn=c:=by unfold bodyC;rw[hb]
  refine OpW.inline (caps:=[]) ho hc (.inl ⟨hx,rfl⟩) hfn hb hcond.1.2 (Zkw _ _ hps) sA gD
  cases h1;cases h1;cases h1
  grind
end
section
variable {P:Program} {G:Glob} {n0 nt:Nat} {o:Oper} {st:St} {H:List Blk}
def Hnd.dep (f:Oper→St→List Blk→Option (Hnd P G)):Hnd P G where
 run o st H:=match f o st H with
  |some k=>k.run o st H
  |none=>none
 sound:=by
  intro n0 o st H x h he
  split at h
  exact Hnd.sound _ h he;cases h
def Hnd.or (a b:Hnd P G):Hnd P G where
 run o st H:=match a.run o st H with
  |some x=>some x
  |none=>b.run o st H
 sound:=by
  intro n0 o st H x h he
  split at h
  rename_i h1;cases h;exact a.sound h1 he;exact b.sound h he
def Hnd.fn (f:Oper→St→List Blk→Option (PV×List Blk)) (hf:∀ {n0:Nat} {o:Oper} {st:St} {H:List Blk} {r:PV×List Blk},f o st H=some r→OpW P G n0 o st H r.1 r.2):Hnd P G where
 run o st H:=(f o st H).map λr=>⟨r.1,r.2,[],[]⟩
 sound:=by
  intro n0 o st H x h _;obtain⟨r,h1,rfl⟩:=Wg.1 h
  grind
def xhB:List PV→List Blk→List Blk
 |[],H=>H
 |p::ps,H=>match p with
  |.own i _=>match H[i]? with
   |some (.buf s t xs _)=>xhB ps (H.set i (.buf s t xs true))
   |_=>xhB ps H
  |_=>xhB ps H
def xhB_ok {c:Ctx} {a:Act} {w:World} {β:List Bnd}:∀ ps {H:List Blk},RelB G c β st H a w→RelB G c β st (xhB ps H) a w
 |[],_,h=>h
 |p::ps,H,h=>by
  unfold xhB;split;split;rename_i hb;exact xhB_ok ps (h.share hb);exact xhB_ok ps h;exact xhB_ok ps h
def shP (H:List Blk):PV→PV
 |.agg cs=>.agg (cs.map (wkP H))
 |p=>wkP H p
def cellsP:PV→List PV
 |.agg cs=>cs
 |p=>[p]
def shP_ok {c:Ctx} {a:Act} {w:World} {β:List Bnd} (h:RelB G c β st H a w) {p:PV} {u:Value} (hp:VR (stab c β H w) β w p u):VR (stab c β H w) β w (shP H p) u:=by
 unfold shP;split;obtain⟨us,e,hu⟩:=hp
 refine⟨us,e,h.wks ?_ _ hu⟩
 rename_i cs;clear hu
 induction cs with
 |nil=>exact .nil
 |cons p ps ih=>exact .cons _ _ _ _ (wkP_wk H p) ih
 exact h.wk hp (wkP_wk H _)
def Hnd.shr (k:Hnd P G):Hnd P G where
 run o st H:=match xhB ((st.pick (readsOf o)).flatMap λx=>cellsP x.2) H with
  |H1=>k.run o ((st.pick (readsOf o)).map λx=>(x.1,shP H1 x.2)) H1
 sound:=by
  intro n0 o st H x h he
  refine OpW.pre (λc a w β hr=>?_) (k.sound h he)
  have h1:=xhB_ok ((st.pick (readsOf o)).flatMap λx=>cellsP x.2) (hr.sub (Wcy (readsOf o) st))
  refine⟨β,h1.ok,h1.len,h1.pre,h1.blk,h1.inj,h1.loc,h1.cel,λx hx=>?_,h1.nt,h1.dfr,h1.frm,h1.gh⟩
  obtain⟨y,hy,rfl⟩:=W9.1 hx;exact⟨(h1.slots y hy).1,shP_ok h1 (h1.slots y hy).2⟩
def owx (P:Program) (G:Glob) (o:Oper) (st:St) (H:List Blk):Option (PV×List Blk):=match o.op with
 |.indexAddr t x y=>match P.underlying t,opd G st x,opd G st y with
  |some (.slice e),some (.ow i n a b),some (.sc (.int _ j))=>match H[i]? with
   |some (.buf s _ xs _)=>if n=xs.length∧P.cellsOf e=s∧s≠0∧0≤j∧j<(b-a:Nat)then some (.ept i n (a+j.toNat) 0,H)else none
   |_=>none
  |_,_,_=>none
 |.nilCheck x=>match opd G st x with
  |some (.ept i n k off)=>match H[i]? with
   |some (.buf _ _ xs _)=>if n=xs.length then some (.ept i n k off,H)else none
   |_=>none
  |_=>none
 |.call cl=>match cl with
  |{callee:=.builtin .len,args:=⟨[x]⟩,argTypes:=⟨[T0]⟩}=>match P.underlying T0,opd G st x with
   |some (.slice _),some (.ow i n a b)=>match H[i]? with
    |some (.buf _ _ xs _)=>if n=xs.length then some (.sc (.int .i64 (b-a:Nat)),H)else none
    |_=>none
   |_,_=>none
  |_=>none
 |.slice t x lo hi none=>match P.underlying t,opd G st x,loOf G st lo with
  |some (.slice e),some (.own i n),some l=>match H[i]?,hiOf G st n hi with
   |some (.buf s _ xs _),some h=>if n=xs.length∧P.cellsOf e=s∧s≠0∧0≤l∧h≤n then(if l<h then some (.ow i n l.toNat h.toNat,H)else if l=h then some (.sl s [],H)else none)else none
   |_,_=>none
  |some (.slice e),some (.ow i n a b),some l=>match H[i]?,hiOf G st (b-a) hi with
   |some (.buf s _ xs _),some h=>if n=xs.length∧P.cellsOf e=s∧s≠0∧0≤l∧h≤(b-a:Nat)∧a<b then(if l<h then some (.ow i n (a+l.toNat) (a+h.toNat),H)else if l=h then some (.sl s [],H)else none)else none
   |_,_=>none
  |_,_,_=>none
 |_=>none
def OpT.owx {r:PV×List Blk} (h:owx P G o st H=some r):OpT P G n0 o st H r.1 r.2:=by
 unfold AM.owx at h
 split at h
 rename_i ho
 split at h
 rename_i hu hx hy
 split at h
 rename_i hb
 split at h
 rename_i hc;cases h;exact OpT.index_ow ho hu hc.2.1 hc.2.2.1 hx hb hc.1 hy hc.2.2.2.1 hc.2.2.2.2;cases h;cases h;cases h;rename_i ho
 split at h
 rename_i hx
 split at h
 rename_i hb
 split at h
 rename_i hc;cases h;exact OpT.nilCheck_ept ho hx hb hc;cases h;cases h;cases h;rename_i ho
 split at h
 split at h
 rename_i hu hx
 split at h
 rename_i hb
 split at h
 rename_i hc;cases h;exact OpT.len_ow ho rfl hu hx hb hc;cases h;cases h;cases h;cases h;rename_i ho
 split at h
 rename_i hu hx hl
 split at h
 rename_i hb hh
 split at h
 rename_i hc
 split at h
 cases h;exact OpT.slice_own ho hu hc.2.1 hc.2.2.1 hx hb hc.1 hl hh hc.2.2.2.1 ‹_› hc.2.2.2.2
 split at h
 rename_i e;subst e;cases h;exact Wg1 ho hu hc.2.1 hc.2.2.1 hx (.inl ⟨rfl,rfl,rfl⟩) hb hc.1 hl hh hc.2.2.2.1 hc.2.2.2.2;cases h;cases h;cases h;rename_i hu hx hl
 split at h
 rename_i hb hh
 split at h
 rename_i hc
 split at h
 cases h;exact OpT.slice_ow ho hu hc.2.1 hc.2.2.1 hx hb hc.1 hc.2.2.2.2.2 hl hh hc.2.2.2.1 ‹_› hc.2.2.2.2.1
 split at h
 rename_i e;subst e;cases h;exact Wg1 ho hu hc.2.1 hc.2.2.1 hx (.inr rfl) hb hc.1 hl hh hc.2.2.2.1 hc.2.2.2.2.1;cases h;cases h;cases h;cases h;cases h
def srcz (H:List Blk) (s:Nat):PV→Option (List (List PV))
 |.sl s' ys=>if s=s' then some ys else none
 |.sc (.slice none 0 0)=>some []
 |.own j m=>match H[j]? with
  |some (.buf s' _ ys _)=>if s=s'∧m=ys.length then some ys else none
  |_=>none
 |.ow j m lo hi=>match H[j]? with
  |some (.buf s' _ ys _)=>if s=s'∧m=ys.length∧lo<hi∧hi≤m then some ((ys.take hi).drop lo)else none
  |_=>none
 |_=>none
def Z8f {s:Nat} {p:PV} {ys:List (List PV)} (h:srcz H s p=some ys):Src H s p ys:=by
 unfold srcz at h
 split at h
 split at h
 rename_i e;subst e;cases h;exact .sl _;cases h;cases h;exact .nil
 split at h
 rename_i hb
 split at h
 rename_i e;obtain⟨rfl,rfl⟩:=e;cases h;exact .own _ _ _ _ hb;cases h;cases h
 split at h
 rename_i hb
 split at h
 rename_i e;obtain⟨rfl,rfl,h1,h2⟩:=e;cases h;exact .ow _ _ _ _ _ _ hb h1 h2;cases h;cases h;cases h
def apO (P:Program) (G:Glob) (cl:Call) (st:St) (H:List Blk):Option (PV×List Blk):=match cl with
 |{callee:=.builtin .append,args:=⟨[x,y]⟩,argTypes:=⟨[T0,U]⟩}=>match P.underlying T0,P.underlying U,opd G st x,opd G st y with
  |some (.slice t),some (.slice _),some (.own i n),some q=>match H[i]?,P.info? t with
   |some (.buf s t' xs sh),some ti=>match ti.zero,srcz H s q with
    |some z,some ys=>if t=t'∧n=xs.length∧ti.size=s∧z.cells.size=s∧ys.flatten.all PV.one=true∧(xs.length+ys.length)*ti.bytes≤140737488355328∧xs.length+ys.length≤140737488355328 then some (.own i (xs++ys).length,H.set i (.buf s t (xs++ys) sh))else none
    |_,_=>none
   |_,_=>none
  |_,_,_,_=>none
 |_=>none
def OpT.apO {cl:Call} (ho:o.op=.call cl) {r:PV×List Blk} (h:apO P G cl st H=some r):OpT P G n0 o st H r.1 r.2:=by
 unfold AM.apO at h
 split at h
 split at h
 rename_i h1 h2 hx hy
 split at h
 rename_i hb hi
 split at h
 rename_i hz hq
 split at h
 rename_i hc;obtain⟨rfl,rfl,c3,c4,c5,c6,c7⟩:=hc;cases h;exact OpT.append ho rfl h1 h2 hi hz c3 c4 hx hb hy (Z8f hq) c5 c6 c7;cases h;cases h;cases h;cases h;cases h
def apN (P:Program) (G:Glob) (cl:Call) (st:St) (H:List Blk):Option (PV×List Blk):=match cl with
 |{callee:=.builtin .append,args:=⟨[x,y]⟩,argTypes:=⟨[T0,U]⟩}=>match P.underlying T0,P.underlying U,opd G st x,opd G st y with
  |some (.slice t),some (.slice _),some (.sc (.slice none 0 0)),some q=>match P.info? t with
   |some ti=>match ti.zero,srcz (H++[.buf ti.size t [] false]) ti.size q with
    |some z,some ys=>match ys with
     |[]=>some (.sc (.slice none 0 0),H)
     |ys=>if z.cells.size=ti.size∧ys.flatten.all PV.one=true∧ys.length*ti.bytes≤140737488355328∧ys.length≤140737488355328 then some (.own H.length ys.length,H++[.buf ti.size t ys false])else none
    |_,_=>none
   |none=>none
  |_,_,_,_=>none
 |_=>none
def OpT.apN {cl:Call} (ho:o.op=.call cl) {r:PV×List Blk} (h:apN P G cl st H=some r):OpT P G n0 o st H r.1 r.2:=by
 unfold AM.apN at h
 split at h
 rename_i x y T0 U
 split at h
 rename_i t e q h1 h2 hx hy
 split at h
 rename_i ti hi
 split at h
 rename_i z ys hz hq
 have hb:(H++[Blk.buf ti.size t [] false])[H.length]? = some (.buf ti.size t [] false):=sM
 split at h
 cases h
 refine Waa λc a w β hn hr=>⟨.slice none 0 0,?_,by simp  [VR]⟩
 have hnil:=hr.opd hx
 simp  [VR]at hnil
 obtain⟨k1,k2⟩:=hr.own ti.size t
 have hvy:∃ ad cap,a.eval y=.slice ad 0 cap:=by
  rcases Z2m k1 (Z8f hq) (k1.opd hy)with⟨_,h2⟩|⟨b,off,cap,vals,h2,_⟩
  exact h2
  grind
 obtain⟨ad,cap,hvy⟩:=hvy;have hrun:=Zmx (P:=P) (w:=w) (ty:=o.type) h1 hi none 0 0 ad cap (Ws _);rw[←Zyl h1 h2 hi]at hrun;have hrun':=hrun;simp[execOp,ho,resolve,invoke,builtin,hnil,hvy,hrun']
 split at h
 rename_i hc;cases h;intro c a w β h0 hr;obtain⟨k1,k2⟩:=hr.own ti.size t
 have hvx:VR (stab c (β++[⟨0,.slice none 0 0,0,ti.size,[]⟩]) (H++[.buf ti.size t [] false]) w) (β++[⟨0,.slice none 0 0,0,ti.size,[]⟩]) w (.own H.length ([]:List (List PV)).length) (a.eval x):=by
  rw[hr.opd hx];exact⟨⟨_,_,rfl⟩,⟨0,.slice none 0 0,0,ti.size,[]⟩,by rw[←hr.len];simp,Ws _,λ_=>rfl⟩
 refine Zh4 (Z9e k1 ho rfl h1 h2 hi hz rfl hc.1 hvx hb hy (Z8f hq) hc.2.1 gD gD) λv w' ⟨β',g1,g2,g3,g4⟩=>?_
 have hset:∀ b,(H++[Blk.buf ti.size t [] false]).set H.length b=H++[b]:=λb=>by
  simp
 rw[hset]at g1 g2 g4
 refine⟨β',g1,gD,λi e _ he=>?_,k2.trans g4⟩
 exact g3 i e rfl gD;cases h;cases h;cases h;cases h;cases h
end
section
variable {P:Program} {G:Glob} {n0 nt:Nat} {o:Oper} {st:St} {H:List Blk}
def mpx (P:Program) (G:Glob) (o:Oper) (st:St) (H:List Blk):Option (PV×List Blk):=match o.op with
 |.makeMap _ none=>some (.mp H.length,H++[.map [] 0])
 |.lookup t x y ok=>match P.underlying t,opd G st x,opd G st y with
  |some (.map k e),some (.mp i),some (.sc key)=>match H[i]? with
   |some (.map es _)=>(lookx P k e ok key es).map λp=>(p,H)
   |_=>none
  |_,_,_=>none
 |.mapUpdate t x y z=>match P.underlying t,opd G st x,opd G st y,opd G st z with
  |some (.map k _),some (.mp i),some (.sc key),some p=>match H[i]? with
   |some (.map es cl)=>(putx P k key p es cl).map λr=>(.sc undef,H.set i (.map r.1 r.2))
   |_=>none
  |_,_,_,_=>none
 |.call cl=>match cl with
  |{callee:=.builtin .clear,args:=⟨[x]⟩,argTypes:=⟨[T0]⟩}=>match P.underlying T0,opd G st x with
   |some (.map _ _),some (.mp i)=>match H[i]? with
    |some (.map _ ck)=>some (.sc (.tuple #[]),H.set i (.map [] ck))
    |_=>none
   |_,_=>none
  |{callee:=.builtin .len,args:=⟨[x]⟩,argTypes:=⟨[T0]⟩}=>match P.underlying T0,opd G st x with
   |some (.map _ _),some (.mp i)=>match H[i]? with
    |some (.map es _)=>some (.sc (.int .i64 es.length),H)
    |_=>none
   |_,_=>none
  |_=>none
 |.range t x=>match P.underlying t,opd G st x with
  |some (.map _ _),some (.mp i)=>match H[i]? with
   |some (.map _ ck)=>some (.ptr H.length 0,H++[.iter (some i) ck [] ck])
   |_=>none
  |_,_=>none
 |.next x false=>match opd G st x with
  |some (.ptr i 0)=>match H[i]? with
   |some (.iter (some k) since seen last)=>match H[k]? with
    |some (.map es ck)=>match stepx es since seen last with
     |some .over=>some (.sc (.tuple #[.bool false]),H)
     |some (.one seen' j)=>match es[j]? with
      |some en=>some (.tup [.sc (.bool true),.sc en.2.1,en.2.2],H.set i (.iter (some k) since seen' ck))
      |none=>none
     |none=>none
    |_=>none
   |_=>none
  |_=>none
 |.entry x=>match opd G st x with
  |some (.ptr i 0)=>match H[i]? with
   |some (.iter (some k) _ seen ck)=>match H[k]? with
    |some (.map es ck')=>if ck'=ck then(entx es seen).map λp=>(p,H)else none
    |_=>none
   |_=>none
  |_=>none
 |_=>none
def OpT.mpx {r:PV×List Blk} (h:mpx P G o st H=some r):OpT P G n0 o st H r.1 r.2:=by
 unfold AM.mpx at h
 split at h
 rename_i ho;cases h;exact OpT.makeMap ho;rename_i ho
 split at h
 rename_i ht hx hy
 split at h
 rename_i hb;obtain⟨q,hq,rfl⟩:=Wg.1 h;exact OpT.lookup ho ht hx hy hb hq;cases h;cases h;rename_i ho
 split at h
 rename_i ht hx hy hz
 split at h
 rename_i hb;obtain⟨q,hq,rfl⟩:=Wg.1 h;exact Wh7 (.inl ho) ht hx hy hz hb hq;cases h;cases h;rename_i ho
 split at h
 split at h
 rename_i ht hx
 split at h
 rename_i hb;cases h;exact OpT.clearMap ho rfl ht hx hb;cases h;cases h
 split at h
 rename_i ht hx
 split at h
 rename_i hb;cases h;exact OpT.lenMap ho rfl ht hx hb;cases h;cases h;cases h;rename_i ho
 split at h
 rename_i ht hx
 split at h
 rename_i hb;cases h;exact OpT.rangeMap ho ht hx hb;cases h;cases h;rename_i ho
 split at h
 rename_i hx
 split at h
 rename_i hb
 split at h
 rename_i hk
 split at h
 rename_i hs;cases h;exact OpT.nextOver ho hx hb hk hs;rename_i hs
 split at h
 rename_i hj;cases h;exact OpT.nextOne ho hx hb hk hs hj;cases h;cases h;cases h;cases h;cases h;rename_i ho
 split at h
 rename_i hx
 split at h
 rename_i hb
 split at h
 rename_i hk
 split at h
 rename_i e;subst e;obtain⟨q,hq,rfl⟩:=Wg.1 h;exact OpT.entry ho hx hb hk hq;cases h;cases h;cases h;cases h;cases h
def Now (w:World) (b _:Nat):Prop:=b<w.heap.size
def fz1 (H:List Blk) (p:PV):PV:=match p with
 |.own i n=>match H[i]? with
  |some (.buf s _ xs _)=>if n=xs.length then .sl s xs else p
  |_=>p
 |.ow i n a b=>match H[i]? with
  |some (.buf s _ xs _)=>if n=xs.length∧a<b∧b≤n then .sl s ((xs.take b).drop a)else p
  |_=>p
 |p=>p
def RelB.now {c:Ctx} {β:List Bnd} {a:Act} {w:World} (hr:RelB G c β st H a w):Ext (stab c β H w) w (Now w) w:=⟨λ_ _ h=>Zp7 hr h,λ_ _ _ _ _ _ h=>h⟩
def fz1_ok {c:Ctx} {β:List Bnd} {a:Act} {w:World} (hr:RelB G c β st H a w) {p:PV} {u:Value} (hp:VR (stab c β H w) β w p u):VR (Now w) β w (fz1 H p) u:=by
 have e:=Wci hr.now (W3 _ β) hp;unfold fz1;split;rename_i i n;split;rename_i s t xs sh hb;split;rename_i hn;have hp':=hp;obtain⟨_,f,g1,_⟩:=hp'
 exact own_sl g1 (BlkR.keep hr.now (W3 _ _) (λ_ _=>rfl) (hr.blk i f _ g1 hb)) hn hp λg hg=>at_lt (hr.blk i f _ g1 hb) hg
 exact e;exact e;rename_i i n lo hi;split;rename_i s t xs sh hb;split;rename_i hn;obtain⟨_,ed,he,k1,k2⟩:=hp;obtain⟨q1,q2,q3,vals,⟨q4,q5⟩,q6⟩:=hr.blk i ed _ he hb;obtain⟨g,cap,k3,k4,hv⟩:=k2 om
 rcases q5 with⟨q5,q7⟩|⟨g',cp,cur,e1,e2,e3,e4,e5,e6,e7⟩
 omega;rw[e1]at k3;cases k3
 obtain⟨ad,cp',g1,g2,g3⟩:=own_sl (β:=β) (β':=β) (n:=n) (u:=ed.v) he (BlkR.keep hr.now (W3 _ _) (λ_ _=>rfl) (hr.blk i ed _ he hb)) hn.1 (S:=stab c β H w) (by simp  [VR];grind) λg hg=>at_lt (hr.blk i ed _ he hb) hg
 rcases g3 with rfl|⟨b,off,g4,g5,g6⟩
 simp at hn;omega
 rw[e1,g4]at g1;cases g1;have hpart:=Ztk xs 0 hi lo g6
 refine⟨_,cap,gD,gD,.inr ⟨g',lo*ed.s,rfl,g5,gD⟩⟩
 exact e;exact e;exact e
end
section
variable {P:Program} {G:Glob} {n0 nt:Nat} {o:Oper} {st:St} {H:List Blk}
def low_vr {S:Nat→Nat→Prop} {β:List Bnd} {w:World} {t:TypeId} {p:PV} {u:Value} (h:VR S β w p u):VR S β w (low P t p) u:=by
 unfold low;split;split;simp only[VR]at h⊢;subst h;exact⟨none,0,rfl,Ws _,.inl trivial⟩;exact h;exact h
def Z9r {S:Nat→Nat→Prop} {β:List Bnd} {w:World}:∀ ts ps us,VRs S β w ps us→VRs S β w (lowZip P ts ps) us
 |[],_,_,h=>h
 |_::_,[],_,h=>h
 |_::_,_::_,[],h=>by simp  [VRs]at h
 |t::ts,p::ps,u::us,h=>⟨low_vr h.1,Z9r ts ps us h.2⟩
def nilq (P:Program) (G:Glob) (o:Oper) (st:St) (H:List Blk):Option (PV×List Blk):=match o.op with
 |.binOp .eql t x (.const (.slice none 0 0)) _=>match P.underlying t,(opd G st x).map (fz1 H)with
  |some (.slice _),some (.sl _ (_::_))=>some (.sc (.bool false),H)
  |_,_=>none
 |_=>none
def OpT.nilq {r:PV×List Blk} (h:nilq P G o st H=some r):OpT P G n0 o st H r.1 r.2:=by
 unfold AM.nilq at h
 split at h
 rename_i ho
 split at h
 rename_i hu hx;cases h;obtain⟨p,hp,e⟩:=Wg.1 hx
 refine Waa λc a w β hn hr=>⟨.bool false,?_,by simp  [VR]⟩
 have h1:=fz1_ok hr (hr.opd hp);rw[e]at h1;obtain⟨ad,cap,g1,g2,g3⟩:=h1
 rcases g3 with g3|⟨b,off,g4,_⟩
 cases g3;subst g4;have hc:a.eval (.const (.slice none 0 0))=.slice none 0 0:=rfl;simp[execOp,ho,g1,hc,eqGuard,binOp,run_equal_slice_nil w _ _ _ _ _ hu];cases h;cases h
end
section
variable {P:Program} {G:Glob} {n0 nt:Nat} {o:Oper} {st:St} {H:List Blk}
def litx (P:Program) (G:Glob) (o:Oper) (st:St) (H:List Blk):Option (PV×List Blk):=match o.op with
 |.buildSlice t len parts=>match opds G st parts.toList with
  |some ps=>match litPV P t len ps with
   |some (e,out)=>match PV.idss (λ_=>false) out with
    |true=>some (.sl (P.cellsOf e) (rowsOf (P.cellsOf e) len out),H)
    |false=>none
   |none=>none
  |none=>none
 |.makeSlice t x y=>match P.underlying t,opd G st x,opd G st y with
  |some (.slice e),some (.sc (.int _ l)),some (.sc (.int _ m))=>match P.info? e with
   |some ti=>match ti.zero with
    |some z=>if 0≤l∧l≤m∧(ti.bytes:Int)*m≤281474976710656∧m.toNat≤maxLen then
      some (.own H.length l.toNat,H++[.buf ti.size e (rowsOf ti.size l.toNat (((madeCells z.cells (m.toNat*ti.size)).toList.take (l.toNat*ti.size)).map .sc)) false])else none
    |none=>none
   |none=>none
  |_,_,_=>none
 |.call cl=>match apO P G cl st H with
  |some r=>some r
  |none=>apN P G cl st H
 |_=>none
def OpW.litx {r:PV×List Blk} (h:litx P G o st H=some r):OpW P G n0 o st H r.1 r.2:=by
 unfold AM.litx at h
 split at h
 rename_i ho
 split at h
 rename_i hp
 split at h
 rename_i hl
 split at h
 rename_i hc;cases h;exact(OpT.lit ho hp hl hc rfl).weak;cases h;cases h;cases h;rename_i ho
 split at h
 rename_i hu hx hy
 split at h
 rename_i hti
 split at h
 rename_i hz
 split at h
 rename_i hc;cases h;exact(Wh6 ho hu hti hz hx hy hc.1 hc.2.1 hc.2.2.1 hc.2.2.2).weak;cases h;cases h;cases h;cases h;rename_i ho
 split at h
 rename_i h1;cases h;exact(OpT.apO ho h1).weak;exact(OpT.apN ho h).weak;cases h
def Hnd.lx:Hnd P G:=.fn (AM.litx P G) .litx
def Hnd.owx:Hnd P G:=.fn (AM.owx P G) λh=>(OpT.owx h).weak
def Hnd.mpx:Hnd P G:=.fn (AM.mpx P G) λh=>(OpT.mpx h).weak
def Hnd.nilq:Hnd P G:=.fn (AM.nilq P G) λh=>(OpT.nilq h).weak
def idh (xs:List (List PV)) (j:Int) (k:∀ z,idx xs j=some z→Hnd P G):Option (Hnd P G):=match h:idx xs j with
 |some z=>some (k z h)
 |none=>none
def byt (xs:List (List PV)):List Int:=xs.map λr=>match r with
 |.sc (.int _ n)::_=>n
 |_=>0
def fnO:PV→Option (FuncId×List PV)
 |.sc (.func (.func f) ⟨[]⟩ ⟨[]⟩)=>some (f,[])
 |.fn f caps=>some (f,caps)
 |_=>none
abbrev Hk (P:Program) (G:Glob):=FuncId→List PV→List Blk→Option (Hnd P G)
def ud (K:Hnd P G) (hk:Hk P G) (o:Oper) (st:St) (H:List Blk):Option (Hnd P G):=match o.op with
 |.alloc _=>some .m
 |.box _ _=>some .m
 |.build _ _=>some .m
 |.buildSlice _ n _=>match n with
  |0=>some .m
  |_=>some (.or .lx (.shr .lx))
 |.load _ x=>match opd G st x with
  |some (.ept i _ k _)=>match H[i]? with
   |some (.buf _ _ xs _)=>idh xs k λ_ h=>.ldE (λz=>z) h
   |_=>none
  |some (.ptr _ _)=>some .q
  |_=>some .s
 |.store _ x y=>match opd G st x,opd G st y with
  |some (.ept i _ k off),some p=>match H[i]? with
   |some (.buf _ _ xs _)=>idh xs k λz h=>.stE (λz=>z) h (z.take off++p.cells++z.drop (off+p.cells.length))
   |_=>none
  |_,_=>some .m
 |.fieldAddr _ x _=>match opd G st x with
  |some (.ept i _ k _)=>match H[i]? with
   |some (.buf _ _ xs _)=>some (.fdE (λz=>z) xs k)
   |_=>none
  |_=>some .s
 |.indexAddr _ x y=>match opd G st x,opd G st y with
  |some (.sl _ xs),some (.sc (.int _ j))=>idh xs j λ_ h=>.idx (λz=>z) h
  |some (.own i _),some (.sc (.int _ j))=>match H[i]? with
   |some (.buf _ _ xs _)=>idh xs j λ_ h=>.idx (λz=>z) h
   |_=>none
  |some (.ow _ _ _ _),_=>some (.owx)
  |_,_=>some .s
 |.nilCheck x=>match opd G st x with
  |some (.ept _ _ _ _)=>some (.owx)
  |_=>some .s
 |.slice _ x lo hi none=>match opd G st x with
  |some (.sl _ xs)=>match loOf G st lo,hiOf G st xs.length hi with
   |some a,some b=>if h:0≤a∧a≤b∧b≤(xs.length:Int)then some (.slice (λz=>z) xs h)else none
   |_,_=>none
  |some (.sc _)=>match loOf G st lo,hiOf G st 0 hi with
   |some a,some b=>if h:0≤a∧a≤b∧b≤(([]:List (List PV)).length:Int)then some (.slice (λz=>z) [] h)else none
   |_,_=>none
  |_=>some (.owx)
 |.binOp _ _ x (.const (.slice none 0 0)) _=>match opd G st x with
  |some (.sc _)=>some .s
  |_=>some (.nilq)
 |.binOp _ _ x _ _=>match opd G st x with
  |some (.ptr _ _)=>some .ptrNil
  |_=>some .s
 |.convert _ _ x=>match opd G st x with
  |some (.own i _)=>match H[i]? with
   |some (.buf _ _ xs _)=>some (.toStrO (byt xs))
   |_=>none
  |_=>some .s
 |.makeSlice _ _ _=>some .lx
 |.makeFunc _ _ _=>some .q
 |.makeMap _ _=>some (.mpx)
 |.lookup _ _ _ _=>some (.mpx)
 |.mapUpdate _ _ _ _=>some (.mpx)
 |.range _ _=>some (.mpx)
 |.next _ _=>some (.mpx)
 |.entry _=>some (.mpx)
 |.call cl=>match cl.callee with
  |.value x=>match(opd G st x).bind fnO,opdL G st cl.args.toList with
   |some (f,caps),some ps=>match hk f (ps++caps) H with
    |some k=>some k
    |none=>some K
   |_,_=>none
  |.builtin b=>match cl.args.toList with
   |x::_=>match opd G st x with
    |some (.mp _)=>some (.mpx)
    |p=>match b with
     |.append=>some .lx
     |.len=>match p with
      |some (.sl _ xs)=>some (.len (λz=>z) xs)
      |some (.own i _)=>match H[i]? with
       |some (.buf _ _ xs _)=>some (.len (λz=>z) xs)
       |_=>none
      |some (.ow _ _ _ _)=>some (.owx)
      |_=>some .s
     |_=>some .s
   |[]=>none
  |_=>none
 |_=>some .s
abbrev XR:=Exit×St×List Blk×Eqs
structure XE (P:Program) (G:Glob) where
 run:Nat→Nat→Code→St→List Blk→Eqs→Option XR
 ok:∀ {n0 nt:Nat} {x:Code} {st:St} {H:List Blk} {es:Eqs} {r:XR},run n0 nt x st H es=some r→Eqs.ok r.2.2.2→Eqs.ok es∧AWP P G n0 nt x (λe s h=>e=r.1∧s=r.2.1∧h=r.2.2.1) st H
def eqL (f:List T×List T→List T):Eqs→List T
 |[]=>[]
 |e::es=>.n (f e).length::(f e++eqL f es)
def eqL_ok:∀ {es:Eqs},eqL (·.1) es=eqL (·.2) es→Eqs.ok es
 |[],_=>λ_ h=>(by cases h)
 |e::es,h=>by
  simp  [eqL,Wai,Wed]at h
  obtain⟨h1,h2⟩:=Wfj h.2 h.1;intro x hx
  rcases W1.1 hx with rfl|hx
  exact h1;exact eqL_ok h2 x hx
def xfin (P:Program) (rs:Array ResultVar) (n0:Nat) (st:St) (K:List Blk):Option (PV×List Blk):=match ares P st K rs with
 |some p=>match p.ids (λj=>decide (j<n0))&&(K.take n0).all (Blk.farOk n0)with
  |true=>some (p,K.take n0)
  |false=>match p.ids (λj=>decide (j<K.length))&&Nat.ble n0 K.length with
   |true=>some (p,K)
   |false=>none
 |none=>none
def Zaec {rs:Array ResultVar} {K:List Blk} {e:Exit} {r:PV×List Blk} (he:e=.normal∨e=.ret) (h:xfin P rs n0 st K=some r):InQ P rs n0 r.1 r.2 e st K:=by
 unfold xfin at h
 split at h
 rename_i hp
 split at h
 rename_i hc;cases h;simp only[Wh]at hc;exact⟨he,hp,n0,Ws _,hc.1,.inl hc.2,rfl⟩
 split at h
 rename_i hc;cases h;simp only[Wh]at hc;exact⟨he,hp,K.length,W2 hc.2,hc.1,.inr (Ws _),(We6 ..).symm⟩;cases h;cases h
def isEnd:Exit→Bool
 |.normal=>true
 |.ret=>true
 |_=>false
def Hnd.ic (X:XE P G):Hnd P G where
 run o st H:=match o.op with
  |.call cl=>match cl.callee with
   |.value x=>match opd G st x,opdL G st cl.args.toList with
    |some px,some ps=>match fnO px with
     |some (f,caps)=>match P.funcs[f]? with
      |some fn=>match fn.body with
       |some code=>if(fn.name== "runtime.NumGoroutine")=false∧(ps++caps).length≤fn.ntmps then
         match X.run H.length fn.ntmps code (numb 0 (ps++caps)) H []with
         |some r=>match isEnd r.1,xfin P fn.results H.length r.2.1 r.2.2.1 with
          |true,some q=>some ⟨q.1,q.2,eqL (·.1) r.2.2.2,eqL (·.2) r.2.2.2⟩
          |_,_=>none
         |none=>none
        else none
       |none=>none
      |none=>none
     |none=>none
    |_,_=>none
   |_=>none
  |_=>none
 sound:=by
  intro n0 o st H x h he
  split at h
  rename_i ho
  split at h
  rename_i hc
  split at h
  rename_i px ps hx hps
  split at h
  rename_i f caps hf
  split at h
  rename_i hfn
  split at h
  rename_i hb
  split at h
  rename_i hn
  split at h
  rename_i r hr
  split at h
  rename_i q hE hq;cases h
  refine OpW.inline (caps:=caps) ho hc ?_ hfn hb hn.1 (Zkw _ _ hps) hn.2 (Wc6 (X.ok hr (eqL_ok he)).2 ?_)
  unfold fnO at hf
  split at hf
  cases hf;exact .inl ⟨hx,rfl⟩;cases hf;exact .inr hx;cases hf;rintro e s k ⟨rfl,rfl,rfl⟩;exact Zaec (by revert hE;cases r.1<;>simp[isEnd]) hq;cases h;cases h;cases h;cases h;cases h;cases h;cases h;cases h;cases h
inductive Hi where
 |a (sws:List (Nat×Nat)) (fs:List Nat)
 |e (x y:Nat) (a b:Hi)
def uni (U:Hnd P G) (n:Nat):List (Nat×Hnd P G):=(List.range n).map λi=>(i,U)
def bo (ops:Array Oper) (i:Nat):List Nat:=match ops[i]? with
 |some o=>bindsOn o
 |none=>[]
def tlO (ops:Array Oper):Nat→Nat
 |0=>0
 |i+1=>if(bo ops (i+1)).contains i then tlO ops i else i+1
def kO (ops:Array Oper):Nat:=match(List.range' (tlO ops (ops.size-1)) (ops.size-tlO ops (ops.size-1))).find? λk=>(List.range k).all (bo ops k).contains with
 |some k=>k
 |none=>ops.size
def topO (ops:Array Oper) (k:Nat):Nat→List Nat→List Nat
 |0,l=>l
 |f+1,l=>match(List.range k).find? λi=>!l.contains i&&(bo ops i).all l.contains with
  |some i=>topO ops k f (l++[i])
  |none=>l
def kdO (o:Oper):Nat:=match o.op with
 |.alloc _|.box _ _|.store ..|.makeSlice ..|.makeMap ..|.mapUpdate ..|.range ..|.next ..=>1
 |.buildSlice _ n _=>match n with
  |0=>1
  |_=>3
 |.call cl=>match cl.callee with
  |.value _=>2
  |.builtin .append|.builtin .clear|.builtin .copy|.builtin .delete=>1
  |_=>0
 |_=>0
def wayO (ops:Array Oper) (live:Nat→Bool) (x:Nat):Nat→Nat→Option (List Nat)
 |0,_=>none
 |f+1,y=>if(bo ops y).contains x then some []else(bo ops y).findSome? λj=>if live j then(wayO ops live x f j).map (·++[j])else none
def filO (ops:Array Oper) (live:Nat→Bool):List Nat→Option (List Nat)
 |x::y::l=>match(List.range 5).findSome? λf=>wayO ops live x f y,filO ops live (y::l)with
  |some w,some r=>some (x::w++r)
  |_,_=>none
 |l=>some l
structure Ge (U:Hnd P G) (ops:Array Oper) where
 i:Nat
 o:Oper
 s:St
 H:List Blk
 w:Bool
 x:Out
 ho:ops[i]? = some o
 hw:wantA ops s o=some w
 hx:w=true→U.run o s H=some x
 hu:w=false→x.p=.sc undef
def dstO (ops:Array Oper) (j:Nat):Option Nat:=(ops[j]?).bind (·.dst)
def bpO (ops:Array Oper) (k:Nat) (rs:List (Nat×PV)) (i:Nat):St:=(bo ops i).filterMap λj=>match Nat.blt j k,dstO ops j,rs.lookup j with
 |true,some d,some p=>some (d,p)
 |_,_,_=>none
def rdO (ops:Array Oper) (k:Nat) (st0:St) (rs:List (Nat×PV)) (i:Nat) (o:Oper):St:=match bpO ops k rs i with
 |l=>l++(st0.pick ((match o.guard with|some (j,_)=>(dstO ops j).toList|none=>[])++readsOf o |>.filter λt=>!l.any (Nat.beq ·.1 t))).filter λx=>(List.range k).all λj=>dstO ops j !=some x.1||(bo ops j).contains i
def bo_eq {ops:Array Oper} {i:Nat}:bo ops i=((ops[i]?).map bindsOn).getD []:=by
 unfold bo
 grind
def Zaed {ops:Array Oper} {k i:Nat} {st0:St} {rs:List (Nat×PV)} {res:List PV} (hr:∀ j p,j<k→rs.lookup j=some p→res[j]? = some p):∀ x∈rdO ops k st0 rs i o,x∈stAt ops k st0 res i:=by
 intro x hx
 rcases Wj.1 hx with hx|hx
 refine Wda _ ?_
 obtain⟨j,hj,h⟩:=Wcu.1 hx
 refine Wcu.2 ⟨j,by rw[←bo_eq];omega,?_⟩
 split at h
 rename_i d p h1 h2 h3;cases h;rw[show(ops[j]?).bind (·.dst)=some d from h2,hr j p (W2 h1) h3];cases h
 refine Wcc _ ?_
 obtain⟨h1,h2⟩:=Wab.1 hx
 refine Wab.2 ⟨Wcy _ _ x h1,?_⟩
 simpa only[bo_eq,dstO]using h2
def gz (U:Hnd P G) (ops:Array Oper) (k:Nat) (st0:St):List Nat→List (Nat×PV)→List Blk→Option (List (Ge U ops))
 |[],_,_=>some []
 |i::l,rs,H=>match ho:ops[i]? with
  |none=>none
  |some o=>match hw:wantA ops (rdO ops k st0 rs i o) o with
   |none=>none
   |some false=>(gz U ops k st0 l ((i,.sc undef)::rs) H).map (⟨i,o,_,H,false,⟨.sc undef,H,[],[]⟩,ho,hw,λh=>((by cases h)),λ_=>rfl⟩::·)
   |some true=>match hx:U.run o (rdO ops k st0 rs i o) H with
    |none=>none
    |some x=>(gz U ops k st0 l ((i,x.p)::rs) x.H).map (⟨i,o,_,H,true,x,ho,hw,λ_=>hx,λh=>((by cases h))⟩::·)
def gzF {U:Hnd P G} {ops:Array Oper} (l:List (Ge U ops)) (i:Nat):Option (Ge U ops):=l.find? λe=>Nat.beq e.i i
def resO {U:Hnd P G} {ops:Array Oper} (k:Nat) (l:List (Ge U ops)):List PV:=(List.range k).map λi=>match gzF l i with
 |some e=>e.x.p
 |none=>.sc undef
def Zabn {U:Hnd P G} {ops:Array Oper} {k:Nat} {l:List (Ge U ops)} {e:Ge U ops} (h:gzF l e.i=some e) (hj:e.i<k):(resO k l)[e.i]? = some e.x.p:=by
 simp[resO,hj,h]
def gz_is {U:Hnd P G} {ops:Array Oper} {k:Nat} {st0:St}:∀ {l:List Nat} {rs:List (Nat×PV)} {H:List Blk} {L:List (Ge U ops)},gz U ops k st0 l rs H=some L→L.map (·.i)=l
 |[],_,_,L,h=>by cases h;rfl
 |i::l,rs,H,L,h=>by
  unfold gz at h
  split at h
  cases h
  split at h
  cases h;obtain⟨M,h1,rfl⟩:=Wg.1 h;rw[W0,gz_is h1]
  split at h
  cases h;obtain⟨M,h1,rfl⟩:=Wg.1 h;rw[W0,gz_is h1]
def gz_sub {U:Hnd P G} {ops:Array Oper} {k:Nat} {st0:St} {res:List PV}:∀ {l:List Nat} {rs:List (Nat×PV)} {H:List Blk} {L:List (Ge U ops)},gz U ops k st0 l rs H=some L→(∀ j p,j<k→rs.lookup j=some p→res[j]? = some p)→(∀ e∈L,e.i<k→res[e.i]? = some e.x.p)→∀ e∈L,∀ x∈e.s,x∈stAt ops k st0 res e.i
 |[],_,_,L,h,_,_=>by cases h;grind
 |i::l,rs,H,L,h,hr,hL=>by
  have next:∀ p,(i<k→res[i]? = some p)→∀ j q,j<k→List.lookup j ((i,p)::rs)=some q→res[j]? = some q:=λp hp j q hj h=>by
   grind
  unfold gz at h
  split at h
  cases h
  split at h
  cases h;obtain⟨M,h1,rfl⟩:=Wg.1 h;intro e he
  rcases W1.1 he with rfl|he
  exact Zaed hr;exact gz_sub h1 sA gD e he
  split at h
  cases h;obtain⟨M,h1,rfl⟩:=Wg.1 h;intro e he
  rcases W1.1 he with rfl|he
  exact Zaed hr;exact gz_sub h1 (next _ (hL _ Wz)) gD e he
def gzF_eq {U:Hnd P G} {ops:Array Oper} {l:List (Ge U ops)} (h:(l.map (·.i)).Nodup) {e:Ge U ops} (he:e∈l):gzF l e.i=some e:=by
 induction l with
 |nil=>grind
 |cons d l ih=>
  rw[W0,Wfa]at h;unfold gzF;rw[Weg]
  rcases W1.1 he with rfl|he
  rw[Nat.beq_refl]
  have:Nat.beq d.i e.i=false:=by
   cases hb:Nat.beq d.i e.i;rfl;exact(h.1 (Wd hb▸Wcm he)).elim
  rw[this];exact ih h.2 he
def gzQ {U:Hnd P G} {ops:Array Oper} (ch:List Nat) (e:Ge U ops) (t0:Nat):Nat→List (List Blk)→Option Eqs
 |_,[]=>some []
 |t,H::Hs=>match gzQ ch e t0 (t+1) Hs with
  |none=>none
  |some es=>match posOk ops ch e.i t with
   |false=>some es
   |true=>match Nat.beq t t0 with
    |true=>some ((e.x.l++[.bs (e.H.map some),.bs (e.x.H.map some)],e.x.r++[.bs (H.map some),.bs (H.map some)])::es)
    |false=>(U.run e.o e.s H).map λx=>(x.l++[.p x.p,.bs (x.H.map some)],x.r++[.p e.x.p,.bs (H.map some)])::es
def bs_eq {l r:List T} {H K:List Blk} (h:l++[.bs (H.map some)]=r++[.bs (K.map some)]):l=r∧H=K:=by
 obtain⟨h1,h2⟩:=List.append_inj' h rfl
 simp at h2
 exact⟨h1,Zby h2⟩
def Wdr:=@List.getElem?_cons_zero
def gzQ_ok {U:Hnd P G} {ops:Array Oper} {ch:List Nat} {e:Ge U ops} {t0:Nat} (hw:e.w=true):∀ {Hs:List (List Blk)} {u:Nat} {es:Eqs},gzQ ch e t0 u Hs=some es→Eqs.ok es→∀ t H,Hs[t]? = some H→posOk ops ch e.i (u+t)=true→OpW P G n0 e.o e.s H e.x.p H
 |[],_,_,_,_,t,_,ht,_=>by simp at ht
 |H0::Hs,u,es,h,he,t,H,ht,hp=>by
  unfold gzQ at h
  split at h
  cases h;rename_i es0 h0
  have tail:Eqs.ok es0→∀ t,t≠0→(H0::Hs)[t]? = some H→posOk ops ch e.i (u+t)=true→OpW P G n0 e.o e.s H e.x.p H:=λhe t h1 ht hp=>by
   cases t with
   |zero=>exact(h1 rfl).elim
   |succ t=>exact gzQ_ok hw h0 he t H (by simpa using ht) (by rw[←hp];congr 1;omega)
  cases t;simp only[Wdr,Wn]at ht;subst ht;rw[Wdg]at hp;rw[hp]at h
  dsimp only at h
  split at h
  cases h;obtain⟨e1,_⟩:=Wco he
  have e1:(e.x.l++[.bs (e.H.map some)])++[.bs (e.x.H.map some)]=(e.x.r++[.bs (H0.map some)])++[.bs (H0.map some)]:=by simpa using e1
  obtain⟨e1,e2⟩:=bs_eq e1;obtain⟨e1,e3⟩:=bs_eq e1;have:=U.sound (n0:=n0) (e.hx hw) e1
  rwa [e2,e3]at this
  obtain⟨x,hx,rfl⟩:=Wg.1 h;obtain⟨e1,_⟩:=Wco he
  have e1:(x.l++[.p x.p])++[.bs (x.H.map some)]=(x.r++[.p e.x.p])++[.bs (H0.map some)]:=by simpa using e1
  obtain⟨e1,e2⟩:=bs_eq e1;obtain⟨e1,e3⟩:=List.append_inj' e1 rfl;simp only[Wai,T.p.injEq,and_true]at e3;have:=U.sound (n0:=n0) hx e1
  rwa [e2,e3]at this
  rename_i t
  split at h
  cases h;exact tail he _ om ht hp
  split at h
  cases h;exact tail (Wco he).2 _ om ht hp;obtain⟨x,hx,rfl⟩:=Wg.1 h;exact tail (Wco he).2 _ om ht hp
def frz {U:Hnd P G} {ops:Array Oper} (l:List (Ge U ops)) (ch:List Nat) (Hs:List (List Blk)) (i:Nat):Option Eqs:=match gzF l i with
 |none=>none
 |some e=>match e.w,ch.contains i with
  |false,false=>some []
  |true,true=>(match ch[ch.idxOf i]?,Hs[ch.idxOf i]?,Hs[ch.idxOf i+1]? with
   |some i',some H,some H'=>if Nat.beq i' i then some [(e.x.l,e.x.r),([.bs (e.H.map some),.bs (e.x.H.map some)],[.bs (H.map some),.bs (H'.map some)])]else none
   |_,_,_=>none)
  |true,false=>gzQ ch e (((l.takeWhile λd=>!Nat.beq d.i i).filter λd=>ch.contains d.i).length) 0 Hs
  |_,_=>none
def frz_ok {U:Hnd P G} {ops:Array Oper} {l:List (Ge U ops)} {ch:List Nat} {Hs:List (List Blk)} {st0:St} {k i:Nat} {es:Eqs} (hs:∀ e∈l,∀ x∈e.s,x∈stAt ops k st0 (resO k l) e.i) (hk:i<k) (h:frz l ch Hs i=some es) (he:es.ok):FreeOk P G n0 nt ops st0 (resO k l) ch Hs k i:=by
 unfold frz at h
 split at h
 cases h;rename_i e hf;have hi:=Wd (List.find?_some (p:=λe:Ge U ops=>Nat.beq e.i i) hf);subst hi;have hs:=hs e (List.mem_of_find?_eq_some hf);have hp:=Zabn hf hk
 split at h
 rename_i hw hc;exact .skip e.o e.s hs e.ho gD (by rw[e.hw,hw]) (by rw[hp,e.hu hw]);rename_i hw hc
 split at h
 rename_i i' H1 H2 g1 g2 g3
 split at h
 rename_i hb;have hb:=Wd hb;subst hb;cases h;obtain⟨k1,k2⟩:=Wco he;obtain⟨k2,_⟩:=Wco k2
 simp at k2
 have:=U.sound (n0:=n0) (e.hx hw) k1;rw[Zby k2.1,Zby k2.2]at this;exact .chain e.o e.x.p _ H1 H2 e.s hs e.ho g1 (by rw[e.hw,hw]) hp g2 g3 this;cases h;cases h;rename_i hw hc
 exact .quiet e.o e.x.p e.s hs e.ho gD (by rw[e.hw,hw]) hp λt H ht hpos=>gzQ_ok hw h he t H ht gD
 cases h
def chG {U:Hnd P G} {ops:Array Oper} (l:List (Ge U ops)):List (List Nat)→List Nat
 |[]=>[]
 |m::ms=>match filO ops (λj=>l.any λe=>Nat.beq e.i j&&e.w) ((l.filter λe=>e.w&&m.contains (kdO e.o)).map (·.i))with
  |some c=>c
  |none=>chG l ms
def HsG {U:Hnd P G} {ops:Array Oper} (l:List (Ge U ops)):List Nat→List Blk→List (List Blk)
 |[],H=>[H]
 |i::c,H=>match gzF l i with
  |some e=>H::HsG l c e.x.H
  |none=>[H]
def farB:List Nat→List Blk→List Blk
 |[],H=>H
 |i::l,H=>match H[i]? with
  |some (.cells cs)=>farB l (H.set i (.far cs))
  |_=>farB l H
def Z8g {st:St}:∀ l {H:List Blk},Le G n0 nt st H st (farB l H)
 |[],_=>Le.refl
 |i::l,H=>by
  unfold farB;split;rename_i hb;exact Le.trans (Le.toFar hb) (Z8g l);exact Z8g l
def drG (U:Hnd P G) (n0 nt:Nat) (k:Nat) (ord:List Nat) (sws:List (Nat×Nat)) (fs:List Nat) (ops:Array Oper) (st:St) (H:List Blk):Option (St×List Blk×Eqs):=match gz U ops k st (orderOf k ord) [] H with
 |none=>none
 |some l=>match chG l [[1,2,3],[1,2],[1,3],[1]]with
  |ch=>match HsG l ch H with
   |Hs=>match drawOk nt ops ch k (rkOf k ord)&&decide (orderOf k ord).Nodup,allEqs (frz l ch Hs) k,Hs[ch.length]? with
    |true,some es,some Hf=>match rseg nt ops (uni U ops.size) (List.range' k (ops.size-k)) (stL ops st (resO k l) (List.range k)) Hf with
     |some r=>match swaps n0 sws r.1 r.2.1 with
      |some q=>some (q.1,farB fs q.2,es++r.2.2)
      |none=>none
     |none=>none
    |_,_,_=>none
def Z9s {f:Nat→Option Eqs} {Q:Nat→Prop} {n:Nat} (hf:∀ {i es},i<n→f i=some es→Eqs.ok es→Q i):∀ {k:Nat} {es:Eqs},k≤n→allEqs f k=some es→es.ok→∀ i,i<k→Q i
 |0,_,_,_,_,_,h=>om
 |k+1,es,hn,h,he,i,hi=>by
  simp  [allEqs]at h
  split at h
  rename_i es' fs h1 h2;cases h;obtain⟨e1,e2⟩:=Wee he
  rcases Nat.lt_succ_iff_lt_or_eq.1 hi with hi|rfl
  exact Z9s hf om h1 e1 i hi;exact hf om h2 e2;cases h
def drG_ok {U:Hnd P G} {k:Nat} {ord:List Nat} {sws:List (Nat×Nat)} {fs:List Nat} {ops:Array Oper} {r:St×List Blk×Eqs} {Q:Exit→St→List Blk→Prop} (h:drG U n0 nt k ord sws fs ops st H=some r) (he:Eqs.ok r.2.2) (hq:Q .normal r.1 r.2.1):ADraw P G n0 nt ops Q st H:=by
 unfold drG at h
 split at h
 cases h;rename_i l hl
 dsimp  at h
 split at h
 rename_i es Hf g1 g2 g3
 split at h
 rename_i r1 hr
 split at h
 rename_i q hsw;cases h;obtain⟨e1,e2⟩:=Wee he;have tail:=Wfg (n0:=n0) (Q:=Q) (l2:=[]) hr e2 (Whp hsw (AOps.le (Z8g fs) (Wgs hq)));rw[Wam]at tail
 have h0:∀ c H,(HsG l c H)[0]? = some H:=λc H=>by
  cases c;rfl;unfold HsG;grind
 simp at g1
 have hnd:(l.map (·.i)).Nodup:=by rw[gz_is hl];grind
 exact ADraw.draw (λ_ h=>h) g1.1 (Z9s (λhk h he=>frz_ok (gz_sub (res:=resO k l) hl (λ_ _ _ h=>(by cases h)) λe he hk=>Zabn (gzF_eq hnd he) hk) hk h he) (Ws k) g2 e1) (h0 _ _) g3 tail;cases h;cases h;cases h
def plO (ops:Array Oper) (k:Nat):List Nat:=if(List.range k).all λi=>(bo ops i).all (Nat.blt · i)then[]else topO ops k k []
def xdr (U:Hnd P G) (n0 nt:Nat):Hi→Array Oper→St→List Blk→Option (St×List Blk×Eqs)
 |.a sws fs,ops,st,H=>drG U n0 nt (kO ops) (plO ops (kO ops)) sws fs ops st H
 |.e x y a b,ops,st,H=>match Nat.beq x y,xdr U n0 nt a (addEdge ops x y) st H,xdr U n0 nt b (addEdge ops y x) st H with
  |false,some r,some q=>match neqs (r.1.map (·.1)) (q.1.map (·.1))&&(peqs (r.1.map (·.2)) (q.1.map (·.2))&&heqs r.2.1 q.2.1)with
   |true=>some (q.1,q.2.1,r.2.2++q.2.2)
   |false=>none
  |_,_,_=>none
def xdr_ok {U:Hnd P G}:∀ h {ops:Array Oper} {r:St×List Blk×Eqs} {Q:Exit→St→List Blk→Prop},xdr U n0 nt h ops st H=some r→Eqs.ok r.2.2→Q .normal r.1 r.2.1→ADraw P G n0 nt ops Q st H
 |.a _ _,ops,r,Q,h,he,hq=>drG_ok h he hq
 |.e x y a b,ops,r,Q,h,he,hq=>by
  simp  [xdr]at h
  split at h
  rename_i r1 r2 hxy h1 h2
  split at h
  rename_i hc;cases h
  simp at hc
  obtain⟨e3,e4⟩:=Wee he;exact ADraw.either x y hxy (xdr_ok a h1 e3 (by rw[St_ext (Z8b _ _ hc.1) (peqs_eq _ _ hc.2.1),Zad9 _ _ hc.2.2];omega)) (xdr_ok b h2 e4 hq);cases h;cases h
abbrev Hx:=Nat→Nat→Option Hi
def lpE (X:XE P G) (n0 nt:Nat) (y:Code):Nat→St→List Blk→Eqs→Option XR
 |0,_,_,_=>none
 |m+1,st,H,es=>match X.run n0 nt y st H es with
  |some r=>match r.1 with
   |.normal=>lpE X n0 nt y m r.2.1 r.2.2.1 r.2.2.2
   |_=>some r
  |none=>none
def lpE_ok {X:XE P G} {y:Code} {r:XR}:∀ m {st:St} {H:List Blk} {es:Eqs},lpE X n0 nt y m st H es=some r→Eqs.ok r.2.2.2→Eqs.ok es∧AWP P G n0 nt (.loop y) (λe s h=>e=r.1∧s=r.2.1∧h=r.2.2.1) st H:=by
 have ev:∀ m {st:St} {H:List Blk} {es:Eqs},lpE X n0 nt y m st H es=some r→Eqs.ok r.2.2.2→Eqs.ok es:=by
  intro m
  induction m with
  |zero=>intro st H es h;simp[lpE]at h
  |succ m ih=>
   intro st H es h he
   unfold lpE at h
   split at h
   rename_i r1 h1
   split at h
   exact(X.ok h1 (ih h he)).1;cases h;exact(X.ok h1 he).1;cases h
 intro m st H es h he
 refine⟨ev m h he,AWP.loop (λn s k=>∃ es,lpE X n0 nt y n s k es=some r) m ⟨es,h⟩ ?_⟩
 rintro n s k ⟨es',hx⟩;cases n;simp[lpE]at hx;rename_i n
 unfold lpE at hx
 split at hx
 rename_i r1 h1
 split at hx
 exact Wc6 (X.ok h1 (ev n hx he)).2 λe s k ⟨g1,g2,g3⟩=>by
  grind
 cases hx
 exact Wc6 (X.ok h1 he).2 λe s k g=>by
  grind
 grind
def xS (U:Hnd P G) (hx:Hx) (X:XE P G) (n0 nt:Nat) (x:Code) (st:St) (H:List Blk) (es:Eqs):Option XR:=match x with
 |.skip=>some (.normal,st,H,es)
 |.region id ops d=>match d with
  |false=>match rseg nt ops (uni U ops.size) (List.range ops.size) st H with
   |some r=>some (.normal,r.1,r.2.1,r.2.2++es)
   |none=>none
  |true=>match P.follows .mixedOrders,xdr U n0 nt (match hx nt id with|some h=>h|none=>.a [] []) ops st H with
   |true,some r=>some (.normal,r.1,r.2.1,r.2.2++es)
   |_,_=>none
 |.seq a b=>match X.run n0 nt a st H es with
  |some r=>match r.1 with
   |.normal=>X.run n0 nt b r.2.1 r.2.2.1 r.2.2.2
   |_=>some r
  |none=>none
 |.cond c a b=>match opd G st c with
  |some (.sc (.bool v))=>X.run n0 nt (match v with|true=>a|false=>b) st H es
  |_=>none
 |.block id y=>match X.run n0 nt y st H es with
  |some r=>match r.1 with
   |.exit j=>match Nat.beq j id with
    |true=>some (.normal,r.2)
    |false=>some r
   |_=>some r
  |none=>none
 |.loop y=>lpE X n0 nt y 100000 st H es
 |.exit id=>some (.exit id,st,H,es)
 |.ret=>some (.ret,st,H,es)
 |_=>none
def xS_ok {U:Hnd P G} {hx:Hx} {X:XE P G} {x:Code} {es:Eqs} {r:XR} (h:xS U hx X n0 nt x st H es=some r) (he:Eqs.ok r.2.2.2):Eqs.ok es∧AWP P G n0 nt x (λe s h=>e=r.1∧s=r.2.1∧h=r.2.2.1) st H:=by
 unfold xS at h
 split at h
 cases h;exact⟨he,AWP.skip ⟨rfl,rfl,rfl⟩⟩
 split at h
 split at h
 rename_i q hq;cases h;obtain⟨e1,e2⟩:=Wee he
 refine⟨e2,Whk rfl ?_⟩
 have:=Wfg (n0:=n0) (Q:=λe s h=>e=Exit.normal∧s=q.1∧h=q.2.1) (l2:=[]) hq e1 (Wgs ⟨rfl,rfl,rfl⟩)
 rwa [Wam]at this
 cases h
 split at h
 rename_i q hm hq;cases h;obtain⟨e1,e2⟩:=Wee he;exact⟨e2,Wfx hm (xdr_ok _ hq e1 ⟨rfl,rfl,rfl⟩)⟩;cases h
 split at h
 rename_i r1 h1
 split at h
 rename_i e1;obtain⟨k1,k2⟩:=X.ok h he;obtain⟨k3,k4⟩:=X.ok h1 k1
 refine⟨k3,AWP.seq (Wc6 k4 λe s k ⟨g1,g2,g3⟩=>?_)⟩
 rw[g1,e1,g2,g3];exact k2;cases h;obtain⟨k3,k4⟩:=X.ok h1 he
 refine⟨k3,AWP.seq (Wc6 k4 λe s k g=>?_)⟩
 cases e with
 |normal=>grind
 |_=>exact g
 cases h
 split at h
 rename_i v hc;obtain⟨k1,k2⟩:=X.ok h he;exact⟨k1,AWP.cond hc gD λe=>gD⟩;cases h
 split at h
 rename_i r1 h1
 split at h
 rename_i j e1
 split at h
 rename_i hb;cases h;obtain⟨k3,k4⟩:=X.ok h1 he
 refine⟨k3,Wf5 (Wc6 k4 λe s k ⟨g1,g2,g3⟩=>?_)⟩
 rw[g1,e1];simp only[blockQ,hb];exact⟨trivial,g2,g3⟩;rename_i hb;cases h;obtain⟨k3,k4⟩:=X.ok h1 he
 refine⟨k3,Wf5 (Wc6 k4 λe s k g=>?_)⟩
 have g1:=g.1;rw[e1]at g1;subst g1;simp  [blockQ,hb];exact g;cases h;obtain⟨k3,k4⟩:=X.ok h1 he
 refine⟨k3,Wf5 (Wc6 k4 λe s k g=>?_)⟩
 cases e with
 |exit j=>grind
 |_=>exact g
 cases h;exact lpE_ok _ h he;cases h;exact⟨he,AWP.exit ⟨rfl,rfl,rfl⟩⟩;cases h;exact⟨he,AWP.ret ⟨rfl,rfl,rfl⟩⟩;cases h
end
section
variable {P:Program} {G:Glob} {f:FuncId} {fn:Func} {args:List PV} {H K:List Blk} {p:PV}
structure XF (P:Program) (G:Glob) (f:FuncId) (fn:Func) (args:List PV) (H:List Blk) (p:PV) (K:List Blk):Prop where
 hf:P.funcs[f]? = some fn
 len:args.length≤fn.ntmps
 run:AWP P G H.length fn.ntmps (bodyC fn) (InQ P fn.results H.length p K) (numb 0 args) H
def xcl (X:XE P G) (fn:Func) (args:List PV) (H:List Blk):Option (PV×List Blk×Eqs):=match X.run H.length fn.ntmps (bodyC fn) (numb 0 args) H []with
 |some r=>match isEnd r.1,xfin P fn.results H.length r.2.1 r.2.2.1 with
  |true,some q=>some (q.1,q.2,r.2.2.2)
  |_,_=>none
 |none=>none
def xcT (r:Option (PV×List Blk×Eqs)):List T:=match r with
 |some r=>[.p r.1,.bs (r.2.1.map some)]
 |none=>[]
def xcE (f:List T×List T→List T) (r:Option (PV×List Blk×Eqs)):List T:=match r with
 |some r=>eqL f r.2.2
 |none=>[]
def XF.of (X:XE P G) (hfn:P.funcs[f]? = some fn) (h:xcT (xcl X fn args H)=[.p p,.bs (K.map some)]:=by kernel_rfl) (he:xcE (·.1) (xcl X fn args H)=xcE (·.2) (xcl X fn args H):=by kernel_rfl) (hn:Nat.ble args.length fn.ntmps=true:=by kernel_rfl):XF P G f fn args H p K:=by
 refine⟨hfn,W2 hn,?_⟩
 unfold xcl at h he
 split at h
 rename_i r hr;rw[hr]at he
 dsimp  at he
 split at h
 rename_i q h1 h2;rw[h1,h2]at he
 simp  [xcT,Wai,T.p.injEq,T.bs.injEq,and_true]at h
 obtain⟨rfl,h⟩:=h;have h:=Zby h;subst h
 exact Wc6 (X.ok hr (eqL_ok he)).2 λe s k ⟨g1,g2,g3⟩=>by subst g1 g2 g3;exact Zaec (by revert h1;cases r.1<;>simp[isEnd]) h2
 simp[xcT]at h;simp[xcT]at h
def XF.pure {v:Value} (h:XF P G f fn args [] (.sc v) []) (hb:fn.body.isSome=true:=by kernel_rfl):ACall P G f args [] λq K=>q=.sc v∧K=[]:=by
 obtain⟨c,hc⟩:=Was.1 hb;have h1:=h.run
 unfold bodyC at h1
 rw[hc]at h1
 refine ACall.of_AWP h.hf hc h.len (Wc6 h1 λe s k ⟨g1,g2,m,g3,g4,_,g5⟩=>?_)
 exact⟨g1,true,.sc v,.sc v,0,λ_=>sM,g2,.inl (.refl _),Ws _,Wec _,by simp  [PV.ids],by simp[okOut],rfl,sM⟩
end
section
variable {P:Program} {G:Glob} {n0 nt:Nat}
abbrev Hz (G:Glob):=∀ n0 nt,Nat→St→List Blk→List (Zt G n0 nt)
def zstp:List (Zt G n0 nt)→St→List Blk→Eqs→Option (St×List Blk×Eqs)
 |[],st,H,es=>some (st,H,es)
 |z::l,st,H,es=>match z.run st H with
  |some x=>zstp l x.1 x.2.1 ((x.2.2.1,x.2.2.2)::es)
  |none=>none
def Zaee {x:Code} {Q:Exit→St→List Blk→Prop}:∀ {l:List (Zt G n0 nt)} {st:St} {H:List Blk} {es:Eqs} {r:St×List Blk×Eqs},zstp l st H es=some r→Eqs.ok r.2.2→Eqs.ok es∧(AWP P G n0 nt x Q r.1 r.2.1→AWP P G n0 nt x Q st H)
 |[],st,H,es,r,h,he=>by cases h;exact⟨he,id⟩
 |z::l,st,H,es,r,h,he=>by
  unfold zstp at h
  split at h
  rename_i y hy;obtain⟨h1,h2⟩:=Zaee (x:=x) (Q:=Q) h he;exact⟨λe h=>h1 e (Wcf _ h),λk=>AWP.le (z.sound hy (h1 _ Wz)) (h2 k)⟩;cases h
def clx (P:Program) (G:Glob) (o:Oper) (st:St) (H:List Blk):Option (PV×List Blk):=match o.op with
 |.call cl=>match cl with
  |{callee:=.builtin .clear,args:=⟨[x]⟩,argTypes:=⟨[T0]⟩}=>clearx P G st H x T0
  |_=>none
 |_=>none
def Hnd.cx:Hnd P G:=.fn (AM.clx P G) (by
 intro n0 o st H r h
 unfold AM.clx at h
 split at h
 split at h
 exact OpW.clearx ‹_› rfl h;cases h
 cases h)
def lw (P:Program) (t:TypeId):PV→PV
 |.agg cs=>.agg (lows P t cs)
 |.sc (.agg ⟨vs⟩)=>match(vs.map PV.sc).any PV.isNil with
  |true=>.agg (lows P t (vs.map .sc))
  |false=>.sc (.agg ⟨vs⟩)
 |p=>low P t p
def lw_vr {S:Nat→Nat→Prop} {β:List Bnd} {w:World} {t:TypeId} {p:PV} {u:Value} (h:VR S β w p u):VR S β w (lw P t p) u:=by
 have h1:∀ cs us,VRs S β w cs us→VRs S β w (lows P t cs) us:=λcs us hu=>by
  unfold lows;split;exact Z9r _ _ _ hu;exact hu
 unfold lw;split;obtain⟨us,e,hu⟩:=h;exact⟨us,e,h1 _ _ hu⟩;split;simp only[VR]at h;exact⟨_,h,h1 _ _ (VRs.scs _)⟩;exact h;exact low_vr h
def lwZ (P:Program):List TypeId→List PV→List PV
 |t::ts,p::ps=>lw P t p::lwZ P ts ps
 |_,ps=>ps
def lwZ_vr {S:Nat→Nat→Prop} {β:List Bnd} {w:World}:∀ ts ps us,VRs S β w ps us→VRs S β w (lwZ P ts ps) us
 |[],_,_,h=>h
 |_::_,[],_,h=>h
 |_::_,_::_,[],h=>by simp[VRs]at h
 |t::ts,p::ps,u::us,h=>⟨lw_vr h.1,lwZ_vr ts ps us h.2⟩
def Hnd.cl {f:FuncId} {fn:Func} {args:List PV} {p1:PV} (hfn:P.funcs[f]? = some fn) (hc:ACall P G f args [] λq K=>q=p1∧K=[]):Hnd P G where
 run o st H:=match o.op with
  |.call cl=>match cl.callee with
   |.value x=>match opd G st x,opdL G st cl.args.toList with
    |some px,some ps=>if fn.body.isNone=false∧(fn.name== "runtime.NumGoroutine")=false then some ⟨p1.ren (renId [] H.length),H,[.p px,.ps (lwZ P fn.params.toList ps)],[.p (.sc (.func (.func f) #[] #[])),.ps (PV.rens (renId [] H.length) args)]⟩else none
    |_,_=>none
   |_=>none
  |_=>none
 sound:=by
  intro n0 o st H x h he
  split at h
  rename_i ho
  split at h
  rename_i hc1
  split at h
  rename_i hx hps
  split at h
  rename_i hb;cases h
  simp at he
  obtain⟨rfl,e⟩:=he;exact(OpT.callG (caps:=[]) (σ:=[]) (H1:=[]) ho hc1 (.inl ⟨hx,rfl⟩) hfn hb.1 hb.2 (Zkw _ _ hps) (λc β a w _ us hu=>by rw[Wam]at hu;exact lwZ_vr _ _ us hu) e .nil rfl rfl hc rfl (by simp[setAll])).weak;cases h;cases h;cases h;cases h
def opS {A B:Type}:(F:Option A)→(∀ r,F=some r→B)→Option B
 |some r,k=>some (k r rfl)
 |none,_=>none
def hkC {A:Type} {f:FuncId} {fn:Func} {args:List PV} {F:Option A} {p1:A→PV} (hK:KF P G f fn args [] F p1 λ_=>[]):Option (Hnd P G):=opS F λr h=>.shr (.cl hK.fn (hK.run r h))
def xZ (hz:Hz G) (X:XE P G):XE P G where
 run n0 nt x st H es:=match x with
  |.region id _ _=>match zstp (hz n0 nt id st H) st H es with
   |some r=>X.run n0 nt x r.1 r.2.1 r.2.2
   |none=>none
  |_=>X.run n0 nt x st H es
 ok:=by
  intro n0 nt x st H es r h he
  split at h
  split at h
  rename_i q hq;obtain⟨h1,h2⟩:=X.ok h he;obtain⟨h3,h4⟩:=Zaee hq h1;exact⟨h3,h4 h2⟩;cases h;exact X.ok h he
def xEz (P:Program) (G:Glob) (hk:Hk P G) (ho:Oper→St→List Blk→Option (Hnd P G)) (hz:Hz G) (hx:Hx):Nat→XE P G
 |0=>⟨λ_ _ _ _ _ _=>none,λh=>(by cases h)⟩
 |n+1=>xZ hz ⟨xS (.dep λo st H=>match ho o st H with
  |some k=>some k
  |none=>ud (.ic (xEz P G hk ho hz hx n)) hk o st H) hx (xEz P G hk ho hz hx n),xS_ok⟩
end
section
variable {P:Program} {G:Glob} {n0 nt:Nat}
def Hnd.c1 {f:FuncId} {fn:Func} {rest0 cs0 cs1:List PV} {p1:PV} (hfn:P.funcs[f]? = some fn) (hc:ACall P G f (.ptr 0 0::rest0) [.cells cs0] λq K=>q=p1∧K=[.cells cs1]):Hnd P G where
 run o st H:=match o.op with
  |.call cl=>match cl.callee with
   |.value x=>match opd G st x,opdL G st cl.args.toList with
    |some px,some (.ptr i 0::rest)=>match H[i]? with
     |some (.cells cs)=>if fn.body.isNone=false∧(fn.name== "runtime.NumGoroutine")=false∧PV.idss (λ_=>false) rest0=true∧PV.idss (λ_=>false) cs0=true∧PV.idss (λ_=>false) cs1=true∧p1.ids (λ_=>false)=true then
       some ⟨p1,H.set i (.cells cs1),[.p px,.ps rest,.ps cs],[.p (.sc (.func (.func f) #[] #[])),.ps rest0,.ps cs0]⟩else none
     |_=>none
    |_,_=>none
   |_=>none
  |_=>none
 sound:=by
  intro n0 o st H x h he
  split at h
  rename_i ho
  split at h
  rename_i hcl
  split at h
  rename_i i rest hx hps
  split at h
  rename_i cs hb
  split at h
  rename_i c;obtain⟨c1,c2,c3,c4,c5,c6⟩:=c;cases h
  simp at he
  obtain⟨rfl,rfl,rfl⟩:=he
  have hs:∀ {ps:List PV},PV.idss (λ_=>false) ps=true→PV.rens (renId [i] H.length) ps=ps:=λh=>Wel (q:=λ_=>false) (λ_ h=>by cases h) _ h
  refine(Whz (σ:=[i]) (caps:=[]) ho hcl (.inl ⟨hx,rfl⟩) hfn c1 c2 (Zkw _ _ hps) (by rw[Wam];exact Wem _ _ _) ?_ sM (by rfl) ?_ hc (Wg0 (q:=λ_=>false) (λ_ h=>by cases h) _ c6).symm ?_).weak
  rw[PV.rens,hs c3];rfl;simp only[W0,Wbu,Blk.ren,hs c4,hb];simp only[W0,Wbu,Blk.ren,hs c5,setAll,Wam];cases h;cases h;cases h;cases h;cases h
def Hnd.k1 {A:Type} {f:FuncId} {fn:Func} {rest0 cs0:List PV} {F:Option A} {p1:A→PV} {k:A→List PV} (h:KF P G f fn (.ptr 0 0::rest0) [.cells cs0] F p1 λr=>[.cells (k r)]) {r:A} (hr:F=some r):Hnd P G:=.c1 h.fn (h.run r hr)
end
structure Arr5 (α:Type) where
 x0:α
 x1:α
 x2:α
 x3:α
 x4:α
def Arr5.get {α:Type} (a:Arr5 α) (i:Int):α:=if i=0 then a.x0 else if i=1 then a.x1 else if i=2 then a.x2 else if i=3 then a.x3 else a.x4
def Arr5.set {α:Type} (a:Arr5 α) (i:Int) (v:α):Arr5 α:=if i=0 then {a with x0:=v}else if i=1 then {a with x1:=v}else if i=2 then {a with x2:=v}else if i=3 then {a with x3:=v}else {a with x4:=v}
def Z6u (x:(Arr5 Int)):List PV:=[.sc (.int .u32 x.x0),.sc (.int .u32 x.x1),.sc (.int .u32 x.x2),.sc (.int .u32 x.x3),.sc (.int .u32 x.x4)]
def Zar (x:(List Int)):List PV:=[.sl 1 (List.map Ze x)]
def Zabo (x:(List Int)):Prop:=x.length≤9223372036854775807∧∀ y∈x,Zy2 y
structure Zc where
 f_l:(List Int)
 f_i:Int
def Zf (x:Zc):List PV:=[.sl 1 (List.map Ze x.f_l),.sc (.int .i64 x.f_i)]
structure Z5 where
 Name:ByteArray
 Capacity:Int
 Ranges:Bool
 Volatile:Bool
 Class:ByteArray
def Zj (x:Z5):List PV:=[.sc (.string x.Name),.sc (.int .i64 x.Capacity),.sc (.bool x.Ranges),.sc (.bool x.Volatile),.sc (.string x.Class)]
def Zaag (x:Z5):List Value:=[.string x.Name,.int .i64 x.Capacity,.bool x.Ranges,.bool x.Volatile,.string x.Class]
def Z05 (x:Z5):PV:=.sc (.agg ⟨Zaag x⟩)
structure Zag where
 A:Int
 B:Int
 Cost:Int
def Zx (x:Zag):List PV:=[.sc (.int .i64 x.A),.sc (.int .i64 x.B),.sc (.int .i64 x.Cost)]
def Zac7 (x:Zag):List Value:=[.int .i64 x.A,.int .i64 x.B,.int .i64 x.Cost]
def Zac8 (x:Zag):PV:=.sc (.agg ⟨Zac7 x⟩)
def Zafb:Zag:=Zag.mk (0:Int) (0:Int) (0:Int)
instance:Inhabited Zag:=⟨Zafb⟩
structure Zn where
 Addr:Int
 Bits:Int
def Zy (x:Zn):List PV:=[.sc (.int .u32 x.Addr),.sc (.int .i64 x.Bits)]
def Zaah (x:Zn):List Value:=[.int .u32 x.Addr,.int .i64 x.Bits]
def Za6 (x:Zn):PV:=.sc (.agg ⟨Zaah x⟩)
def Z06 (x y:Zn):Bool:=((x.Addr==y.Addr)&&((x.Bits==y.Bits)&&true))
def Zck:Zn:=Zn.mk (0:Int) (0:Int)
structure Z2 where
 Name:ByteArray
 Device:Int
 Zone:ByteArray
 Prefix:Zn
 Planned:Bool
def Zk (x:Z2):List PV:=[.sc (.string x.Name),.sc (.int .i64 x.Device),.sc (.string x.Zone),.sc (.int .u32 x.Prefix.Addr),.sc (.int .i64 x.Prefix.Bits),.sc (.bool x.Planned)]
def Zac9 (x:Z2):List Value:=[.string x.Name,.int .i64 x.Device,.string x.Zone,.int .u32 x.Prefix.Addr,.int .i64 x.Prefix.Bits,.bool x.Planned]
def Znu (x:Z2):PV:=.sc (.agg ⟨Zac9 x⟩)
def Zafc:Z2:=Z2.mk ByteArray.empty (0:Int) ByteArray.empty Zck false
instance:Inhabited Z2:=⟨Zafc⟩
structure Zb where
 Devices:(List Z5)
 Links:(List Zag)
 Edges:(List Z2)
 Pools:(List Zn)
 Tolerate:Int
def Z3 (x:Zb):List PV:=[.sl 5 (List.map Zj x.Devices),.sl 3 (List.map Zx x.Links),.sl 6 (List.map Zk x.Edges),.sl 2 (List.map Zy x.Pools),.sc (.int .i64 x.Tolerate)]
def Zu (x:Zb):PV:=.agg (Z3 x)
def Zui:Zb:=Zb.mk ([]:(List Z5)) ([]:(List Zag)) ([]:(List Z2)) ([]:(List Zn)) (0:Int)
structure Zp where
 Links:(List Int)
 Devices:(List Int)
def Zbb (x:Zp):List PV:=[.sl 1 (List.map Ze x.Links),.sl 1 (List.map Ze x.Devices)]
def Zax (x:Zp):PV:=.agg (Zbb x)
def Z07:Zp:=Zp.mk ([]:(List Int)) ([]:(List Int))
structure Za where
 Lo:Int
 Hi:Int
abbrev ZB:=Arr5 Za
abbrev ZL:=List (Arr5 Za)
def Zm (x:Za):List PV:=[.sc (.int .u32 x.Lo),.sc (.int .u32 x.Hi)]
def Zabp (x:Za):List Value:=[.int .u32 x.Lo,.int .u32 x.Hi]
def Zk5 (x:Za):PV:=.sc (.agg ⟨Zabp x⟩)
def Zbe (x y:Za):Bool:=((x.Lo==y.Lo)&&((x.Hi==y.Hi)&&true))
def Zao:Za:=Za.mk (0:Int) (0:Int)
instance:Inhabited Za:=⟨Zao⟩
def Zd (x:(Arr5 Za)):List PV:=[.sc (.int .u32 x.x0.Lo),.sc (.int .u32 x.x0.Hi),.sc (.int .u32 x.x1.Lo),.sc (.int .u32 x.x1.Hi),.sc (.int .u32 x.x2.Lo),.sc (.int .u32 x.x2.Hi),.sc (.int .u32 x.x3.Lo),.sc (.int .u32 x.x3.Hi),.sc (.int .u32 x.x4.Lo),.sc (.int .u32 x.x4.Hi)]
def Z6v (x:(Arr5 Za)):List Value:=[.int .u32 x.x0.Lo,.int .u32 x.x0.Hi,.int .u32 x.x1.Lo,.int .u32 x.x1.Hi,.int .u32 x.x2.Lo,.int .u32 x.x2.Hi,.int .u32 x.x3.Lo,.int .u32 x.x3.Hi,.int .u32 x.x4.Lo,.int .u32 x.x4.Hi]
def Zbo (x:(Arr5 Za)):PV:=.sc (.agg ⟨Z6v x⟩)
def Ztp (x y:(Arr5 Za)):Bool:=((Zbe x.x0 y.x0)&&((Zbe x.x1 y.x1)&&((Zbe x.x2 y.x2)&&((Zbe x.x3 y.x3)&&((Zbe x.x4 y.x4)&&true)))))
def Zfu:(Arr5 Za):=Arr5.mk Zao Zao Zao Zao Zao
instance:Inhabited (Arr5 Za):=⟨Zfu⟩
structure Zal where
 Match:(Arr5 Za)
 Permit:Bool
def Zan (x:Zal):List PV:=[.sc (.int .u32 x.Match.x0.Lo),.sc (.int .u32 x.Match.x0.Hi),.sc (.int .u32 x.Match.x1.Lo),.sc (.int .u32 x.Match.x1.Hi),.sc (.int .u32 x.Match.x2.Lo),.sc (.int .u32 x.Match.x2.Hi),.sc (.int .u32 x.Match.x3.Lo),.sc (.int .u32 x.Match.x3.Hi),.sc (.int .u32 x.Match.x4.Lo),.sc (.int .u32 x.Match.x4.Hi),.sc (.bool x.Permit)]
structure Z9 where
 From:(Arr5 Za)
 To:(Arr5 Za)
def Zas (x:Z9):List PV:=[.sc (.int .u32 x.From.x0.Lo),.sc (.int .u32 x.From.x0.Hi),.sc (.int .u32 x.From.x1.Lo),.sc (.int .u32 x.From.x1.Hi),.sc (.int .u32 x.From.x2.Lo),.sc (.int .u32 x.From.x2.Hi),.sc (.int .u32 x.From.x3.Lo),.sc (.int .u32 x.From.x3.Hi),.sc (.int .u32 x.From.x4.Lo),.sc (.int .u32 x.From.x4.Hi),.sc (.int .u32 x.To.x0.Lo),.sc (.int .u32 x.To.x0.Hi),.sc (.int .u32 x.To.x1.Lo),.sc (.int .u32 x.To.x1.Hi),.sc (.int .u32 x.To.x2.Lo),.sc (.int .u32 x.To.x2.Hi),.sc (.int .u32 x.To.x3.Lo),.sc (.int .u32 x.To.x3.Hi),.sc (.int .u32 x.To.x4.Lo),.sc (.int .u32 x.To.x4.Hi)]
def Zada (x:Z9):List Value:=[.int .u32 x.From.x0.Lo,.int .u32 x.From.x0.Hi,.int .u32 x.From.x1.Lo,.int .u32 x.From.x1.Hi,.int .u32 x.From.x2.Lo,.int .u32 x.From.x2.Hi,.int .u32 x.From.x3.Lo,.int .u32 x.From.x3.Hi,.int .u32 x.From.x4.Lo,.int .u32 x.From.x4.Hi,.int .u32 x.To.x0.Lo,.int .u32 x.To.x0.Hi,.int .u32 x.To.x1.Lo,.int .u32 x.To.x1.Hi,.int .u32 x.To.x2.Lo,.int .u32 x.To.x2.Hi,.int .u32 x.To.x3.Lo,.int .u32 x.To.x3.Hi,.int .u32 x.To.x4.Lo,.int .u32 x.To.x4.Hi]
def Zse (x:Z9):PV:=.sc (.agg ⟨Zada x⟩)
structure Zad where
 Match:(Arr5 Za)
 Addr:Int
 Ports:Za
def Zat (x:Zad):List PV:=[.sc (.int .u32 x.Match.x0.Lo),.sc (.int .u32 x.Match.x0.Hi),.sc (.int .u32 x.Match.x1.Lo),.sc (.int .u32 x.Match.x1.Hi),.sc (.int .u32 x.Match.x2.Lo),.sc (.int .u32 x.Match.x2.Hi),.sc (.int .u32 x.Match.x3.Lo),.sc (.int .u32 x.Match.x3.Hi),.sc (.int .u32 x.Match.x4.Lo),.sc (.int .u32 x.Match.x4.Hi),.sc (.int .u32 x.Addr),.sc (.int .u32 x.Ports.Lo),.sc (.int .u32 x.Ports.Hi)]
def Zadb (x:Zad):List Value:=[.int .u32 x.Match.x0.Lo,.int .u32 x.Match.x0.Hi,.int .u32 x.Match.x1.Lo,.int .u32 x.Match.x1.Hi,.int .u32 x.Match.x2.Lo,.int .u32 x.Match.x2.Hi,.int .u32 x.Match.x3.Lo,.int .u32 x.Match.x3.Hi,.int .u32 x.Match.x4.Lo,.int .u32 x.Match.x4.Hi,.int .u32 x.Addr,.int .u32 x.Ports.Lo,.int .u32 x.Ports.Hi]
def Z4z (x:Zad):PV:=.sc (.agg ⟨Zadb x⟩)
def Zafd:Zad:=Zad.mk Zfu (0:Int) Zao
instance:Inhabited Zad:=⟨Zafd⟩
structure Zak where
 Match:(Arr5 Za)
 Class:ByteArray
def Zau (x:Zak):List PV:=[.sc (.int .u32 x.Match.x0.Lo),.sc (.int .u32 x.Match.x0.Hi),.sc (.int .u32 x.Match.x1.Lo),.sc (.int .u32 x.Match.x1.Hi),.sc (.int .u32 x.Match.x2.Lo),.sc (.int .u32 x.Match.x2.Hi),.sc (.int .u32 x.Match.x3.Lo),.sc (.int .u32 x.Match.x3.Hi),.sc (.int .u32 x.Match.x4.Lo),.sc (.int .u32 x.Match.x4.Hi),.sc (.string x.Class)]
def Zabq (x:Zak):List Value:=[.int .u32 x.Match.x0.Lo,.int .u32 x.Match.x0.Hi,.int .u32 x.Match.x1.Lo,.int .u32 x.Match.x1.Hi,.int .u32 x.Match.x2.Lo,.int .u32 x.Match.x2.Hi,.int .u32 x.Match.x3.Lo,.int .u32 x.Match.x3.Hi,.int .u32 x.Match.x4.Lo,.int .u32 x.Match.x4.Hi,.string x.Class]
def Zabr (x:Zak):PV:=.sc (.agg ⟨Zabq x⟩)
def Zadc:Zak:=Zak.mk Zfu ByteArray.empty
instance:Inhabited Zak:=⟨Zadc⟩
structure Zw where
 Edge:Int
 Ingress:(List Zal)
 Egress:(List Zal)
 Moves:(List Z9)
 Hides:(List Zad)
 Steers:(List Zak)
def Zz (x:Zw):List PV:=[.sc (.int .i64 x.Edge),.sl 11 (List.map Zan x.Ingress),.sl 11 (List.map Zan x.Egress),.sl 20 (List.map Zas x.Moves),.sl 13 (List.map Zat x.Hides),.sl 11 (List.map Zau x.Steers)]
def Zsf (x:Zw):PV:=.agg (Zz x)
structure Zo where
 Ports:(List Zw)
def Zab (x:Zo):List PV:=[.sl 6 (List.map Zz x.Ports)]
def Z08 (x:Zo):PV:=.agg (Zab x)
def Zej:Zo:=Zo.mk ([]:(List Zw))
structure Zg where
 Prefix:Zn
 Edge:Bool
 Port:Int
def Zv (x:Zg):List PV:=[.sc (.int .u32 x.Prefix.Addr),.sc (.int .i64 x.Prefix.Bits),.sc (.bool x.Edge),.sc (.int .i64 x.Port)]
def Zabs (x:Zg):List Value:=[.int .u32 x.Prefix.Addr,.int .i64 x.Prefix.Bits,.bool x.Edge,.int .i64 x.Port]
def Zwd (x:Zg):PV:=.sc (.agg ⟨Zabs x⟩)
def Zu1:Zg:=Zg.mk Zck false (0:Int)
def Z8 (x:(List Zg)):List PV:=[.sl 4 (List.map Zv x)]
structure Z1 where
 Topology:Zb
 Failure:Zp
 Configs:(List Zo)
 Routes:(List (List Zg))
 Labels:(List (List Int))
def Zbv (x:Z1):List PV:=[.sl 5 (List.map Zj x.Topology.Devices),.sl 3 (List.map Zx x.Topology.Links),.sl 6 (List.map Zk x.Topology.Edges),.sl 2 (List.map Zy x.Topology.Pools),.sc (.int .i64 x.Topology.Tolerate),.sl 1 (List.map Ze x.Failure.Links),.sl 1 (List.map Ze x.Failure.Devices),.sl 1 (List.map Zab x.Configs),.sl 1 (List.map Z8 x.Routes),.sl 1 (List.map Zar x.Labels)]
def Zbw (x:Z1):PV:=.agg (Zbv x)
def Z09:Z1:=Z1.mk Zui Z07 ([]:(List Zo)) ([]:(List (List Zg))) ([]:(List (List Int)))
structure Z0 where
 Kind:Int
 Name:ByteArray
 Prefix:Zn
 Proto:Int
 Ports:Za
def Z4 (x:Z0):List PV:=[.sc (.int .i64 x.Kind),.sc (.string x.Name),.sc (.int .u32 x.Prefix.Addr),.sc (.int .i64 x.Prefix.Bits),.sc (.int .i64 x.Proto),.sc (.int .u32 x.Ports.Lo),.sc (.int .u32 x.Ports.Hi)]
def Zadd (x:Z0):List Value:=[.int .i64 x.Kind,.string x.Name,.int .u32 x.Prefix.Addr,.int .i64 x.Prefix.Bits,.int .i64 x.Proto,.int .u32 x.Ports.Lo,.int .u32 x.Ports.Hi]
def Z40 (x:Z0):PV:=.sc (.agg ⟨Zadd x⟩)
def Zu2 (x y:Z0):Bool:=((x.Kind==y.Kind)&&((x.Name.toList==y.Name.toList)&&((Z06 x.Prefix y.Prefix)&&((x.Proto==y.Proto)&&((Zbe x.Ports y.Ports)&&true)))))
structure Zl where
 Name:ByteArray
 Items:(List Z0)
def Zr (x:Zl):List PV:=[.sc (.string x.Name),.sl 7 (List.map Z4 x.Items)]
def Z5j:Zl:=Zl.mk ByteArray.empty ([]:(List Z0))
instance:Inhabited Zl:=⟨Z5j⟩
structure Zbl where
 Name:ByteArray
 Active:(List Za)
def Za0 (x:Zbl):List PV:=[.sc (.string x.Name),.sl 2 (List.map Zm x.Active)]
structure Zam where
 Permit:Bool
 From:ByteArray
 To:ByteArray
 Service:ByteArray
 Excepted:Bool
 ExceptFrom:ByteArray
 ExceptTo:ByteArray
 Class:ByteArray
 During:ByteArray
 Priority:Int
def Zav (x:Zam):List PV:=[.sc (.bool x.Permit),.sc (.string x.From),.sc (.string x.To),.sc (.string x.Service),.sc (.bool x.Excepted),.sc (.string x.ExceptFrom),.sc (.string x.ExceptTo),.sc (.string x.Class),.sc (.string x.During),.sc (.int .i64 x.Priority)]
def Z5k (x:Zam):List Value:=[.bool x.Permit,.string x.From,.string x.To,.string x.Service,.bool x.Excepted,.string x.ExceptFrom,.string x.ExceptTo,.string x.Class,.string x.During,.int .i64 x.Priority]
def Zwe (x:Zam):PV:=.sc (.agg ⟨Z5k x⟩)
structure Za4 where
 Addr:Int
 Proto:Int
 Port:Int
 Edge:ByteArray
 Real:Int
 RealPort:Int
def Zay (x:Za4):List PV:=[.sc (.int .u32 x.Addr),.sc (.int .i64 x.Proto),.sc (.int .i64 x.Port),.sc (.string x.Edge),.sc (.int .u32 x.Real),.sc (.int .i64 x.RealPort)]
structure Zbf where
 Group:ByteArray
 Edge:ByteArray
 Addr:Int
 Ports:Za
def Za1 (x:Zbf):List PV:=[.sc (.string x.Group),.sc (.string x.Edge),.sc (.int .u32 x.Addr),.sc (.int .u32 x.Ports.Lo),.sc (.int .u32 x.Ports.Hi)]
structure Zs where
 Groups:(List Zl)
 Services:(List Zl)
 Windows:(List Zbl)
 Statements:(List Zam)
 Published:(List Za4)
 Hidden:(List Zbf)
def Zuj (x:Zs):List PV:=[.sl 2 (List.map Zr x.Groups),.sl 2 (List.map Zr x.Services),.sl 2 (List.map Za0 x.Windows),.sl 10 (List.map Zav x.Statements),.sl 6 (List.map Zay x.Published),.sl 5 (List.map Za1 x.Hidden)]
def Zb1 (x:Zs):PV:=.agg (Zuj x)
structure Z7 where
 Class:ByteArray
 Set:(List (Arr5 Za))
def Zaf (x:Z7):List PV:=[.sc (.string x.Class),.sl 10 (List.map Zd x.Set)]
def Z5l:Z7:=Z7.mk ByteArray.empty ([]:(List (Arr5 Za)))
instance:Inhabited Z7:=⟨Z5l⟩
structure Zaa where
 Allow:(List (Arr5 Za))
 Inspect:(List Z7)
def Zky (x:Zaa):List PV:=[.sl 10 (List.map Zd x.Allow),.sl 2 (List.map Zaf x.Inspect)]
def Zg8 (x:Zaa):PV:=.agg (Zky x)
def Z2s:Zaa:=Zaa.mk ([]:(List (Arr5 Za))) ([]:(List Z7))
structure Zap where
 f_a:Int
 f_b:Int
 f_classes:(List ByteArray)
def Zbs (x:Zap):List PV:=[.sc (.int .i64 x.f_a),.sc (.int .i64 x.f_b),.sl 1 (List.map Zai x.f_classes)]
def Z2t (x:Zap):PV:=.agg (Zbs x)
structure Zaj where
 From:Int
 To:Int
 Egress:Bool
 Allow:(List (Arr5 Za))
def Zbm (x:Zaj):List PV:=[.sc (.int .i64 x.From),.sc (.int .i64 x.To),.sc (.bool x.Egress),.sl 10 (List.map Zd x.Allow)]
def Zaai (x:Zaj):PV:=.agg (Zbm x)
structure Zbp where
 f_device:Int
 f_label:Int
def Z1a (x:Zbp):List Value:=[.int .i64 x.f_device,.int .i64 x.f_label]
def Z1b (x:Zbp):Value:=.agg ⟨Z1a x⟩
def Zah (x y:Zbp):Bool:=((x.f_device==y.f_device)&&((x.f_label==y.f_label)&&true))
structure Zb0 where
 f_device:Int
 f_label:Int
def Zii (x:Zb0):List PV:=[.sc (.int .i64 x.f_device),.sc (.int .i64 x.f_label)]
def Zcq (x y:Zb0):Bool:=((x.f_device==y.f_device)&&((x.f_label==y.f_label)&&true))
def Zmr:(Arr5 Int):=Arr5.mk 4294967295 4294967295 255 65535 65535
abbrev ZI:Int→Int:=wrap .i64
abbrev Ya:=List Int
abbrev Yb:=Unit⊕Bool
abbrev Yc:=List Za
abbrev Yd:=List Zg
abbrev Ye:=List Zl
abbrev Yf:=Unit⊕Int
abbrev Yg:=List Z0
abbrev Yh:=List Zo
abbrev Yi:=List Zak
abbrev Yj:=List Z9
abbrev Yk:=List Z2
abbrev Yl:=List Zn
abbrev Ym:=List Zaj
abbrev Yn:=List Zad
abbrev Yo:=List Zw
abbrev Yp:=List ByteArray
abbrev Yq:=List Zal
abbrev Yr:=List Zap
abbrev Ys:=List Z5
abbrev Yt:=List Zbl
abbrev Yu:=List Z7
abbrev Yv:=List Zp
abbrev Yw:=List Za4
abbrev Yx:=List Zag
abbrev Yy:=List Zam
abbrev Yz:=List Zbf
def Zq (x:Zo):List OV:=[owB 93 6 Zz x.Ports]
def Zxp:Option Bool:=some true
def Zwf (a:Ya):Option Zc:=some (Zc.mk a 0)
def Zq6 (b:Int) (a:Int):Option Int:=if(wrap .u64 a)≠0 then some (wrap .i64 (Int.tmod (wrap .u64 b) (wrap .u64 a)))else none
def Zh (a:Zc) (b:Int):Option (Int×Zc):=(some (decide (b≤1))).bind λc=>if(c||(decide (a.f_i≥(a.f_l.length:Int))))=true then some ((0:Int),a)else (idx a.f_l (wrap .i64 ((wrap .i64 (a.f_i+1))-1))).bind λd=>(Zq6 d b).bind λf=>some (f,({a with f_i:=(wrap .i64 (a.f_i+1))}:Zc))
def Ze4 (a:Int):Option Zn:=(Zq6 a 6).bind λb=>(idx [Zn.mk 167772160 24,Zn.mk 167772416 24,Zn.mk 167772672 25,Zn.mk 167772800 26,Zn.mk 2886729728 16,Zn.mk 3232237321 32] b).bind λc=>some c
def Zga (m:(Int×Zc)):Nat→Zc→Int→Ys→Yx→Int→Option (Zc×Int×Ys×Yx)
 |0,_,_,_,_,_=>none
 |s+1,n,o,b,c,a=>if(decide (a<(wrap .i64 ((1:Int)+m.1))))=true then ((idx [(⟨#[114,49]⟩:ByteArray),⟨#[114,50]⟩,⟨#[114,51]⟩,⟨#[114,52]⟩,⟨#[114,53]⟩,⟨#[114,54]⟩] a).bind λg=>(Zh n 6).bind λp=>(idx [(4096:Int),(400:Int),(60:Int),(20:Int),(5:Int),(0:Int)] p.1).bind λi=>(Zh p.2 3).bind λd=>(Zh d.2 3).bind λf=>(Zh f.2 3).bind λj=>(idx [ByteArray.empty,⟨#[105,112,115]⟩,⟨#[100,108,112]⟩] j.1).bind λk=>if b.length+List.length [({({({(Z5.mk g i false false ByteArray.empty)with Ranges:=(d.1==1)}:Z5)with Volatile:=(f.1==1)}:Z5)with Class:=k}:Z5)]≤lim then if decide (a>0)=true then (Zh j.2 a).bind λl=>(Zh l.2 4).bind λq=>(idx [(1:Int),(2:Int),(3:Int),(1000:Int)] q.1).bind λr=>if c.length+List.length [Zag.mk l.1 a r]≤lim then some (q.2,b++[({({({(Z5.mk g i false false ByteArray.empty)with Ranges:=(d.1==1)}:Z5)with Volatile:=(f.1==1)}:Z5)with Class:=k}:Z5)],c++[Zag.mk l.1 a r])else none else some (j.2,b++[({({({(Z5.mk g i false false ByteArray.empty)with Ranges:=(d.1==1)}:Z5)with Volatile:=(f.1==1)}:Z5)with Class:=k}:Z5)],c)else none).bind λ(u,v,w)=>Zga m s u o v w (wrap .i64 (a+1))else some (n,o,b,c)
def Zgb (b:(Int×Zc)):Nat→Zc→Int→Yx→Int→Option (Zc×Int×Yx)
 |0,_,_,_,_=>none
 |l+1,f,g,c,i=>(some (decide (i>0))).bind λm=>if(m&&(decide ((wrap .i64 ((1:Int)+b.1))>1)))=true then (Zh f (wrap .i64 ((wrap .i64 ((1:Int)+b.1))-1))).bind λa=>(Zh a.2 (wrap .i64 ((1:Int)+a.1))).bind λd=>(Zh d.2 4).bind λj=>(idx [(1:Int),(2:Int),(3:Int),(1000:Int)] j.1).bind λk=>if c.length+List.length [Zag.mk d.1 (wrap .i64 ((1:Int)+a.1)) k]≤lim then Zgb b l j.2 g (c++[Zag.mk d.1 (wrap .i64 ((1:Int)+a.1)) k]) (wrap .i64 (i-1))else none else some (f,g,c)
def Zgc (d:(Int×Zc)) (f:Int):Nat→Zc→Int→Yk→Int→Option (Zc×Int×Yk)
 |0,_,_,_,_=>none
 |n+1,g,i,b,a=>if decide (a<f)=true then (idx [(⟨#[101,49]⟩:ByteArray),⟨#[101,50]⟩,⟨#[101,51]⟩,⟨#[101,52]⟩,⟨#[101,53]⟩] a).bind λj=>(Zh g (wrap .i64 ((1:Int)+d.1))).bind λc=>(Zh c.2 3).bind λk=>(idx [(⟨#[108,97,110]⟩:ByteArray),⟨#[100,109,122]⟩,⟨#[110,101,116]⟩] k.1).bind λl=>(Ze4 a).bind λm=>if b.length+List.length [Z2.mk j c.1 l m false]≤lim then Zgc d f n k.2 i (b++[Z2.mk j c.1 l m false]) (wrap .i64 (a+1))else none else some (g,i,b)
def Znv (j:Zc) (k:Int):Option (Zb×Zc):=(Zh j (iMin k (6:Int))).bind λa=>(Zga a fuel a.2 0 [] [] 0).bind λ(m,n,o,p)=>(Zh m 4).bind λf=>(Zgb a fuel f.2 n p f.1).bind λ(r,s,t)=>(Zh r 6).bind λg=>(idx [(2:Int),(3:Int),(4:Int),(1:Int),(5:Int),(0:Int)] g.1).bind λu=>(Zgc a u fuel g.2 s [] 0).bind λ(w,_,x)=>((Zh w 2).bind λb=>if(b.1==1)=true then if List.length ([]:Yl)+List.length [Zn.mk 168296448 22]≤lim then some (b.2,[]++[Zn.mk 168296448 22])else none else some (b.2,([]:Yl))).bind λ(z,c)=>((Zh z 3).bind λd=>if(d.1==1)=true then if c.length+List.length [Zn.mk 167772672 24]≤lim then some (d.2,c++[Zn.mk 167772672 24])else none else some (d.2,c)).bind λ(a1,a2)=>(Zh a1 5).bind λi=>(idx [(0:Int),(1:Int),(0:Int),(1:Int),(2:Int)] i.1).bind λa3=>some ((Zb.mk o t x a2 a3),i.2)
def Zor (a:Int):Option Int:=if 0≤(wrap .u64 (wrap .i64 ((32:Int)-a)))then some (bShl .u64 (1:Int) (wrap .u64 (wrap .i64 ((32:Int)-a))))else none
def Zcx (a:Zn):Option Bool:=(some (decide (a.Bits≥0))).bind λc=>(some (c&&(decide (a.Bits≤32)))).bind λd=>(if d=true then (Zor a.Bits).bind λb=>if b≠0 then some ((Int.tmod (wrap .u64 a.Addr) b)==0)else none else some false).bind λf=>some f
def Za7 (a:Zn):Option (Za×Bool):=(Zcx a).bind λb=>if(!b)=true then some ((Za.mk 0 0),false)else (Zor a.Bits).bind λc=>some ((Za.mk a.Addr (wrap .u32 (wrap .u64 ((wrap .u64 ((wrap .u64 a.Addr)+c))-1)))),true)
def Zcy (g:Zc):Option (Int×Zc):=(Zh g 5).bind λb=>if(b.1==4)=true then (Zh b.2 6).bind λc=>(idx [(0:Int),(4294967295:Int),(3405803781:Int),(3325256705:Int),(168296448:Int),(2130706433:Int)] c.1).bind λi=>some (i,c.2)else (Zh b.2 6).bind λd=>(Ze4 d.1).bind λj=>(Za7 j).bind λa=>(Zh d.2 5).bind λf=>(idx [a.1.Lo,a.1.Hi,wrap .u32 (a.1.Lo+5),wrap .u32 (a.1.Hi+1),wrap .u32 (a.1.Lo-1)] f.1).bind λk=>some (k,f.2)
def Zgj (g:Zc):Option (Zn×Zc):=(Zh g 3).bind λc=>if(c.1==0)=true then (Zh c.2 6).bind λd=>(Ze4 d.1).bind λi=>some (i,d.2)else (Zh c.2 10).bind λf=>(idx [(32:Int),(31:Int),(24:Int),(25:Int),(8:Int),(1:Int),(0:Int),(16:Int),(30:Int),(23:Int)] f.1).bind λa=>(Zcy f.2).bind λb=>(if decide (a<32)=true then if 0≤(wrap .u64 (wrap .i64 ((32:Int)-a)))then if 0≤(wrap .u64 (wrap .i64 ((32:Int)-a)))then some ({(Zn.mk b.1 a)with Addr:=(bShl .u32 (bShr .u32 b.1 (wrap .u64 (wrap .i64 ((32:Int)-a)))) (wrap .u64 (wrap .i64 ((32:Int)-a))))}:Zn)else none else none else some (Zn.mk b.1 a)).bind λj=>some (j,b.2)
def Zdj (c:Zc) (a:Int):Option (Int×Zc):=(Zh c 17).bind λb=>(idx [(0:Int),(1:Int),(2:Int),(5:Int),(7:Int),(8:Int),(9:Int),(15:Int),(16:Int),(80:Int),(255:Int),(256:Int),(1024:Int),(65535:Int),wrap .u32 (Int.tdiv a (2:Int)),wrap .u32 (a-1),a] b.1).bind λd=>some ((iMin d a),b.2)
def Zfa (d:Zc) (c:Int):Option (Za×Zc):=(Zdj d c).bind λa=>(Zdj a.2 c).bind λb=>some ((Za.mk (iMin a.1 b.1) (iMax a.1 b.1)),b.2)
def Zq7 (b:ByteArray) (f:Int):Nat→Yp→Int→Int→Option Yp
 |0,_,_,_=>none
 |g+1,d,c,a=>if decide (a≤(ByteArray.size b:Int))=true then ((some (a==(ByteArray.size b:Int))).bind λi=>(if i=true then some true else (sidx b a).bind λj=>some (j==f)).bind λk=>if k=true then if 0≤c∧c≤a∧a≤(ByteArray.size b:Int)then if d.length+List.length [ByteArray.extract b (Int.toNat c) (Int.toNat a)]≤lim then some ((d++[ByteArray.extract b (Int.toNat c) (Int.toNat a)]),wrap .i64 (a+1))else none else none else some (d,c)).bind λ(m,n)=>Zq7 b f g m n (wrap .i64 (a+1))else some d
def Zqg (a:ByteArray) (b:Int):Option Yp:=(Zq7 a b fuel [] 0 0).bind λc=>some c
def Zuk:Option Yp:=some [(⟨#[109,111,110]⟩:ByteArray),⟨#[116,117,101]⟩,⟨#[119,101,100]⟩,⟨#[116,104,117]⟩,⟨#[102,114,105]⟩,⟨#[115,97,116]⟩,⟨#[115,117,110]⟩]
def Zpb (c:ByteArray) (b:Yp):Nat→Int→Option Yf
 |0,_=>none
 |d+1,a=>if decide (a<(b.length:Int))=true then (idx b a).bind λf=>if(f.toList==c.toList)=true then some (.inr a)else Zpb c b d (wrap .i64 (a+1))else some (.inl ())
def Zsj (a:ByteArray):Option Int:=(Zuk).bind λb=>(Zpb a b fuel 0).bind λ(c:Yf)=>match c with
 |.inl ()=>some (-1:Int)
 |.inr d=>some d
def Zul (d:ByteArray):Option (Int×Int):=(Zqg d 45).bind λa=>if decide ((a.length:Int)>2)=true then some ((-1:Int),(-1:Int))else (idx a (0:Int)).bind λf=>(Zsj f).bind λb=>(idx a (wrap .i64 ((a.length:Int)-1))).bind λg=>(Zsj g).bind λc=>(some (decide (b<0))).bind λi=>if(i||(decide (c<b)))=true then some ((-1:Int),(-1:Int))else some (b,c)
def Zsk (a:ByteArray):Option Int:=(some ((ByteArray.size a:Int)!=(2:Int))).bind λb=>(if b=true then some true else (sidx a (0:Int)).bind λc=>some (decide (c<48))).bind λd=>(some d).bind λf=>(if f=true then some true else (sidx a (0:Int)).bind λg=>some (decide (g>57))).bind λi=>(some i).bind λj=>(if j=true then some true else (sidx a (1:Int)).bind λk=>some (decide (k<48))).bind λl=>(some l).bind λm=>(if m=true then some true else (sidx a (1:Int)).bind λn=>some (decide (n>57))).bind λo=>if o=true then some (-1:Int)else (sidx a (0:Int)).bind λp=>(sidx a (1:Int)).bind λq=>some (wrap .i64 ((wrap .i64 ((wrap .i64 (wrap .u8 (p-48)))*10))+(wrap .i64 (wrap .u8 (q-48)))))
end
end Go.AM

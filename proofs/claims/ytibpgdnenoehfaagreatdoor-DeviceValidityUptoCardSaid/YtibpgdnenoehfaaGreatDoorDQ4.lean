/- Parts of a proof, printed short. No condition. -/
import Derived.Laws.Externs
import Derived.Laws.Concat
import Derived.Laws.IdiomStrings
import Derived.Laws.IdiomRangeMap
import Derived.Test.YtibpgdnenoehfaaGreatDoorDQ3
set_option maxRecDepth 100000
set_option linter.all false
namespace Go.AM
noncomputable section
open Go
section
variable {P:Program} {G:Glob} {n0 nt:Nat} {o:Oper} {st:St} {H:List Blk}
end
section
variable {P:Program} {G:Glob} {n0 nt:Nat} {o:Oper} {st:St} {H:List Blk}
end
section
variable {P:Program} {G:Glob} {c:Ctx} {β:List Bnd} {st:St} {H:List Blk} {a:Act} {w:World} {n0 nt:Nat} {o:Oper}
def VR.closed {S S':Nat→Nat→Prop} {w':World} {β':List Bnd} (hx:Ext S w S' w') {p:PV} {u:Value} (hp:p.ids (λ_=>false)=true) (h:VR S β w p u):VR S' β' w' p u:=
 Wgd hx (q:=λ_=>false) (λi e hq _=>gD) p u hp h
def VRs.closed {S S':Nat→Nat→Prop} {w':World} {β':List Bnd} (hx:Ext S w S' w') {ps:List PV} {us:List Value} (hp:PV.idss (λ_=>false) ps=true) (h:VRs S β w ps us):VRs S' β' w' ps us:=
 Wdb hx (q:=λ_=>false) (λi e hq _=>gD) ps us hp h
def Whi:=@VRs.closed
def OpT.asH {p:PV} {H1 H':List Blk} (h:OpT P G n0 o st H p H1) (e:H1=H'):OpT P G n0 o st H p H':=gD
def Wfy:=@Bool.and_true
def RelB.callB (h:RelB G c β st H a w) {i s t:Nat} {xs ys:List (List PV)} {e:Bnd} (he:β[i]? = some e) (hb:H[i]? = some (.buf s t xs false)) (hne:xs≠[]) (hlen:ys.length=xs.length) (hys:∀ y∈ys,y.length=s) :
  ∃(g cap:Nat) (sp:List Value),xs.length≤cap∧e.v=.slice (some ⟨g,0,none⟩) xs.length cap∧InOk G (stab c β H w) [⟨g,undef,0,0,[]⟩] [.cells (xs.flatten++sp.map .sc)] w ∧
   ∀ γ w',OutOk (stab c β H w) [⟨g,undef,0,0,[]⟩] γ [.cells (ys.flatten++sp.map .sc)] w w' →
    γ=[]∧RelB G c (β.set i ⟨e.b,e.v,ys.length,s,e.bs⟩) st (H.set i (.buf s t ys false)) a w' ∧
    Ext (stab c β H w) w (stab c (β.set i ⟨e.b,e.v,ys.length,s,e.bs⟩) (H.set i (.buf s t ys false)) w') w'∧BExt (λ_=>true) β (β.set i ⟨e.b,e.v,ys.length,s,e.bs⟩) ∧
    Ext (stab1 (stab c β H w) γ w w') w' (stab c (β.set i ⟨e.b,e.v,ys.length,s,e.bs⟩) (H.set i (.buf s t ys false)) w') w':=by
 obtain⟨q1,q2,q3,vals0,⟨q4,q4'⟩,q5⟩:=h.blk i e _ he hb
 rcases q4' with⟨_,q6⟩|⟨g,cap,cur,e1,e2,e3,e4,e5,e6,e7⟩
 exact absurd (Wab q6) hne
 have hg:e.v.ownBlock=some g:=by rw[e1];rfl
 have hn0:c.β0.length≤i:=by
  rcases Wcx i c.β0.length with hlt|hge
  obtain⟨cs,hc,hcf⟩:=h.cel i hlt;rw[hb]at hc;cases hc;cases hcf;exact hge
 obtain⟨hg0,hgl⟩:=h.loc i e _ g hn0 he hb hg
 have hgs:∀ b hi,stab c β H w b hi→g≠b:=λb hi hs=>by
  rcases hs with hs|⟨_,_,h3⟩
  have:=(h.ok.old b hi hs).1;omega;intro hgb;have:=(h3 i e _ he hb (by rw[hg,hgb])).1;cases this
 have hfy:ys.flatten.length=ys.length*s:=Zu4 ys hys
 let sp:=cur.toList.drop (xs.length*s)
 have hcur:cur.toList=vals0++sp:=by rw[←e7];exact(Wat _ _).symm
 have hidx:PV.idss (λ_=>false) xs.flatten=true:=by
  have:=Wd8 _ _ q5
  grind
 refine⟨g,cap,sp,e4,e1,⟨⟨λb hi hs=>⟨Zos h hs,λf hf=>?_⟩,λgl cs hgl'=>?_,λf hf=>?_,λb hi hi' h1 h2=>h.ok.stab h1 h2⟩,rfl,λj f k hj hk=>?_,λj k f f' hjk hf hf'=>?_⟩,λγ w' ho=>?_⟩
 simp only[Wj]at hf;subst hf;exact hgs b hi hs;obtain⟨h1,h2⟩:=h.ok.glob gl cs hgl';exact⟨h.ext0.stab _ _ h1,Wfb h.ext0 (W0 _ _) gl cs.length h1 cs 0 om (Wcj cs) h2⟩;simp only[Wj]at hf;subst hf;exact hgl
 cases j with
 |succ j=>simp at hj
 |zero=>
  simp at hj hk;subst hj hk
  refine⟨rfl,?_,cur,t,e3,?_⟩
  rw[Wdn,Z53,Wfy];exact Wdd (λ_ hf=>by cases hf) _ hidx;rw[hcur];exact VRs.append _ _ _ _ (Whi (Wdu _ _) hidx q5) (VRs.scs sp)
 cases j with
 |succ j=>simp at hf
 |zero=>grind
 have hγ:γ=[]:=by
  have:=ho.len
  simp at this
  exact this
 subst hγ;obtain⟨_,hid,vs,t',k2,k3⟩:=ho.blk 0 ⟨g,undef,0,0,[]⟩ _ rfl rfl;obtain⟨vs1,k4⟩:=ho.frm.typ g cur t e3;obtain⟨_,rfl⟩:=Z5z k2 k4;have hvl:=Waw _ _ k3;have k5:=Wdl ys.flatten.length _ _ k3;have k6:=Wdm ys.flatten.length _ _ k3;rw[Wg2]at k5;rw[Wg3]at k6
 have hspl:sp.length=cap*s-xs.length*s:=by simp only[sp,Wax,Wa5,e6]
 have hvsz:vs.size=cap*s:=by
  grind
 have hidy:PV.idss (λ_=>false) ys.flatten=true:=by
  rw[Wdn,Wh]at hid
  refine Wdd (λj hj=>?_) _ hid.1
  simp at hj
 have hst:∀(β':List Bnd) (H':List Blk),(∀(j:Nat) f k,β'[j]? = some f→H'[j]? = some k→(j≠i∧β[j]? = some f∧H[j]? = some k)∨(j=i∧f.v=e.v∧∃ s' t' xs' ,k=.buf s' t' xs' false)) →
   Ext (stab c β H w) w (stab c β' H' w') w'→Ext (stab1 (stab c β H w) [] w w') w' (stab c β' H' w') w':=λβ' H' hk hx=>by
  refine⟨λb hi hs=>?_,λ_ _ _ _ _ _ h=>h⟩
  rcases hs with hs|⟨h1,h2,_⟩
  exact hx.stab b hi hs
  refine .inr ⟨Wbj h.frm.size h1,h2,λj f k hj hj'=>?_⟩
  rcases hk j f k hj hj' with⟨_,g1,g2⟩|⟨rfl,g1,s',t',xs',rfl⟩
  cases k with
  |cells cs=>exact λhb'=>by have:=at_lt (h.blk j f _ g1 g2) (b:=b) (by simp[Blk.at,hb']);omega
  |map es cl=>exact λhb'=>by have:=at_lt (h.blk j f _ g1 g2) (b:=b) (by simp[Blk.at,hb']);omega
  |far cs=>exact λhb'=>by have:=at_lt (h.blk j f _ g1 g2) (b:=b) (by simp[Blk.at,hb']);omega
  |dead=>trivial
  |fm l=>exact λhb'=>by have:=at_lt (h.blk j f _ g1 g2) (b:=b) (by simp[Blk.at,hb']);omega
  |iter m since seen last=>exact λhb'=>by have:=at_lt (h.blk j f _ g1 g2) (b:=b) (by simp[Blk.at,hb']);omega
  |buf s' t' xs' sh=>exact λhb'=>by have:=at_lt (h.blk j f _ g1 g2) (b:=b) hb';omega
  |fb s' t' xs'=>exact λhb'=>by have:=at_lt (h.blk j f _ g1 g2) (b:=b) hb';omega
  |tr t' s' n' cs'=>exact Z81 λhb'=>by have:=at_lt (h.blk j f _ g1 g2) (b:=b) hb';omega
  intro hb';rw[g1,hg]at hb';cases hb';omega
 have hkey:∀(j:Nat) f k,(β.set i ⟨e.b,e.v,ys.length,s,e.bs⟩)[j]? = some f→(H.set i (.buf s t ys false))[j]? = some k→(j≠i∧β[j]? = some f∧H[j]? = some k)∨(j=i∧f.v=e.v∧∃ s' t' xs' ,k=.buf s' t' xs' false):=λj f k hf hk=>by
  grind
 have hre:=h.rebuf' he hb (w':=w') (v':=e.v) (xs':=ys) (vals:=vs.toList.take ys.flatten.length) ho.frm.os ho.frm.tape ho.frm.output ho.frm.drawn ho.frm.size
  (λb hlt hne'=>ho.frm.block b hlt λf hf=>gD)
  om (λ_=>rfl) (λh=>by cases h)
  ⟨gD,.inr ⟨g,cap,vs,by rw[hlen];exact e1,e2,k2,om,e5,hvsz,by rw[hfy]⟩⟩
  (λg' hg'=>.inl hg') hys
  (λhx=>Whi (hst _ _ hkey hx) hidy k5)
 exact⟨rfl,hre.1,hre.2.1,hre.2.2,hst _ _ hkey hre.2.1⟩
def OpT.callB {cl:Call} {x:Operand} {f:FuncId} {fn:Func} {i s t:Nat} {xs ys:List (List PV)} {rest:List PV} {p:PV}
  (ho:o.op=.call cl) (hc:cl.callee=.value x) (hx:opd G st x=some (.sc (.func (.func f) #[] #[])))
  (hfn:P.funcs[f]? = some fn) (hbody:fn.body.isNone=false) (hname:(fn.name== "runtime.NumGoroutine")=false)
  (hargs:cl.args.toList.map (opd G st)=(.own i xs.length::rest).map some) (hrest:PV.idss (λ_=>false) rest=true) (hb:H[i]? = some (.buf s t xs false)) (hne:xs≠[])
  (hlen:ys.length=xs.length) (hys:∀ y∈ys,y.length=s)
  (hcall:∀ sp:List Value,ACall P G f (.vw 0 0 xs.length::rest) [.cells (xs.flatten++sp.map .sc)] (λq K=>q=p∧K=[.cells (ys.flatten++sp.map .sc)])) (hp:p.ids (λ_=>false)=true) :
  OpT P G n0 o st H p (H.set i (.buf s t ys false)):=by
 intro c a w β h0 hr;have hv:=Wd1 hr cl.args.toList _ hargs;have hlv:=Waw _ _ hv
 obtain⟨u,us,hus⟩:∃ u us,cl.args.toList.map a.eval=u::us:=by
  cases hq:cl.args.toList.map a.eval
  grind
  grind
 rw[hus]at hv;obtain⟨hv1,hv2⟩:=hv;obtain⟨_,e,he,_,hve⟩:=hv1;obtain⟨q1,_⟩:=hr.blk i e _ he hb;obtain⟨g,cap,sp,k1,k2,k3,k4⟩:=hr.callB he hb hne hlen hys;have hxe:=hr.opd hx
 simp  [VR]at hxe
 have hex:(execOp a.eval o).run P w=.ok (.enter f (cl.args.map a.eval)) w:=by
  have hn:=by simpa using hname
  have hb:¬fn.body=none:=gD
  simp[execOp,ho,resolve,hc,hxe,Deferred.ofValue,invoke,callFunc,hfn,hn,hb]
 simp  [wpv,hex]
 refine(hcall sp _ _ w (cl.args.map a.eval) k3 ?_).mono ?_
 have:(cl.args.map a.eval).toList=u::us:=sA
 rw[this]
 refine⟨?_,Whi (Wdu _ _) hrest hv2⟩
 exact⟨_,rfl,cap,_,k1,gD,λ_=>rfl⟩;rintro ex w' ⟨v,q,K,γ,rfl,⟨rfl,rfl⟩,hout,hvr⟩;obtain⟨rfl,g1,g2,g3,g4⟩:=k4 γ w' hout;exact⟨v,rfl,_,g1,VR.closed g4 hp hvr,g3,g2⟩
variable {α:Type}
def cel (row:α→List PV) (l:List α) (sp:List Value):List PV:=(l.map row).flatten++sp.map .sc
def Hnd.callB {f:FuncId} {fn:Func} (row:α→List PV) {s:Nat} {l l':List α} {rest:List PV} {p1:PV} (hfn:P.funcs[f]? = some fn) (hrow:∀ z,(row z).length=s) (hne:l≠[]) (hlen:l'.length=l.length)
  (hc:∀ sp,ACall P G f (.vw 0 0 l.length::rest) [.cells (cel row l sp)] (λq K=>q=p1∧K=[.cells (cel row l' sp)])):Hnd P G where
 run o st H:=match o.op with
  |.call cl=>match cl.callee with
   |.value x=>match opd G st x,opdL G st cl.args.toList with
    |some px,some (.own i n::rest')=>match H[i]? with
     |some (.buf s' t xs false)=>
      if fn.body.isNone=false∧(fn.name== "runtime.NumGoroutine")=false∧PV.idss (λ_=>false) rest=true∧p1.ids (λ_=>false)=true∧Nat.beq s s'=true then
       some ⟨p1,H.set i (.buf s' t (l'.map row) false),[.p px,.n n,.ps rest',.rs xs],[.p (.sc (.func (.func f) #[] #[])),.n l.length,.ps rest,.rs (l.map row)]⟩
      else none
     |_=>none
    |_,_=>none
   |_=>none
  |_=>none
 sound:=by
  intro n0 o st H x h he
  suffices hT:OpT P G n0 o st H x.p x.H from hT.weak
  split at h
  rename_i cl ho
  split at h
  rename_i x hcl
  split at h
  rename_i px i n rest' hx hps
  split at h
  rename_i s' t xs hb
  split at h
  rename_i hcond;obtain⟨c1,c2,c3,c4,c5⟩:=hcond;cases h;cases he;have c5:=Wd c5;subst c5;have hl1:(l.map row).length=l.length:=Wt ..
  refine OpT.callB (xs:=l.map row) (ys:=l'.map row) ho hcl hx hfn c1 c2 (by rw[hl1];exact Zm5 _ _ hps) c3 hb gD gD ?_ (λsp=>?_) c4
  intro y hy;obtain⟨z,_,rfl⟩:=Wah.1 hy;exact hrow z;rw[hl1];exact hc sp;cases h;cases h;cases h;cases h;cases h
def idxn (n:Nat) (l:List α) (j:Int):Option α:=if 0≤j∧j<(n:Int)then idx l j else none
def Zrn {n:Nat} {l:List α} {j:Int} {z:α} (h:idxn n l j=some z):0≤j∧j<n:=by
 unfold idxn at h;grind
def Zpg {n:Nat} {l:List α} {j:Int} {z:α} (h:idxn n l j=some z):idx l j=some z:=by
 unfold idxn at h;grind
def Hnd.idxV {n:Nat} {j:Int} (h:0≤j∧j<(n:Int)):Hnd P G where
 run o st H:=match o.op with
  |.indexAddr t x y=>match P.underlying t,opd G st x,opd G st y with
   |some (.slice e),some (.vw i off n'),some (.sc (.int _ j'))=>if Nat.beq (P.cellsOf e) 0 then none else some ⟨.ptr i (off+j.toNat*P.cellsOf e),H,[.n n',.i j'],[.n n,.i j]⟩
   |_,_,_=>none
  |_=>none
 sound:=by
  intro n0 o st H x hr he
  suffices hT:OpT P G n0 o st H x.p x.H from hT.weak
  split at hr
  ·rename_i t x y ho
   split at hr
   ·rename_i e i off n' k j' hu hx hy
    split at hr
    ·cases hr
    ·rename_i hz
     simp only[Wn]at hr;subst hr;simp only[Wak,Wd6,T.i.injEq,and_true]at he;obtain⟨rfl,rfl⟩:=he;exact OpT.index_vw ho hu (λh0=>hz (by rw[h0];rfl)) hx hy h.1 h.2
   ·cases hr
  ·cases hr
def Z6a {row:α→List PV} {s:Nat} (hrow:∀ z,(row z).length=s):∀ {l:List α} {k:Nat} {z:α} sp,l[k]? = some z→(((l.map row).flatten++sp).drop (k*s)).take s=row z∧(k+1)*s≤((l.map row).flatten++sp).length
 |[],k,z,sp,h=>gD
 |y::l,0,z,sp,h=>by
  grind
 |y::l,k+1,z,sp,h=>by
  obtain⟨h1,h2⟩:=Z6a hrow (l:=l) sp h;simp
  have hd:((k+1)*s)=(row y).length+k*s:=gD
  refine⟨?_,?_⟩
  rw[hd,List.drop_append,List.drop_of_length_le om];simp;exact h1
  grind
def Zab8 {row:α→List PV} {s:Nat} (hrow:∀ z,(row z).length=s) (z':α):∀ {l:List α} {k:Nat} sp,k<l.length →
  ((l.set k z').map row).flatten++sp=((l.map row).flatten++sp).take (k*s)++row z'++((l.map row).flatten++sp).drop (k*s+s)
 |[],k,sp,h=>gD
 |y::l,0,sp,h=>by
  grind
 |y::l,k+1,sp,h=>by
  simp at h
  have hd:((k+1)*s)=(row y).length+k*s:=gD
  simp only[Wed,W7,Wbw,Wan];rw[Zab8 hrow z' (l:=l) (k:=k) sp om,hd,Whl,Wd3,Wd4];simp
def Hnd.ldV (row:α→List PV) {s:Nat} (hrow:∀ z,(row z).length=s) (sp:List Value) {l:List α} {j:Int} {z:α} (hz:AM.idx l j=some z) (off0:Nat) (hoff0:off0=j.toNat*s) (ds:List Nat):Hnd P G where
 run o st H:=match o.op with
  |.load t x=>match opd G st x with
   |some (.ptr i off)=>match H[i]? with
    |some (.cells cs)=>if P.cellsOf t+ds.foldl (·+·) 0≤s∧ds.foldl (·+·) 0<s then(ldPV P t ((row z).drop (ds.foldl (·+·) 0))).map λp=>⟨p,H,[.n off,.ps cs],[.n (ds.foldl (·+·) off0),.ps (cel row l sp)]⟩else none
    |_=>none
   |_=>none
  |_=>none
 sound:=by
  intro n0 o st H x hr he
  suffices hT:OpT P G n0 o st H x.p x.H from hT.weak
  split at hr
  rename_i t x ho
  split at hr
  rename_i i off hx
  split at hr
  rename_i cs hb
  split at hr
  simp at hr
  obtain⟨p,hp,rfl⟩:=hr;cases he;obtain⟨_,_,hget⟩:=Zpe hz
  have hfold:∀(ds:List Nat) m,ds.foldl (·+·) m=m+ds.foldl (·+·) 0:=by
   intro ds
   induction ds with
   |nil=>simp
   |cons d ds ih=>grind
  refine Wge ho hx hb ?_
  rw[hfold,hoff0];rw[←(Z6a hrow (sp.map .sc) hget).1,Wdo,Wcs]at hp;exact Zaae (m:=s-ds.foldl (·+·) 0) om om hp;cases hr;cases hr;cases hr
  grind
def Hnd.stV (row:α→List PV) {s:Nat} (hrow:∀ z,(row z).length=s) (sp:List Value) {l:List α} {j:Int} {z:α} (hz:AM.idx l j=some z) (z':α) (off0:Nat) (hoff0:off0=j.toNat*s) (ds:List Nat):Hnd P G where
 run o st H:=match o.op with
  |.store t x y=>match opd G st x,opd G st y with
   |some (.ptr i off),some p=>match H[i]? with
    |some (.cells cs)=>if Nat.beq (P.cellsOf t) p.cells.length=true∧(P.info? t).isSome=true∧p.cells.length+ds.foldl (·+·) 0≤s∧p.cells.all PV.one=true∧PV.idss (λj=>decide (j<i)) p.cells=true then
      some ⟨.sc undef,H.set i (.cells (cel row (l.set j.toNat z') sp)),[.n off,.ps cs,.ps ((row z).take (ds.foldl (·+·) 0)++p.cells++(row z).drop (ds.foldl (·+·) 0+p.cells.length))],[.n (ds.foldl (·+·) off0),.ps (cel row l sp),.ps (row z')]⟩else none
    |_=>none
   |_,_=>none
  |_=>none
 sound:=by
  intro n0 o st H x hr he
  suffices hT:OpT P G n0 o st H x.p x.H from hT.weak
  split at hr
  rename_i t x y ho
  split at hr
  rename_i i off p hx hy
  split at hr
  rename_i cs hb
  split at hr
  rename_i hc;obtain⟨c1,c2,c3,c4,c5⟩:=hc;cases hr
  simp at he
  obtain⟨rfl,rfl,hz'⟩:=he;obtain⟨_,_,hget⟩:=Zpe hz
  have hfold:∀(ds:List Nat) m,ds.foldl (·+·) m=m+ds.foldl (·+·) 0:=by
   intro ds
   induction ds with
   |nil=>simp
   |cons d ds ih=>grind
  obtain⟨g1,g2⟩:=Z6a hrow (sp.map .sc) hget;rw[Waz]at g2
  have hoff:ds.foldl (·+·) off0=j.toNat*s+ds.foldl (·+·) 0:=gD
  refine OpT.asH (OpT.store (P:=P) (G:=G) (n0:=n0) ho hx hy hb (Wd c1) c2 (by unfold AM.cel;omega) c4 c5) ?_
  unfold AM.cel;rw[Zab8 hrow z' (sp.map .sc) (We.1 hget).1,←hz',←g1,hoff]
  generalize (l.map row).flatten++sp.map PV.sc=cs at g2
  generalize ds.foldl (·+·) 0=d at c3
  generalize p.cells=ps at c3
  generalize j.toNat*s=m at g2
  rw[Weh,Wdo,Wbr om,List.take_add (i:=m) (j:=d)]
  have h1:List.drop (m+d+ps.length) cs=List.take (s-(d+ps.length)) (List.drop (m+(d+ps.length)) cs)++List.drop (m+s) cs:=by
   rw[show List.drop (m+s) cs=List.drop (s-(d+ps.length)) (List.drop (m+(d+ps.length)) cs) by rw[Wcs];congr 1;omega,Wat,Whl]
  rw[h1];simp;cases hr;cases hr;cases hr
  grind
end
section
variable {P:Program} {G:Glob} {n0 nt:Nat} {o:Oper} {st:St} {H:List Blk}
def Hnd.q:Hnd P G where
 run o st H:=match o.op with
  |.load t x=>match opd G st x with
   |some (.ptr i off)=>match H[i]? with
    |some (.far cs)=>(ldPV P t (cs.drop off)).map λp=>⟨p,H,[],[]⟩
    |_=>(stdRun P G o st H).map λr=>⟨r.1,r.2,[],[]⟩
   |_=>none
  |.makeFunc (.func f) ⟨[]⟩ captured=>(opdL G st captured.toList).map λps=>⟨.fn f ps,H,[],[]⟩
  |_=>none
 sound:=by
  intro n0 o st H x h _
  suffices hT:OpT P G n0 o st H x.p x.H from hT.weak
  split at h
  ·rename_i ho
   split at h
   ·rename_i hx
    split at h
    ·rename_i hc
     obtain⟨p,h1,rfl⟩:=Wg.1 h;exact OpT.loadF ho hx hc h1
    ·obtain⟨r,h1,rfl⟩:=Wg.1 h
     exact Wf8 h1
   ·cases h
  ·rename_i ho
   obtain⟨ps,h1,rfl⟩:=Wg.1 h;exact OpT.makeFunc ho (Zm5 _ _ h1)
  ·cases h
variable {α:Type}
def bounded {m:Int} {b:Nat} (h0:0≤m) (hm:m≤lim) (hb:b≤65536):b*m≤281474976710656∧Nat.ble m.toNat maxLen=true:=by
 have h1:b*m≤65536*2147483648:=by
  have h2:m≤2147483648:=hm;exact Int.mul_le_mul om h2 h0 dC
 refine⟨om,Nat.ble_eq_true_of_le ?_⟩
 have h2:m≤2147483648:=hm;unfold maxLen;omega
end
section
variable {P:Program} {G:Glob} {n0 nt:Nat} {o:Oper} {st:St} {H:List Blk}
def Hnd.m:Hnd P G where
 run o st H:=match o.op with
  |.alloc _=>(stepMem P G st H o.op).map λr=>⟨r.1,r.2,[],[]⟩
  |.box _ _=>(stepMem P G st H o.op).map λr=>⟨r.1,r.2,[],[]⟩
  |.store t x y=>match stepMem P G st H o.op,storeFx P G st H t x y with
   |some r,_=>some ⟨r.1,r.2,[],[]⟩
   |none,some H'=>some ⟨.sc undef,H',[],[]⟩
   |none,none=>(stdMem P G st H o).map λr=>⟨r.1,r.2,[],[]⟩
  |.build t parts=>match opds G st parts.toList with
   |some ps=>(buildPV P t ps).map λp=>⟨p,H,[],[]⟩
   |none=>none
  |.buildSlice t len parts=>match opds G st parts.toList with
   |some ps=>match litPV P t len ps with
    |some (e,out)=>match PV.idss (λ_=>false) out with
     |true=>some ⟨.own H.length len,H++[.buf (P.cellsOf e) e (rowsOf (P.cellsOf e) len out) false],[],[]⟩
     |false=>none
    |none=>none
   |none=>none
  |_=>none
 sound:=by
  intro n0 o st H x h _
  suffices hT:OpT P G n0 o st H x.p x.H from hT.weak
  split at h
  ·obtain⟨r,h1,rfl⟩:=Wg.1 h
   exact Weg h1
  ·obtain⟨r,h1,rfl⟩:=Wg.1 h
   exact Weg h1
  ·rename_i ho
   split at h
   ·rename_i h1
    cases h;exact Weg h1
   ·rename_i h1
    cases h;exact OpT.storeFx ho h1
   ·obtain⟨r,h1,rfl⟩:=Wg.1 h
    exact Whs h1
  ·rename_i ho
   split at h
   ·rename_i hp
    obtain⟨p,h1,rfl⟩:=Wg.1 h;exact OpT.build ho hp h1
   ·cases h
  ·rename_i ho
   split at h
   ·rename_i hp
    split at h
    ·rename_i hl
     split at h
     ·rename_i hc
      cases h;exact OpT.litOwn ho hp hl hc
     ·cases h
    ·cases h
   ·cases h
  ·cases h
variable {α:Type}
end
section
variable {P:Program} {G:Glob} {n0 nt:Nat} {o:Oper} {st:St} {H:List Blk}
variable {α:Type}
end
section
variable {P:Program} {G:Glob} {n0 nt:Nat} {o:Oper} {st:St} {H:List Blk}
def Hnd.callF {f:FuncId} {fn:Func} {args0:List PV} {H0 H1:List Blk} {p1:PV} (hfn:P.funcs[f]? = some fn) (ws:List Ow) (hc:ACall P G f args0 H0 (λq K=>q=p1∧K=H1)):Hnd P G where
 run o st H:=match o.op with
  |.call cl=>match cl.callee with
   |.value x=>match opd G st x,opdL G st cl.args.toList with
    |some (.fn f' caps),some ps=>match wkArgs P H false fn.params.toList ps ws with
     |some (qs,l,r)=>
      let σ:=ptrsOf (ps++caps)
      if fn.body.isNone=false∧(fn.name== "runtime.NumGoroutine")=false∧σ.Pairwise (·<·)∧H0.all Blk.isCells=true then
       some ⟨p1.ren (renId σ H.length),setAll σ (H1.map (Blk.ren (renId σ H.length))) H,.n f'::.ps (qs++caps)::.bs (H0.map (λk=>some (k.ren (renId σ H.length))))::l,
        .n f::.ps (PV.rens (renId σ H.length) args0)::.bs (σ.map (H[·]?))::r⟩
      else none
     |_=>none
    |_,_=>none
   |_=>none
  |_=>none
 sound:=by
  intro n0 o st H x h he
  suffices hT:OpT P G n0 o st H x.p x.H from hT.weak
  split at h
  rename_i cl ho
  split at h
  rename_i x hcl
  split at h
  rename_i f' caps ps hx hps
  split at h
  rename_i qs l r hw
  simp only  at h
  split at h
  rename_i hcond;obtain⟨c1,c2,c3,c4⟩:=hcond;cases h
  simp at he
  obtain⟨h1,h2,h3,h4⟩:=he;subst h1;exact OpT.call (caps:=caps) ho hcl (.inr hx) hfn c1 c2 (Zm5 _ _ hps) (Whf (Zrm _ _ _ _ hw h4) (Wer _ _ _)) h2 c3 c4 h3 hc rfl rfl;cases h;cases h;cases h;cases h;cases h
variable {α β:Type}
def Hnd.ixE (row:α→List PV) (l:List α) (k:Int) {n:Nat} {j:Int} (h:0≤j∧j<(n:Int)) {m0:Nat} (hm:l.length=m0:=by rfl):Hnd P G where
 run o st H:=match o.op with
  |.indexAddr t x y=>match P.underlying t,opd G st x,opd G st y with
   |some (.array n' e),some (.ept i m q off),some (.sc (.int _ j'))=>match H[i]? with
    |some (.buf _ _ xs _)=>if Nat.beq (P.cellsOf e) 0 then none else some ⟨.ept i m0 k.toNat (off+j.toNat*P.cellsOf e),H,[.n m,.n q,.rs xs,.n n',.i j'],[.n m0,.n k.toNat,.rs (l.map row),.n n,.i j]⟩
    |_=>none
   |_,_,_=>none
  |_=>none
 sound:=by
  intro n0 o st H x hr he;subst hm
  suffices hT:OpT P G n0 o st H x.p x.H from hT.weak
  split at hr
  ·rename_i t x y ho
   split at hr
   ·rename_i n' e i m q off k' j' hu hx hy
    split at hr
    ·rename_i s ty xs sh hb
     split at hr
     ·cases hr
     ·rename_i hz
      simp only[Wn]at hr;subst hr;simp only[Wak,Wd6,T.i.injEq,Wf9,and_true]at he;obtain⟨rfl,rfl,rfl,rfl,rfl⟩:=he;exact OpT.index_ept ho hu (λh0=>hz (by rw[h0];rfl)) hy h.1 h.2 hx hb (by rw[Wt])
    ·cases hr
   ·cases hr
  ·cases hr
def Hnd.stEd (row:α→List PV) {l:List α} {k:Int} {z:α} (hz:AM.idx l k=some z) (nz:Int→α) (off s d:Nat) {n:Nat} {j:Int} (h:0≤j∧j<(n:Int)) {m0:Nat} (hm:l.length=m0:=by rfl):Hnd P G where
 run o st H:=match o.op with
  |.store t x y=>match opd G st x,opd G st y with
   |some (.ept i m q off'),some p=>match H[i]? with
    |some (.buf s' ty xs false)=>if Nat.beq (P.cellsOf t) p.cells.length&&(P.info? t).isSome&&Nat.ble (off+n*s) (row z).length&&Nat.ble (d+p.cells.length) s&&p.cells.all PV.one&&PV.idss (λ_=>false) p.cells then
      some ⟨.sc undef,H.set i (.buf s' ty ((l.set k.toNat (nz j)).map row) false),[.n m,.n q,.rs xs,.n off',.rs ((List.range n).map λq:Nat=>row (nz (q:Int)))],
       [.n m0,.n k.toNat,.rs (l.map row),.n (off+j.toNat*s+d),.rs ((List.range n).map λq:Nat=>(row z).take (off+q*s+d)++p.cells++(row z).drop (off+q*s+d+p.cells.length))]⟩else none
    |_=>none
   |_,_=>none
  |_=>none
 sound:=by
  intro n0 o st H x hr he;subst hm
  suffices hT:OpT P G n0 o st H x.p x.H from hT.weak
  split at hr
  ·rename_i t x y ho
   split at hr
   ·rename_i i m q off' p hx hy
    split at hr
    ·rename_i s' ty xs hb
     split at hr
     ·rename_i hc
      simp only[Wh]at hc;obtain⟨⟨⟨⟨⟨c1,c2⟩,c3⟩,c3'⟩,c4⟩,c5⟩:=hc;simp only[Wn]at hr;subst hr;simp only[Wak,Wf9,Wd6,and_true]at he;obtain⟨rfl,rfl,rfl,rfl,h5⟩:=he
      have hq:j.toNat<n:=om
      have h6:=Zvm h5 hq;rw[show((j.toNat:Nat):Int)=j by omega]at h6;have hm:(j.toNat+1)*s≤n*s:=W9 s hq;rw[Waz,Nat.one_mul]at hm;have c3:=W1 c3;have c3':=W1 c3';exact Whq ho hx hy hb hz c1 c2 (Nat.ble_eq_true_of_le om) c4 c5 h6 rfl rfl
     ·cases hr
    ·cases hr
   ·cases hr
  ·cases hr
end
section
variable {P:Program} {G:Glob} {n0 nt:Nat} {o:Oper} {st:St} {H:List Blk}
end
section
variable {P:Program} {G:Glob} {n0 nt:Nat} {o:Oper} {st:St} {H:List Blk}
def sidx (s:ByteArray) (i:Int):Option Int:=if h:0≤i∧i<s.size then some ((s[i.toNat]'om).toNat:Int)else none
def strR (P:Program) (G:Glob) (s:ByteArray) (i z:Int) (o:Oper) (st:St) (H:List Blk):Option Out:=match o.op with
 |.index t x y=>match P.underlying t,opd G st x,opd G st y with
  |some .string,some (.sc v),some (.sc (.int _ i'))=>some ⟨.sc (.int .u8 z),H,[.v v,.i i'],[.v (.string s),.i i]⟩
  |_,_,_=>none
 |_=>none
def Hnd.str {s:ByteArray} {i z:Int} (hz:sidx s i=some z):Hnd P G where
 run:=strR P G s i z
 sound:=by
  intro n0 o st H x hr he
  unfold strR at hr
  suffices hT:OpT P G n0 o st H x.p x.H from hT.weak
  split at hr
  rename_i t x y ho
  split at hr
  rename_i v k i' hu hx hy;cases hr
  simp at he
  obtain⟨rfl,rfl⟩:=he
  refine W4 λc a w β hn hr=>⟨.int .u8 z,?_,by simp  [VR]⟩
  have g1:=hr.opd hx;have g2:=hr.opd hy
  simp  [VR]at g1 g2
  unfold sidx at hz
  split at hz
  rename_i hi
  simp at hz
  have:=run_index_string (P:=P) w t s k i' hu;rw[dif_pos hi,hz]at this;simp[execOp,ho,g1,g2,this];cases hz;cases hr
  grind
def Zaf4 (l:List Int):(l.map λn=>[PV.sc (.int .u8 n)]).flatten=(l.map (Value.int .u8)).map PV.sc:=by
 induction l with
 |nil=>rfl
 |cons n l ih=>grind
def Whj:=@run_convert_bytes_string
def OpT.toStr {l:List Int} {s d e:TypeId} {x:Operand} {q:PV} (ho:o.op=.convert s d x) (hs:P.underlying s=some (.slice e)) (hd:P.underlying d=some .string) (he':P.underlying e=some (.int .u8)) (hx:opd G st x=some q)
  (hsrc:Src H 1 q (l.map λn=>[PV.sc (.int .u8 n)])):OpT P G n0 o st H (.sc (.string (strOf l))) H:=by
 refine W4 λc a w β hn hr=>⟨.string (strOf l),?_,by simp  [VR]⟩
 rcases Z3e hr hsrc (hr.opd hx)with⟨h1,ad,cap,h2⟩|⟨b,off,cap,vals,h2,h3,h4,h5⟩
 have hl:=by simpa using h1
 subst hl;have h7:=Whj (P:=P) w s d e ad 0 cap hs he' hd;cases ad;simp[Conv.bytesToString]at h7;simp[execOp,ho,h2,h7,strOf];rename_i ad;rw[run_bytesToString (P:=P) w ad 0 cap [] (Wfu (P:=P) w ad [] sM)]at h7;simp[execOp,ho,h2,h7,strOf];have hfl:=Zaf4 l;rw[hfl]at h3;have hvals:=Wgl _ _ h3;subst hvals
 have hld:=by
  have:=Wfu (P:=P) w ⟨b,off,none⟩ (l.map (Value.int .u8)) h5
  rwa [Wt]at this
 have h7:=run_bytesToString (P:=P) w ⟨b,off,none⟩ l.length cap l hld;rw[←Whj w s d e _ _ _ hs he' hd]at h7;simp[execOp,ho,h2,h7,strOf]
def Hnd.toStr (l:List Int):Hnd P G where
 run o st H:=match o.op with
  |.convert s d x=>match P.underlying s,P.underlying d,opd G st x with
   |some (.slice e),some .string,some q=>match P.underlying e,srcT H 1 q with
    |some (.int .u8),some (xs,l1,r1)=>some ⟨.sc (.string (strOf l)),H,.rs xs::l1,.rs (l.map λn=>[PV.sc (.int .u8 n)])::r1⟩
    |_,_=>none
   |_,_,_=>none
  |_=>none
 sound:=by
  intro n0 o st H x hr he
  suffices hT:OpT P G n0 o st H x.p x.H from hT.weak
  split at hr
  rename_i s d x ho
  split at hr
  rename_i e q hs hd hx
  split at hr
  rename_i xs l1 r1 he' hq;cases hr
  simp at he
  obtain⟨rfl,hl1⟩:=he;exact OpT.toStr ho hs hd he' hx (Zajs hq hl1);cases hr;cases hr
  grind
end
section
variable {P:Program} {G:Glob} {n0 nt:Nat} {o:Oper} {st:St} {H:List Blk}
mutual
theorem OV.ren_same {f:Nat→Nat}:∀(o:OV),o.ids (λ_=>false)=true→o.ren f=o
 |.pv p,h=>by
  simp only[OV.ids]at h;have:=PV.rens_same (f:=f) (q:=λ_=>false) (λ_ hf=>by cases hf) [p] (by simp only[PV.idss,h,Bool.and_self]);simp only[PV.rens,List.cons.injEq,and_true]at this;simp only[OV.ren,this]
 |.own _ _ _ cs,h=>by
  simp only[OV.ids]at h;simp only[OV.ren,OV.rens_same cs h]
theorem OV.rens_same {f:Nat→Nat}:∀(os:List OV),OV.idss (λ_=>false) os=true→OV.rens f os=os
 |[],_=>by simp only[OV.rens]
 |o::os,h=>by
  simp only[OV.idss,Bool.and_eq_true]at h;simp only[OV.rens,OV.ren_same o h.1,OV.rens_same os h.2]
end
def Wgf:=@OV.rens_same
def closedH:List Blk→Prop
 |[]=>True
 |.cells cs::ks=>PV.idss (λ_=>false) cs=true∧closedH ks
 |.buf ..::ks=>closedH ks
 |.map ..::_=>False
 |.far _::_=>False
 |.fb ..::_=>False
 |.tr _ _ _ cs::ks=>OV.idss (λ_=>false) cs=true∧closedH ks
 |.dead::ks=>closedH ks
 |.fm _::ks=>closedH ks
 |.iter ..::_=>False
def closedH.n:closedH []:=trivial
def We8:=@closedH.n
def closedH.t {t s n:Nat} {cs:List OV} {ks:List Blk} (h:OV.idss (λ_=>false) cs=true) (hk:closedH ks):closedH (.tr t s n cs::ks):=⟨h,hk⟩
def Znz (f:Nat→Nat):∀ {H:List Blk},closedH H→H.map (Blk.ren f)=H
 |[],_=>rfl
 |.cells cs::ks,h=>by
  simp  [W7,Blk.ren,We5 (f:=f) (q:=λ_=>false) (λ_ hf=>gD) cs h.1,Znz f h.2]
 |.buf ..::ks,h=>by
  simp  [W7,Blk.ren,Znz f (H:=ks) h]
 |.map ..::_,h=>h.elim
 |.far _::_,h=>h.elim
 |.fb ..::_,h=>h.elim
 |.tr _ _ _ cs::ks,h=>by
  simp  [W7,Blk.ren,Wgf cs h.1,Znz f h.2]
 |.dead::ks,h=>by
  simp  [W7,Blk.ren,Znz f (H:=ks) h]
 |.fm _::ks,h=>by
  simp  [W7,Blk.ren,Znz f (H:=ks) h]
 |.iter ..::_,h=>h.elim
def Hnd.callC {f:FuncId} {fn:Func} {args0:List PV} {H0 H1:List Blk} {p1:PV} (hfn:P.funcs[f]? = some fn) (ws:List Ow) (h0:closedH H0) (h1:closedH H1) (hc:ACall P G f args0 H0 (λq K=>q=p1∧K=H1)):Hnd P G where
 run o st H:=match o.op with
  |.call cl=>match cl.callee with
   |.value x=>match opd G st x,opdL G st cl.args.toList with
    |some px,some ps=>match wkArgs P H false fn.params.toList ps ws with
     |some (qs,l,r)=>
      let σ:=ptrsOf ps
      if fn.body.isNone=false∧(fn.name== "runtime.NumGoroutine")=false∧σ.Pairwise (·<·)∧H0.all Blk.isCells=true then
       some ⟨p1.ren (renId σ H.length),setAll σ H1 H,.p px::.ps qs::.bs (H0.map some)::l,.p (.sc (.func (.func f) #[] #[]))::.ps (PV.rens (renId σ H.length) args0)::.bs (σ.map (H[·]?))::r⟩
      else none
     |_=>none
    |_,_=>none
   |_=>none
  |_=>none
 sound:=by
  intro n0 o st H x h he
  suffices hT:OpT P G n0 o st H x.p x.H from hT.weak
  split at h
  rename_i cl ho
  split at h
  rename_i x hcl
  split at h
  rename_i px ps hx hps
  split at h
  rename_i qs l r hw
  simp only  at h
  split at h
  rename_i hcond;obtain⟨c1,c2,c3,c4⟩:=hcond;cases h
  simp at he
  obtain⟨h1',h2,h3,h4⟩:=he;subst h1'
  refine OpT.call (caps:=[]) ho hcl (.inl ⟨hx,rfl⟩) hfn c1 c2 (Zm5 _ _ hps) (by rw[War];exact Zrm _ _ _ _ hw h4) h2 c3 c4 ?_ hc rfl ?_
  rw[←h3];have:=congrArg (List.map some) (Znz (renId (ptrsOf ps) H.length) h0);rw[Wa3]at this;exact this;rw[Znz _ h1];cases h;cases h;cases h;cases h;cases h
end
section
variable {P:Program} {G:Glob} {n0 nt:Nat} {o:Oper} {st:St} {H:List Blk}
variable {α:Type}
end
section
variable {P:Program} {G:Glob} {n0 nt:Nat} {o:Oper} {st:St} {H:List Blk}
def OpT.cat {t t':TypeId} {x y:Operand} {a b:ByteArray} (ho:o.op=.binOp .add t x y t') (hx:opd G st x=some (.sc (.string a))) (hy:opd G st y=some (.sc (.string b))) (h:a.size+b.size≤9223372036854775807):OpT P G n0 o st H (.sc (.string (a++b))) H:=
 W4 λc ac w β hn hr=>by
  have h1:=hr.opd hx;have h2:=hr.opd hy
  simp  [VR]at h1 h2
  exact⟨.string (a++b),by simp[execOp,ho,h1,h2,eqGuard,binOp,run_string_add_sum w a b h],by simp  [VR]⟩
def Hnd.cat {a b:ByteArray} (hb:a.size+b.size≤9223372036854775807):Hnd P G where
 run o st H:=match o.op with
  |.binOp .add _ x y _=>match opd G st x,opd G st y with
   |some (.sc (.string a')),some (.sc (.string b'))=>some ⟨.sc (.string (a++b)),H,[.p (.sc (.string a')),.p (.sc (.string b'))],[.p (.sc (.string a)),.p (.sc (.string b))]⟩
   |_,_=>none
  |_=>none
 sound:=by
  intro n0 o st H x h he
  suffices hT:OpT P G n0 o st H x.p x.H from hT.weak
  split at h
  rename_i t x y t' ho
  split at h
  rename_i a' b' hx hy;cases h;cases he;exact OpT.cat ho hx hy hb;cases h;cases h
def Hnd.toStrO (l:List Int):Hnd P G where
 run o st H:=match o.op with
  |.convert s d x=>match P.underlying s,P.underlying d,opd G st x with
   |some (.slice e),some .string,some (.own i m)=>match P.underlying e,H[i]? with
    |some (.int .u8),some (.buf s' _ xs _)=>some ⟨.sc (.string (strOf l)),H,[.rs xs,.n m,.n s'],[.rs (l.map λn=>[PV.sc (.int .u8 n)]),.n l.length,.n 1]⟩
    |_,_=>none
   |_,_,_=>none
  |_=>none
 sound:=by
  intro n0 o st H x hr he
  suffices hT:OpT P G n0 o st H x.p x.H from hT.weak
  split at hr
  rename_i s d x ho
  split at hr
  rename_i e i m hs hd hx
  split at hr
  rename_i s' t' xs sh he' hb;cases hr;cases he
  refine OpT.toStr ho hs hd he' hx ?_
  have:=Src.own (H:=H) i t' (l.map λn=>[PV.sc (.int .u8 n)]) sh hb;rw[Wt]at this;exact this;cases hr;cases hr
  grind
end
section
variable {P:Program} {G:Glob} {n0 nt:Nat} {o:Oper} {st:St} {H:List Blk} {c:Ctx} {β:List Bnd} {a:Act} {w:World}
end
section
variable {P:Program} {G:Glob} {α:Type}
end
section
variable {P:Program} {G:Glob} {n0 nt:Nat} {o:Oper} {st:St} {H:List Blk} {Q:Exit→St→List Blk→Prop}
def Zab9 {c:Ctx} {β:List Bnd} {w:World} {i:Nat} {k k':Blk} (hk:H[i]? = some k) (hf:∀ e b hi,k'.free e b hi↔k.free e b hi):stab c β (H.set i k') w=stab c β H w:=by
 funext b hi
 simp  [stab]
 grind
def RelB.re {c:Ctx} {β:List Bnd} {a:Act} {w:World} (h:RelB G c β st H a w) {i:Nat} {k k':Blk} (hk:H[i]? = some k) (hf:∀ e b hi,k'.free e b hi↔k.free e b hi) (hat:∀ e,k'.at e=k.at e) (hin:k.isIn=true→k'.isIn=true)
  (hblk:∀ e,β[i]? = some e→BlkR (stab c β H w) β w c.w0.heap.size i e k→BlkR (stab c β H w) β w c.w0.heap.size i e k'):RelB G c β st (H.set i k') a w:=by
 have hs:=Zab9 (c:=c) (β:=β) (w:=w) hk hf
 have hx:Ext (stab c β H w) w (stab c β (H.set i k') w) w:=by rw[hs];exact Wdu _ _
 have key:∀(j:Nat) l,(H.set i k')[j]? = some l→∃ l',H[j]? = some l'∧∀ e,l'.at e=l.at e:=λj l hj=>by
  grind
 refine h.move hx (W0 _ _) (by simp[h.len]) h.pre (λj e l h1 h2=>?_) (λj j' f f' l l' b hij h1 h2 h3 h4 h5 h6=>?_) (λj f l b h0 h1 h2 h3=>?_) (λj hj=>?_) h.frm
 rw[hs]
 by_cases hji:j=i
 subst hji;rw[Wae (We.1 hk).1]at h2;cases h2;exact hblk e h1 (h.blk j e k h1 hk);rw[Wbi (Wcf hji)]at h2;exact h.blk j e l h1 h2;obtain⟨l1,g1,g2⟩:=key j l h2;obtain⟨l2,g3,g4⟩:=key j' l' h4;exact h.inj j j' f f' l1 l2 b hij h1 g1 h3 g3 sA sA;obtain⟨l1,g1,g2⟩:=key j l h2;exact h.loc j f l1 b h0 h1 g1 sA;obtain⟨l,hc,hcf⟩:=h.cel j hj
 grind
section typed
variable {K V:Type} {kv:K→Value} {vv:V→Value} {eqk:K→K→Bool} {kt:TypeId}
def entF (kv:K→Value) (vv:V→Value) (x:K×V):Value×Value:=(kv x.1,vv x.2)
end typed
end
section
variable {P:Program} {G:Glob} {n0 nt:Nat} {o:Oper} {st:St} {H:List Blk} {Q:Exit→St→List Blk→Prop}
variable {K V:Type} {kv:K→Value} {vv:V→Value} {eqk:K→K→Bool} {kt:TypeId}
def OpW.re {p:PV} {H1:List Blk} {i:Nat} {k k':Blk} (h:OpW P G n0 o st H p H1) (hk:H1[i]? = some k) (hf:∀ e b hi,k'.free e b hi↔k.free e b hi) (hat:∀ e,k'.at e=k.at e) (hin:k.isIn=true→k'.isIn=true)
  (hblk:∀ S β w base e,BlkR S β w base i e k→BlkR S β w base i e k'):OpW P G n0 o st H p (H1.set i k'):=λc a w β h0 hr=>
 Zjp (h c a w β h0 hr) λv w' ⟨β',h1,h2⟩=>⟨β',h1.re hk hf hat hin λe _=>hblk _ _ _ _ e,by rw[Zab9 hk hf];omega⟩
def Hnd.mkM:Hnd P G where
 run o _ H:=match o.op with
  |.makeMap _ none=>some ⟨.mp H.length,H++[.fm []],[],[]⟩
  |_=>none
 sound:=by
  intro n0 o st H x hr _
  split at hr
  rename_i t ho;cases hr
  have h:=(OpT.makeMap (P:=P) (G:=G) (n0:=n0) (st:=st) (H:=H) ho).weak.re (i:=H.length) (k:=.map [] 0) (k':=.fm []) sM (λ_ _ _=>Wc6) (λ_=>rfl) (λ_=>rfl) (λS β w base e hb=>by
   obtain⟨arr,h1,h2,_⟩:=hb
   have ha:=by simpa using h2
   exact⟨arr,0,h1,gD,gD,sA,sM⟩)
  have e:(H++[Blk.map [] 0]).set H.length (.fm [])=H++[.fm []]:=by
   grind
  rw[e]at h;exact h
  grind
def Zaca (st:St) (k:Nat) (p:PV):(st.put k p).get k=some p:=by simp[St.put,St.get]
def Zst {α:Type} {j k:Nat} (h:j≠k):∀ l:List (Nat×α),(l.filter λx=>x.1 !=k).lookup j=l.lookup j
 |[]=>rfl
 |x::l=>by
  rw[Wb2]
  by_cases hx:x.1=k
  have hj:(j==x.1)=false:=gD
  have e:(x.1 !=k)=false:=gD
  rw[e];simp  [Waa,if_false,Zst h l,List.lookup,hj]
  have e:(x.1 !=k)=true:=gD
  rw[e];simp  [if_true,List.lookup]
  cases j==x.1 with
  |true=>rfl
  |false=>exact Zst h l
def Z7i (st:St) {j k:Nat} (p:PV) (h:j≠k):(st.put k p).get j=st.get j:=by
 have e:(j==k)=false:=gD
 simp  [St.put,St.get,List.lookup,e];exact Zst h st
end
section
variable {P:Program} {G:Glob} {n0 nt:Nat} {o:Oper} {st:St} {H:List Blk} {Q:Exit→St→List Blk→Prop}
variable {K V:Type} {kv:K→Value} {vv:V→Value} {eqk:K→K→Bool} {kt:TypeId}
open Classical in
def Hnd.ptrNil:Hnd P G where
 run o st H:=match o.op with
  |.binOp op t x y _=>match P.underlying t,opd G st x,opd G st y with
   |some (.pointer _),some (.ptr _ _),some (.sc (.pointer none))=>match op with
    |.eql=>some ⟨.sc (.bool false),H,[],[]⟩
    |.neq=>some ⟨.sc (.bool true),H,[],[]⟩
    |_=>none
   |_,_,_=>none
  |_=>none
 sound:=by
  intro n0 o st H z hr _
  split at hr
  rename_i op t x y t' ho
  split at hr
  rename_i e i off hu hx hy
  cases op with
  |eql=>cases hr;exact(OpT.ptrNil ho hu hx trivial hy).weak
  |neq=>cases hr;exact(OpT.ptrNotNil ho hu hx trivial hy).weak
  |_=>grind
  cases hr
  grind
variable {α:Type}
def Hnd.stSh (row:α→List PV) (l:List α):Hnd P G where
 run o st H:=match o.op with
  |.store t x y=>match opd G st x,opd G st y with
   |some (.ptr i off),some (.own j n)=>match H[i]?,H[j]? with
    |some (.cells cs),some (.buf s _ xs true)=>
     let cs':=cs.take off++[.sl s (l.map row)]++cs.drop (off+1)
     if Nat.beq (P.cellsOf t) 1&&(P.info? t).isSome&&Nat.ble (off+1) cs.length&&PV.idss (λj=>decide (j<i)) cs' then some ⟨.sc undef,H.set i (.cells cs'),[.n n,.rs xs],[.n l.length,.rs (l.map row)]⟩else none
    |_,_=>none
   |_,_=>none
  |_=>none
 sound:=by
  intro n0 o st H z hr he
  split at hr
  rename_i t x y ho
  split at hr
  rename_i i off j n hx hy
  split at hr
  rename_i cs s ty xs hc hb;simp only[]at hr
  split at hr
  rename_i hcc;simp only[Wh]at hcc;obtain⟨⟨⟨c1,c2⟩,c3⟩,c4⟩:=hcc;cases hr;cases he;intro c a w β h0 hr;have hv:=hr.opd hy;have hw:Wk H false (.own j l.length) (.sl s (l.map row)):=Wk.ownT hb (.inr rfl);have hv':=hr.wk hv hw;have g1:=hr.opd hx;obtain⟨e,h2,h3⟩:=g1;obtain⟨h4,vs,ty',h5,h6⟩:=hr.blk i e _ h2 hc;have c1:=Wd c1;have c3:=W1 c3;have h1:=VR.one (p:=.sl s (l.map row)) rfl hv';have hcy:=Zth h1;have hlv:=Waw _ _ h6;have hrun:=Zhy P e.b off ty' (a.eval y).cells.toList 0 vs w h5 gD gD;obtain⟨ti,hti⟩:=Wap.1 c2
  have hsz:(sizeOf t).run P w=.ok (a.eval y).cells.size w:=by
   rw[Wcg w hti]
   grind
  have hex:(execOp a.eval o).run P w=.ok .skip (w.setRow e.b (vs.toList.take (off+0)++(a.eval y).cells.toList++vs.toList.drop (off+0+(a.eval y).cells.toList.length)).toArray):=by
   simp only[execOp,Instr.storeAt,Instr.sureAddr,storeVar];simp_all
  simp only[wpv,hex]
  have g2:VRs (stab c β H w) β w [.sl s (l.map row)] (a.eval y).cells.toList:=by
   rw[hcy];simp only[VRs,and_true];omega
  have hlu:=Waw _ _ g2;have hwr:=hr.write h2 hc (us:=(vs.toList.take (off+0)++(a.eval y).cells.toList++vs.toList.drop (off+0+(a.eval y).cells.toList.length)).toArray) (cs':=cs.take off++[.sl s (l.map row)]++cs.drop (off+1)) ?_ c4 gD;exact⟨β,hwr.1,by simp only[VR]⟩;rw[hlu];exact VRs.append _ _ _ _ (VRs.append _ _ _ _ (Wdl _ _ _ h6) g2) (Wdm _ _ _ h6);cases hr;cases hr;cases hr
  grind
end
section
variable {P:Program} {G:Glob} {α:Type}
def Hnd.stShA (row:α→List PV) (l:List α):Hnd P G where
 run o st H:=match o.op with
  |.store _ _ y=>match opd G st y with
   |some (.own j _)=>match H[j]? with
    |some (.buf s ty xs _)=>(Hnd.stSh (P:=P) (G:=G) row l).run o st (H.set j (.buf s ty xs true))
    |_=>none
   |_=>none
  |_=>none
 sound:=by
  intro n0 o st H z hr he
  split at hr
  split at hr
  split at hr
  rename_i hb;intro c a w β h0 hrl;exact(Hnd.stSh (P:=P) (G:=G) row l).sound hr he c a w β h0 (hrl.share hb);cases hr;cases hr
  grind
variable {n0 nt:Nat} {st:St} {H:List Blk} {Q:Exit→St→List Blk→Prop}
end
def BExt.trans {β β1 β2:List Bnd} (h:BExt (λ_=>true) β β1) (k:BExt (λ_=>true) β1 β2):BExt (λ_=>true) β β2:=λi e _ he=>by
 obtain⟨e1,a1,a2,a3,a4,a5⟩:=h i e rfl he;obtain⟨e2,b1,b2,b3,b4,b5⟩:=k i e1 rfl a1
 grind
def Wdx:=@BExt.trans
section
variable {S:Nat→Nat→Prop} {β:List Bnd} {w:World} {base:Nat}
def OVRs.app:∀ os1 os2 us1 us2 b1 b2,OVRs S β w base os1 us1 b1→OVRs S β w base os2 us2 b2→OVRs S β w base (os1++os2) (us1++us2) (b1++b2)
 |[],_,[],_,_,_,h,k=>by cases h;exact k
 |o::os1,os2,u::us1,us2,b1,b2,h,k=>by
  obtain⟨d1,d2,h1,h2,rfl⟩:=h;exact⟨d1,d2++b2,h1,OVRs.app os1 os2 us1 us2 d2 b2 h2 k,gD⟩
 |[],_,_::_,_,_,_,h,_=>by simp  [OVRs]at h
 |_::_,_,[],_,_,_,h,_=>by simp  [OVRs]at h
def Wfc:=@OVRs.app
def OVRs.split:∀ os1 os2 us bs,OVRs S β w base (os1++os2) us bs→∃ us1 us2 b1 b2,us=us1++us2∧bs=b1++b2∧OVRs S β w base os1 us1 b1∧OVRs S β w base os2 us2 b2
 |[],os2,us,bs,h=>⟨[],us,[],bs,rfl,rfl,by simp  [OVRs],h⟩
 |o::os1,os2,u::us,bs,h=>by
  obtain⟨d1,d2,h1,h2,rfl⟩:=h;obtain⟨us1,us2,e1,e2,rfl,rfl,h3,h4⟩:=OVRs.split os1 os2 us d2 h2;exact⟨u::us1,us2,d1++e1,e2,rfl,gD,by simp  [OVRs];grind,h4⟩
 |_::_,_,[],_,h=>by simp  [Wds,OVRs]at h
def Wdy:=@OVRs.split
def OVRs.pvs:∀ ps us,VRs S β w ps us→OVRs S β w base (ps.map .pv) us []
 |[],[],_=>by simp  [Wbt,OVRs]
 |p::ps,u::us,h=>⟨[],[],⟨h.1,rfl⟩,OVRs.pvs ps us h.2,rfl⟩
 |[],_::_,h=>by simp  [VRs]at h
 |_::_,[],h=>by simp  [VRs]at h
def Why:=@OVRs.pvs
def OVRs.len:∀ os us bs,OVRs S β w base os us bs→os.length=us.length
 |[],[],_,_=>rfl
 |o::os,u::us,bs,h=>by
  obtain⟨_,b2,_,h2,_⟩:=h;simp  [Waj,OVRs.len os us b2 h2]
 |[],_::_,_,h=>by simp  [OVRs]at h
 |_::_,[],_,h=>by simp  [OVRs]at h
def Wfz:=@OVRs.len
end
def Zaju {α:Type} (l1 l2:List α) (x y:α):(l1++x::l2).set l1.length y=l1++y::l2:=by
 simp
def Z0p {α:Type} {l:List α} {q:Nat} {x:α} (h:l[q]? = some x):∃ l1 l2,l=l1++x::l2∧l1.length=q:=by
 obtain⟨hq,rfl⟩:=We.1 h
 refine⟨l.take q,l.drop (q+1),?_,gD⟩
 simp_all
mutual
def FZ:OV→PV→Prop
 |.pv p,q=>q=p∧p.ids (λ_=>false)=true
 |.own _ s n cs,q=>∃ xs:List (List PV),q=.sl s xs∧xs.length=n∧(∀ x∈xs,x.length=s)∧FZs cs xs.flatten
def FZs:List OV→List PV→Prop
 |[],[]=>True
 |o::os,p::ps=>FZ o p∧FZs os ps
 |_,_=>False
end
mutual
theorem FZ.vr {S:Nat→Nat→Prop} {β:List Bnd} {w:World} {base:Nat}:∀(o:OV) (p:PV) (u:Value) (bs:List Nat),(∀ b∈bs,∀ hi,S b hi)→OVR S β w base o u bs→FZ o p→VR S [] w p u
 |.pv p,q,u,bs,_,h,k=>by
  simp only[FZ]at k;simp only[OVR]at h;obtain⟨rfl,hc⟩:=k;exact VR.ext (Ext.refl _ _) (q:=λ_=>false) (λ_ _ hq _=>by cases hq) q u hc h.1
 |.own t s n cs,q,u,bs,hS,h,k=>by
  simp only[FZ]at k;simp only[OVR]at h;obtain⟨xs,rfl,rfl,hls,hk⟩:=k;obtain⟨vals,bs',⟨h1,h2⟩,h3,rfl⟩:=h;have h4:=FZs.vr cs xs.flatten vals bs' (λb hb=>hS b (by simp[hb])) h3 hk;simp only[VR]
  rcases h2 with⟨h7,h8⟩|⟨g,cap,cur,e1,e2,e3,e4,e5,e6,e7⟩
  ·have:xs=[]:=List.eq_nil_of_length_eq_zero h8
   subst this;exact⟨none,0,h7,Nat.le_refl _,.inl rfl⟩
  ·refine⟨some ⟨g,0,none⟩,cap,e1,e4,.inr ⟨g,0,rfl,hS g (by rw[e1];simp[Value.ownBlock]) _,?_⟩⟩
   refine Zib xs vals 0 hls h4 λj u hj=>?_
   rw[Zga e3];rw[←e7,List.getElem?_take]at hj
   split at hj
   ·simpa using hj
   ·cases hj
theorem FZs.vr {S:Nat→Nat→Prop} {β:List Bnd} {w:World} {base:Nat}:∀(os:List OV) (ps:List PV) (us:List Value) (bs:List Nat),(∀ b∈bs,∀ hi,S b hi)→OVRs S β w base os us bs→FZs os ps→VRs S [] w ps us
 |[],[],[],_,_,_,_=>by simp only[VRs]
 |o::os,p::ps,u::us,bs,hS,h,k=>by
  simp only[FZs]at k;simp only[OVRs]at h;obtain⟨b1,b2,h1,h2,rfl⟩:=h;simp only[VRs];exact⟨FZ.vr o p u b1 (λb hb=>hS b (by simp[hb])) h1 k.1,FZs.vr os ps us b2 (λb hb=>hS b (by simp[hb])) h2 k.2⟩
 |[],[],_::_,_,_,h,_=>by simp only[OVRs]at h
 |_::_,_,[],_,_,h,_=>by simp only[OVRs]at h
 |[],_::_,_,_,_,_,k=>by simp only[FZs]at k
 |_::_,[],_::_,_,_,_,k=>by simp only[FZs]at k
end
def FZs.app:∀ os1 os2 ps1 ps2,FZs os1 ps1→FZs os2 ps2→FZs (os1++os2) (ps1++ps2)
 |[],_,[],_,_,k=>k
 |o::os1,os2,p::ps1,ps2,h,k=>⟨h.1,FZs.app os1 os2 ps1 ps2 h.2 k⟩
 |[],_,_::_,_,h,_=>by simp  [FZs]at h
 |_::_,_,[],_,h,_=>by simp  [FZs]at h
def FZs.pvs:∀ ps ,PV.idss (λ_=>false) ps=true→FZs (ps.map .pv) ps
 |[],_=>by simp only[Wbt,FZs]
 |p::ps,h=>by
  simp only[PV.idss,Wh]at h;simp only[W7,FZs,FZ];exact⟨⟨trivial,h.1⟩,FZs.pvs ps h.2⟩
section
variable {P:Program} {G:Glob} {c:Ctx} {β:List Bnd} {st:St} {H:List Blk} {a:Act} {w:World} {n0 nt:Nat} {o:Oper}
def RelB.notIn (h:RelB G c β st H a w) {i:Nat} {k:Blk} (hk:H[i]? = some k) (hi:k.isIn=false):c.β0.length≤i:=by
 rcases Wcx i c.β0.length with hlt|hge
 obtain⟨cs,hc,hcf⟩:=h.cel i hlt;rw[hk]at hc;cases hc;rw[hi]at hcf;cases hcf;omega
def RelB.one (h:RelB G c β st H a w) {i:Nat} {e:Bnd} {k k':Blk} {bs:List Nat} (he:β[i]? = some e) (hk:H[i]? = some k) (hi:k.isIn=false)
  (hat:∀ b,k'.at ⟨e.b,e.v,e.n,e.s,bs⟩ b→k.at e b) (hfree:∀ b hi,k.free e b hi→k'.free ⟨e.b,e.v,e.n,e.s,bs⟩ b hi)
  (hb:Ext (stab c β H w) w (stab c (β.set i ⟨e.b,e.v,e.n,e.s,bs⟩) (H.set i k') w) w→BExt (λ_=>true) β (β.set i ⟨e.b,e.v,e.n,e.s,bs⟩)→BlkR (stab c (β.set i ⟨e.b,e.v,e.n,e.s,bs⟩) (H.set i k') w) (β.set i ⟨e.b,e.v,e.n,e.s,bs⟩) w c.w0.heap.size i ⟨e.b,e.v,e.n,e.s,bs⟩ k') :
  RelB G c (β.set i ⟨e.b,e.v,e.n,e.s,bs⟩) st (H.set i k') a w∧BExt (λ_=>true) β (β.set i ⟨e.b,e.v,e.n,e.s,bs⟩)∧Ext (stab c β H w) w (stab c (β.set i ⟨e.b,e.v,e.n,e.s,bs⟩) (H.set i k') w) w:=by
 have hn0:=h.notIn hk hi
 have key:∀ j f l,(β.set i ⟨e.b,e.v,e.n,e.s,bs⟩)[j]? = some f→(H.set i k')[j]? = some l→(j≠i∧β[j]? = some f∧H[j]? = some l)∨(j=i∧f=⟨e.b,e.v,e.n,e.s,bs⟩∧l=k'):=λj f l hf hl=>by
  grind
 have hx:Ext (stab c β H w) w (stab c (β.set i ⟨e.b,e.v,e.n,e.s,bs⟩) (H.set i k') w) w:=by
  refine⟨λb hi hs=>?_,λ_ _ _ _ _ _ h=>h⟩
  rcases hs with hs|⟨h1,h2,h3⟩
  exact .inl hs
  refine .inr ⟨h1,h2,λj f l hf hl=>?_⟩
  grind
 have hbx:BExt (λ_=>true) β (β.set i ⟨e.b,e.v,e.n,e.s,bs⟩):=by
  intro j f _ hf
  grind
 refine⟨h.move hx hbx (by simp[h.len]) ?_ (λj f l hf hl=>?_) (λj j' f f' l l' b hij hf hl hf' hl' hb1 hb2=>?_) (λj f l b h0 hf hl hb1=>?_) (λj hj=>?_) h.frm,hbx,hx⟩
 obtain⟨γ,hγ⟩:=h.pre
 refine⟨γ.set (i-c.β0.length) ⟨e.b,e.v,e.n,e.s,bs⟩,?_⟩
 rw[hγ,Wbe _ _ hn0]
 rcases key j f l hf hl with⟨_,g1,g2⟩|⟨rfl,rfl,rfl⟩
 exact BlkR.keep hx hbx (λ_ _=>rfl) (h.blk j f l g1 g2);exact hb hx hbx
 rcases key j f l hf hl with⟨g0,g1,g2⟩|⟨rfl,rfl,rfl⟩<;>rcases key j' f' l' hf' hl' with⟨g0',g3,g4⟩|⟨rfl,rfl,rfl⟩
 exact h.inj j j' f f' l l' b hij g1 g2 g3 g4 hb1 hb2;exact h.inj j j' f e l k b hij g1 g2 he hk hb1 (hat b hb2);exact h.inj j j' e f' k l' b hij he hk g3 g4 (hat b hb1) hb2;exact hij rfl
 rcases key j f l hf hl with⟨g0,g1,g2⟩|⟨rfl,rfl,rfl⟩
 exact h.loc j f l b h0 g1 g2 hb1;exact h.loc j e k b h0 he hk (hat b hb1);obtain⟨cs,hc,hcf⟩:=h.cel j hj
 have hne:j≠i:=λe=>om
 exact⟨cs,by rw[Wbi (Wcf hne)];omega,hcf⟩
def RelB.two (h:RelB G c β st H a w) {i j:Nat} {e f:Bnd} {k l k' l':Blk} {bs ds:List Nat} (hij:i≠j) (he:β[i]? = some e) (hk:H[i]? = some k) (hf:β[j]? = some f) (hl:H[j]? = some l) (hi:k.isIn=false) (hj:l.isIn=false)
  (hat1:∀ b,k'.at ⟨e.b,e.v,e.n,e.s,bs⟩ b→k.at e b∨l.at f b) (hat2:∀ b,l'.at ⟨f.b,f.v,f.n,f.s,ds⟩ b→k.at e b∨l.at f b) (hdis:∀ b,k'.at ⟨e.b,e.v,e.n,e.s,bs⟩ b→l'.at ⟨f.b,f.v,f.n,f.s,ds⟩ b→False)
  {β':List Bnd} {H':List Blk} (hβ':β'=(β.set i ⟨e.b,e.v,e.n,e.s,bs⟩).set j ⟨f.b,f.v,f.n,f.s,ds⟩) (hH':H'=(H.set i k').set j l')
  (hfree:∀ b hi,k.free e b hi→l.free f b hi→k'.free ⟨e.b,e.v,e.n,e.s,bs⟩ b hi∧l'.free ⟨f.b,f.v,f.n,f.s,ds⟩ b hi)
  (hb1:Ext (stab c β H w) w (stab c β' H' w) w→BExt (λ_=>true) β β'→BlkR (stab c β' H' w) β' w c.w0.heap.size i ⟨e.b,e.v,e.n,e.s,bs⟩ k')
  (hb2:Ext (stab c β H w) w (stab c β' H' w) w→BExt (λ_=>true) β β'→BlkR (stab c β' H' w) β' w c.w0.heap.size j ⟨f.b,f.v,f.n,f.s,ds⟩ l') :
  RelB G c β' st H' a w∧BExt (λ_=>true) β β'∧Ext (stab c β H w) w (stab c β' H' w) w:=by
 subst hβ' hH';have hn0:=h.notIn hk hi;have hn1:=h.notIn hl hj;have hil:=(We.1 he).1;have hjl:=(We.1 hf).1
 have key:∀(q:Nat) g m,((β.set i ⟨e.b,e.v,e.n,e.s,bs⟩).set j ⟨f.b,f.v,f.n,f.s,ds⟩)[q]? = some g→((H.set i k').set j l')[q]? = some m→(q≠i∧q≠j∧β[q]? = some g∧H[q]? = some m)∨(q=i∧g=⟨e.b,e.v,e.n,e.s,bs⟩∧m=k')∨(q=j∧g=⟨f.b,f.v,f.n,f.s,ds⟩∧m=l'):=λq g m hg hm=>by
  grind
 have hx:Ext (stab c β H w) w (stab c ((β.set i ⟨e.b,e.v,e.n,e.s,bs⟩).set j ⟨f.b,f.v,f.n,f.s,ds⟩) ((H.set i k').set j l') w) w:=by
  refine⟨λb hi hs=>?_,λ_ _ _ _ _ _ h=>h⟩
  rcases hs with hs|⟨h1,h2,h3⟩
  exact .inl hs
  refine .inr ⟨h1,h2,λq g m hg hm=>?_⟩
  rcases key q g m hg hm with⟨_,_,hg,hm⟩|⟨rfl,rfl,rfl⟩|⟨rfl,rfl,rfl⟩
  exact h3 q g m hg hm;exact(hfree b hi (h3 _ e k he hk) (h3 _ f l hf hl)).1
  grind
 have hbx:BExt (λ_=>true) β ((β.set i ⟨e.b,e.v,e.n,e.s,bs⟩).set j ⟨f.b,f.v,f.n,f.s,ds⟩):=by
  intro q g _ hg
  by_cases hqj:q=j
  subst hqj;rw[hf]at hg;cases hg;exact⟨_,Wae (by simpa using hjl),rfl,rfl,Ws _,λ_=>rfl⟩;rw[Wbi (Wcf hqj)]
  by_cases hqi:q=i
  subst hqi;rw[he]at hg;cases hg;exact⟨_,Wae hil,rfl,rfl,Ws _,λ_=>rfl⟩
  grind
 have hatq:∀(q:Nat) g m b,q≠i→q≠j→β[q]? = some g→H[q]? = some m→m.at g b→k.at e b∨l.at f b→False:=λq g m b h1 h2 h3 h4 h5 h6=>by
  rcases h6 with h6|h6
  exact h.inj q i g e m k b h1 h3 h4 he hk h5 h6;exact h.inj q j g f m l b h2 h3 h4 hf hl h5 h6
 refine⟨h.move hx hbx (by simp[h.len]) ?_ (λq g m hg hm=>?_) (λq q' g g' m m' b hqq hg hm hg' hm' h1 h2=>?_) (λq g m b h0 hg hm h1=>?_) (λq hq=>?_) h.frm,hbx,hx⟩
 obtain⟨γ,hγ⟩:=h.pre
 refine⟨(γ.set (i-c.β0.length) ⟨e.b,e.v,e.n,e.s,bs⟩).set (j-c.β0.length) ⟨f.b,f.v,f.n,f.s,ds⟩,?_⟩
 rw[hγ,Wbe _ _ hn0,Wbe _ _ hn1]
 rcases key q g m hg hm with⟨_,_,g1,g2⟩|⟨rfl,rfl,rfl⟩|⟨rfl,rfl,rfl⟩
 exact BlkR.keep hx hbx (λ_ _=>rfl) (h.blk q g m g1 g2);exact hb1 hx hbx;exact hb2 hx hbx
 rcases key q g m hg hm with⟨g0,g0',g1,g2⟩|⟨rfl,rfl,rfl⟩|⟨rfl,rfl,rfl⟩<;>rcases key q' g' m' hg' hm' with⟨g5,g5',g3,g4⟩|⟨rfl,rfl,rfl⟩|⟨rfl,rfl,rfl⟩
 exact h.inj q q' g g' m m' b hqq g1 g2 g3 g4 h1 h2;exact hatq q g m b g0 g0' g1 g2 h1 (hat1 b h2);exact hatq q g m b g0 g0' g1 g2 h1 (hat2 b h2);exact hatq q' g' m' b g5 g5' g3 g4 h2 (hat1 b h1);exact hqq rfl;exact hdis b h1 h2;exact hatq q' g' m' b g5 g5' g3 g4 h2 (hat2 b h1);exact hdis b h2 h1;exact hqq rfl
 rcases key q g m hg hm with⟨g0,g0',g1,g2⟩|⟨rfl,rfl,rfl⟩|⟨rfl,rfl,rfl⟩
 exact h.loc q g m b h0 g1 g2 h1
 rcases hat1 b h1 with h2|h2
 exact h.loc q e k b hn0 he hk h2;exact h.loc j f l b hn1 hf hl h2
 rcases hat2 b h1 with h2|h2
 exact h.loc i e k b hn0 he hk h2;exact h.loc q f l b hn1 hf hl h2;obtain⟨cs,hc,hcf⟩:=h.cel q hq;exact⟨cs,by rw[Wbi om,Wbi om];exact hc,hcf⟩
def RelB.addDead (h:RelB G c β st H a w) (f:Bnd):RelB G c (β++[f]) st (H++[.dead]) a w∧BExt (λ_=>true) β (β++[f])∧Ext (stab c β H w) w (stab c (β++[f]) (H++[.dead]) w) w:=by
 have both:∀ {i:Nat} {e:Bnd} {k:Blk},(β++[f])[i]? = some e→(H++[Blk.dead])[i]? = some k→(β[i]? = some e∧H[i]? = some k)∨(i=H.length∧k=.dead):=by
  intro i e k g1 g2
  rcases Zcf g2 with⟨g2,l2⟩|⟨g3,g4⟩
  rcases Zcf g1 with⟨g1,_⟩|⟨g1,_⟩
  exact .inl ⟨g1,g2⟩;have:=h.len;omega
  grind
 have hx:Ext (stab c β H w) w (stab c (β++[f]) (H++[.dead]) w) w:=by
  refine⟨λb hi hs=>?_,λ_ _ _ _ _ _ h=>h⟩
  rcases hs with hs|⟨h1,h2,h3⟩
  exact .inl hs
  refine .inr ⟨h1,h2,λi e k he hk=>?_⟩
  rcases both he hk with⟨g1,g2⟩|⟨_,rfl⟩
  exact h3 i e k g1 g2;trivial
 refine⟨h.move hx (Wbp _ _) (by simp[h.len]) ?_ (λi e k he hk=>?_) (λi j e f' k l b hij he hk hf hl hb hb'=>?_) (λi e k b h0 he hk hb=>?_) (λi hi=>?_) h.frm,Wbp _ _,hx⟩
 obtain⟨γ,hγ⟩:=h.pre;exact⟨γ++[f],gD⟩
 rcases both he hk with⟨g1,g2⟩|⟨_,rfl⟩
 exact BlkR.keep hx (Wbp _ _) (λ_ _=>rfl) (h.blk i e k g1 g2);trivial
 rcases both he hk with⟨g1,g2⟩|⟨_,rfl⟩
 rcases both hf hl with⟨g3,g4⟩|⟨_,rfl⟩
 exact h.inj i j e f' k l b hij g1 g2 g3 g4 hb hb';cases hb';cases hb
 rcases both he hk with⟨g1,g2⟩|⟨_,rfl⟩
 exact h.loc i e k b h0 g1 g2 hb;cases hb;obtain⟨ds,hc,hcf⟩:=h.cel i hi
 grind
def Wci:=@List.nodup_append
def RelB.take (h:RelB G c β st H a w) {i q t s n t' s' n':Nat} {cs cs':List OV} (hb:H[i]? = some (.tr t s n cs)) (hq:cs[q]? = some (.own t' s' n' cs')) :
  ∃ β',RelB G c β' st (H.set i (.tr t s n (cs.set q (.pv (.own H.length n'))))++[.tr t' s' n' cs']) a w∧BExt (λ_=>true) β β'∧Ext (stab c β H w) w (stab c β' (H.set i (.tr t s n (cs.set q (.pv (.own H.length n'))))++[.tr t' s' n' cs']) w) w:=by
 have hil:=(We.1 hb).1;obtain⟨e,he⟩:∃ e,β[i]? = some e:=⟨β[i]'(by rw[h.len];exact hil),by simp[h.len,hil]⟩;obtain⟨l1,l2,rfl,rfl⟩:=Z0p hq;have hbk:=h.blk i e _ he hb;simp only[BlkR,OVR]at hbk;obtain⟨k1,k2,k3,vals,bs',k4,k5,k6⟩:=hbk;obtain⟨us1,us2,b1,b2,rfl,rfl,k7,k8⟩:=Wdy _ _ _ _ k5
 cases us2 with
 |nil=>simp only[OVRs]at k8
 |cons u us2=>
 simp only[OVRs]at k8;obtain⟨d,b3,k8,k9,rfl⟩:=k8;obtain⟨h1,x1,y1⟩:=h.addDead ⟨0,u,n',s',[]⟩
 have hsz:∃ a cap,u=.slice a n' cap:=by
  simp only[OVR]at k8;obtain⟨_,_,g,_⟩:=k8;exact Z51 g
 have hne:i≠H.length:=om
 have he':(β++[(⟨0,u,n',s',[]⟩:Bnd)])[i]? = some e:=gD
 have hb':(H++[Blk.dead])[i]? = some (.tr t s n (l1++.own t' s' n' cs'::l2)):=by rw[W8 hil];exact hb
 have hset:(H.set i (.tr t s n ((l1++.own t' s' n' cs'::l2).set l1.length (.pv (.own H.length n'))))++[.tr t' s' n' cs'])=((H++[Blk.dead]).set i (.tr t s n (l1++.pv (.own H.length n')::l2))).set H.length (.tr t' s' n' cs'):=by
  simp_all
 have hbl:β.length=H.length:=h.len
 have hmem:∀ b,b∈e.bs↔b∈e.v.ownBlock.toList∨b∈b1∨b∈d∨b∈b3:=λb=>by rw[k6];simp only[Wl]
 have hnd:=k3;rw[k6]at hnd;simp only[Wci,Wl]at hnd
 have hself:∀ {γ:List Bnd},((β++[(⟨0,u,n',s',[]⟩:Bnd)]).set i ⟨e.b,e.v,e.n,e.s,e.v.ownBlock.toList++(b1++b3)⟩).set H.length ⟨0,u,n',s',d⟩=γ→γ[H.length]? = some ⟨0,u,n',s',d⟩:=λhγ=>by
  rw[←hγ,Wae (by simp[hbl])]
 rw[hset];obtain⟨r1,r2,r3⟩:=h1.two (i:=i) (j:=H.length) (e:=e) (f:=⟨0,u,n',s',[]⟩) (l:=.dead) (bs:=e.v.ownBlock.toList++(b1++b3)) (ds:=d) (k':=.tr t s n (l1++.pv (.own H.length n')::l2)) (l':=.tr t' s' n' cs') hne he' hb' sA sM rfl rfl
  (λb hbb=>.inl ((hmem b).2 (by simp only[Blk.at,Wl]at hbb;rcases hbb with hbb|hbb|hbb<;>simp[hbb]))) (λb hbb=>.inl ((hmem b).2 (by simp only[Blk.at]at hbb;simp[hbb])))
  (λb h1 h2=>by
   simp only[Blk.at,Wl]at h1 h2
   grind) rfl rfl
  (λb hi hf _=>by
   simp only[Blk.free,hmem,not_or]at hf;simp only[Blk.free,Wl,not_or]
   grind)
  (λhx hbx=>by
   simp only[BlkR,OVR]
   refine⟨k1,k2,?_,us1++u::us2,b1++b3,k4,?_,rfl⟩
   simp only[Wci,Wl]
   refine⟨hnd.1,⟨hnd.2.1.1,hnd.2.1.2.1.2.1,λx hx y hy=>hnd.2.1.2.2 x hx y (.inr hy)⟩,λx hx y hy=>?_⟩
   rcases hy with hy|hy
   exact hnd.2.2 x hx y (.inl hy);exact hnd.2.2 x hx y (.inr (.inr hy));have hxx:=Wdz y1 hx;have hbb:=Wdx x1 hbx
   refine Wfc _ _ _ _ _ _ (Wco hxx hbb _ _ _ (λ_ _=>rfl) k7) ?_
   simp only[OVRs,OVR]
   refine⟨[],b3,⟨?_,rfl⟩,Wco hxx hbb _ _ _ (λ_ _=>rfl) k9,rfl⟩
   simp only[VR]
   simp_all)
  (λhx hbx=>by
   simp only[BlkR]
   exact⟨trivial,trivial,hnd.2.1.2.1.1,Wft (Wdz y1 hx) (Wdx x1 hbx) _ _ _ (λ_ _=>rfl) k8⟩)
 exact⟨_,r1,Wdx x1 r2,Wdz y1 r3⟩
def RelB.give (h:RelB G c β st H a w) {i j q t s n t' s' n':Nat} {cs cs':List OV} (hij:i≠j) (hb:H[i]? = some (.tr t s n cs)) (hq:cs[q]? = some (.pv (.own j n'))) (hl:H[j]? = some (.tr t' s' n' cs')) :
  ∃ β',RelB G c β' st ((H.set i (.tr t s n (cs.set q (.own t' s' n' cs')))).set j .dead) a w∧BExt (λ_=>true) β β'∧Ext (stab c β H w) w (stab c β' ((H.set i (.tr t s n (cs.set q (.own t' s' n' cs')))).set j .dead) w) w:=by
 obtain⟨e,he⟩:∃ e,β[i]? = some e:=⟨β[i]'(by rw[h.len];exact(We.1 hb).1),sM⟩;obtain⟨f,hf⟩:∃ f,β[j]? = some f:=⟨β[j]'(by rw[h.len];exact(We.1 hl).1),sM⟩;obtain⟨l1,l2,rfl,rfl⟩:=Z0p hq;obtain⟨k1,k2,k3,vals,bs',k4,k5,k6⟩:=h.blk i e _ he hb;obtain⟨m1,m2,m3,m4⟩:=h.blk j f _ hf hl;obtain⟨us1,us2,b1,b2,rfl,rfl,k7,k8⟩:=Wdy _ _ _ _ k5;cases us2;simp only[OVRs]at k8;rename_i u us2;obtain⟨d,b3,⟨k8,hd0⟩,k9,hb3⟩:=k8;subst hd0;subst hb3
 have hu:u=f.v:=by
  simp only[VR]at k8
  grind
 subst hu
 have hmem:∀ b,b∈e.bs↔b∈e.v.ownBlock.toList∨b∈b1∨b∈b2:=λb=>gD
 have hnd:=k3;rw[k6]at hnd;simp only[Wci,Wl]at hnd
 have hdis:=λb h1 h2=>h.inj i j e f _ _ b hij he hb hf hl h1 h2
 obtain⟨r1,r2,r3⟩:=h.two (i:=i) (j:=j) (e:=e) (f:=f) (bs:=e.v.ownBlock.toList++(b1++(f.bs++b2))) (ds:=[]) (k':=.tr t s n (l1++.own t' s' n' cs'::l2)) (l':=.dead) hij he hb hf hl rfl rfl
  (λb hbb=>by
   simp only[Blk.at,Wl]at hbb⊢
   grind) (λb hbb=>hbb.elim) (λb _ h2=>h2.elim) rfl rfl
  (λb hi h1 h2=>by
   simp only[Blk.free,hmem]at h1 h2;simp only[Blk.free,Wl]
   grind)
  (λhx hbx=>by
   refine⟨k1,k2,?_,us1++f.v::us2,b1++(f.bs++b2),k4,?_,rfl⟩
   simp only[Wci,Wl]
   refine⟨hnd.1,⟨hnd.2.1.1,⟨m3,hnd.2.1.2.1,λx hx y hy he'=>?_⟩,λx hx y hy he'=>?_⟩,λx hx y hy he'=>?_⟩
   subst he';exact hdis x ((hmem x).2 (.inr (.inr hy))) hx;subst he'
   rcases hy with hy|hy
   exact hdis x ((hmem x).2 (.inr (.inl hx))) hy;exact hnd.2.1.2.2 x hx x hy rfl;subst he'
   rcases hy with hy|hy|hy
   exact hnd.2.2 x hx x (.inl hy) rfl;exact hdis x ((hmem x).2 (.inl hx)) hy;exact hnd.2.2 x hx x (.inr hy) rfl
   refine Wfc _ _ _ _ _ _ (Wco hx hbx _ _ _ (λ_ _=>rfl) k7) ?_
   exact⟨f.bs,b2,Wft hx hbx _ _ _ (λ_ _=>rfl) m4,Wco hx hbx _ _ _ (λ_ _=>rfl) k9,rfl⟩)
  (λ_ _=>trivial)
 grind
def RelB.trBuf (h:RelB G c β st H a w) {i t s n:Nat} {cs:List OV} {xs:List (List PV)} (hb:H[i]? = some (.tr t s n cs)) (hf:FZs cs xs.flatten) (hn:xs.length=n) (hs:∀ x∈xs,x.length=s) :
  ∃ β',RelB G c β' st (H.set i (.buf s t xs false)) a w∧BExt (λ_=>true) β β'∧Ext (stab c β H w) w (stab c β' (H.set i (.buf s t xs false)) w) w:=by
 obtain⟨e,he⟩:∃ e,β[i]? = some e:=⟨β[i]'(by rw[h.len];grind),gD⟩;obtain⟨k1,k2,k3,vals,bs',k4,k5,k6⟩:=h.blk i e _ he hb;subst hn
 obtain⟨r1,r2,r3⟩:=h.one (i:=i) (e:=e) (bs:=e.bs) (k':=.buf s t xs false) he hb rfl (λb hbb=>by
   simp  [Blk.at]at hbb⊢
   grind) (λb hi hff hbb=>by
   simp  [Blk.free]at hff hbb
   grind)
  (λhx hbx=>by
   refine⟨k1,k2,hs,vals,k4,?_⟩
   refine FZs.vr cs xs.flatten vals bs' (λb hbb hi=>?_) (Wco hx hbx _ _ _ (λ_ _=>rfl) k5) hf
   have hbe:b∈e.bs:=gD
   obtain⟨l1,l2⟩:=h.loc i e _ b (h.notIn hb rfl) he hb hbe
   refine .inr ⟨l1,l2,λj f k hf hk=>?_⟩
   rcases Zot hf with⟨hji,hf⟩|⟨rfl,rfl⟩
   rcases Zot hk with⟨_,hk⟩|⟨e',_⟩
   exact Wde λha=>h.inj j i f e k _ b hji hf hk he hb ha hbe
   exact absurd e' hji
   rcases Zot hk with⟨e',_⟩|⟨_,rfl⟩
   exact absurd rfl e';intro ho
   grind)
 grind
def RelB.bufTr (h:RelB G c β st H a w) {i s t:Nat} {xs:List (List PV)} (hb:H[i]? = some (.buf s t xs false)) :
  ∃ β',RelB G c β' st (H.set i (.tr t s xs.length (xs.flatten.map .pv))) a w∧BExt (λ_=>true) β β'∧Ext (stab c β H w) w (stab c β' (H.set i (.tr t s xs.length (xs.flatten.map .pv))) w) w:=by
 obtain⟨e,he⟩:∃ e,β[i]? = some e:=⟨β[i]'(by rw[h.len];grind),gD⟩;obtain⟨k1,k2,k3,vals,k4,k5⟩:=h.blk i e _ he hb
 obtain⟨r1,r2,r3⟩:=h.one (i:=i) (e:=e) (bs:=e.v.ownBlock.toList) (k':=.tr t s xs.length (xs.flatten.map .pv)) he hb rfl (λb hbb=>by
   simp  [Blk.at]at hbb⊢
   grind) (λb hi hff hbb=>by
   have:=(hff gD).1
   grind)
  (λhx hbx=>⟨k1,k2,gD,vals,[],k4,Why _ _ (Wam hx (λi e _ h=>gD) k5),sM⟩)
 grind
end
section
variable {P:Program} {G:Glob} {c:Ctx} {β:List Bnd} {st:St} {H:List Blk} {a:Act} {w:World} {n0 nt:Nat} {o:Oper}
def RelB.trs (h:RelB G c β st H a w) {i t s n:Nat} {cs:List OV} {e:Bnd} (he:β[i]? = some e) (hb:H[i]? = some (.tr t s n cs)) :
  e.n=n∧e.s=s∧e.bs.Nodup∧∃ vals bs',World.ownsM w c.w0.heap.size t s e.v n vals∧OVRs (stab c β H w) β w c.w0.heap.size cs vals bs'∧e.bs=e.v.ownBlock.toList++bs':=h.blk i e _ he hb
def RelB.rebufT (h:RelB G c β st H a w) {i s t n n':Nat} {cs cs':List OV} {e:Bnd} (he:β[i]? = some e) (hb:H[i]? = some (.tr t s n cs)) {w':World} {v':Value} {vals:List Value} {bs':List Nat}
  (hos:w'.os=w.os) (htp:w'.tape=w.tape) (hou:w'.output=w.output) (hdw:dle w w') (hsz:w.heap.size≤w'.heap.size) (hblk:∀ b,b<w.heap.size→e.v.ownBlock≠some b→w'.heap[b]? = w.heap[b]?)
  (hlen:n≤n') (hv:n'=n→v'=e.v)
  (hown:World.ownsM w' c.w0.heap.size t s v' n' vals) (hnew:∀ g,v'.ownBlock=some g→e.v.ownBlock=some g∨(w.heap.size≤g∧g<w'.heap.size)) (hsub:∀ b∈bs',b∈e.bs∧e.v.ownBlock≠some b) (hnd:bs'.Nodup)
  (hcells:Ext (stab c β H w) w (stab c (β.set i ⟨e.b,v',n',s,v'.ownBlock.toList++bs'⟩) (H.set i (.tr t s n' cs')) w') w'→BExt (λ_=>true) β (β.set i ⟨e.b,v',n',s,v'.ownBlock.toList++bs'⟩)→OVRs (stab c (β.set i ⟨e.b,v',n',s,v'.ownBlock.toList++bs'⟩) (H.set i (.tr t s n' cs')) w') (β.set i ⟨e.b,v',n',s,v'.ownBlock.toList++bs'⟩) w' c.w0.heap.size cs' vals bs') :
  RelB G c (β.set i ⟨e.b,v',n',s,v'.ownBlock.toList++bs'⟩) st (H.set i (.tr t s n' cs')) a w'∧Ext (stab c β H w) w (stab c (β.set i ⟨e.b,v',n',s,v'.ownBlock.toList++bs'⟩) (H.set i (.tr t s n' cs')) w') w'∧BExt (λ_=>true) β (β.set i ⟨e.b,v',n',s,v'.ownBlock.toList++bs'⟩):=by
 obtain⟨q1,q2,q3,vals0,bs0,q4,q5,q6⟩:=h.trs he hb;have hn0:=h.notIn hb rfl
 have hgb:∀ g,g∈e.bs→c.w0.heap.size≤g∧g<w.heap.size:=λg hg=>h.loc i e _ g hn0 he hb hg
 have hob:∀ g,e.v.ownBlock=some g→g∈e.bs:=λg hg=>by rw[q6,hg];simp
 have hnb:∀ b,b∈v'.ownBlock.toList++bs'→b∈e.bs∨(w.heap.size≤b∧b<w'.heap.size):=λb hb'=>by
  grind
 have hnd':(v'.ownBlock.toList++bs').Nodup:=by
  grind
 have hx:Ext (stab c β H w) w (stab c (β.set i ⟨e.b,v',n',s,v'.ownBlock.toList++bs'⟩) (H.set i (.tr t s n' cs')) w') w':=by
  refine⟨λb hi hs=>?_,λb hi o u hs ho hu=>?_⟩
  have hlt:=Zos h hs
  rcases hs with hs|⟨h1,h2,h3⟩
  exact .inl hs
  refine .inr ⟨h1,om,λj f k hf hk'=>?_⟩
  rcases Zot hf with⟨hji,hf⟩|⟨rfl,rfl⟩
  rcases Zot hk' with⟨_,hk'⟩|⟨e,_⟩
  exact h3 j f k hf hk';exact absurd e hji
  rcases Zot hk' with⟨e,_⟩|⟨_,rfl⟩
  exact absurd rfl e;intro hbb
  rcases hnb b hbb with h4|⟨h4,_⟩
  exact h3 j e _ he hb h4;omega;have hlt:=Zos h hs
  by_cases hbb:e.v.ownBlock=some b
  rcases hs with hs|⟨h1,h2,h3⟩
  have:=(h.ok.old b hi hs).1;have:=(hgb b (hob b hbb)).1;omega;exact absurd (hob b hbb) (h3 i e _ he hb);rw[Zk6 (hblk b hlt hbb)];exact hu
 have hbx:BExt (λ_=>true) β (β.set i ⟨e.b,v',n',s,v'.ownBlock.toList++bs'⟩):=by
  intro j f _ hf
  grind
 have key:∀(j:Nat) f k,(β.set i ⟨e.b,v',n',s,v'.ownBlock.toList++bs'⟩)[j]? = some f→(H.set i (.tr t s n' cs'))[j]? = some k →
   (j≠i∧β[j]? = some f∧H[j]? = some k)∨(j=i∧f=⟨e.b,v',n',s,v'.ownBlock.toList++bs'⟩∧k=.tr t s n' cs'):=λj f k hf hk'=>by
  grind
 have hother:=λj f k b hji hf hk' hb' hbb=>h.inj j i f e k _ b hji hf hk' he hb hb' hbb
 refine⟨h.move hx hbx (by simp[h.len]) ?_ (λj f k hf hk'=>?_) (λj j' f f' k l b hij hf hk' hf' hl hb1 hb2=>?_) (λj f k b h0 hf hk' hb1=>?_) (λj hj=>?_) ?_,hx,hbx⟩
 obtain⟨γ,hγ⟩:=h.pre
 refine⟨γ.set (i-c.β0.length) ⟨e.b,v',n',s,v'.ownBlock.toList++bs'⟩,?_⟩
 rw[hγ,Wbe _ _ hn0]
 rcases key j f k hf hk' with⟨hji,g1,g2⟩|⟨rfl,rfl,rfl⟩
 exact BlkR.keep hx hbx (λb hb'=>hblk b (at_lt (h.blk j f k g1 g2) hb') λho=>hother j f k b hji g1 g2 hb' (hob b ho)) (h.blk j f k g1 g2);simp only[BlkR,OVR];exact⟨trivial,trivial,hnd',vals,bs',hown,hcells hx hbx,rfl⟩
 rcases key j f k hf hk' with⟨g0,g1,g2⟩|⟨rfl,rfl,rfl⟩<;>rcases key j' f' l hf' hl with⟨g0',g3,g4⟩|⟨rfl,rfl,rfl⟩
 exact h.inj j j' f f' k l b hij g1 g2 g3 g4 hb1 hb2
 rcases hnb b hb2 with h4|⟨h4,_⟩
 exact hother j f k b g0 g1 g2 hb1 h4;have:=at_lt (h.blk j f k g1 g2) hb1;omega
 rcases hnb b hb1 with h4|⟨h4,_⟩
 exact hother j' f' l b g0' g3 g4 hb2 h4;have:=at_lt (h.blk j' f' l g3 g4) hb2;omega;exact hij rfl
 rcases key j f k hf hk' with⟨g0,g1,g2⟩|⟨rfl,rfl,rfl⟩
 have:=h.loc j f k b h0 g1 g2 hb1;omega
 rcases hnb b hb1 with h4|⟨h4,h5⟩
 have:=hgb b h4;omega;have:=h.frm.size;omega;obtain⟨cs,hc,hcf⟩:=h.cel j hj
 have hne:j≠i:=λe=>om
 exact⟨cs,by rw[Wbi (Wcf hne)];exact hc,hcf⟩
 refine⟨hos.trans h.frm.os,htp.trans h.frm.tape,hou.trans h.frm.output,Wbj h.frm.size hsz,λb hb' hne=>?_,λb vs t' hb'=>?_,Wgk h.frm.drawn hdw⟩
 rw[hblk b (by have:=h.frm.size;omega) λhbb=>by have:=(hgb b (hob b hbb)).1;omega];exact h.frm.block b hb' hne;have hlt:=Zzi hb';obtain⟨vs1,h1⟩:=h.frm.typ b vs t' hb';exact⟨vs1,Zg1 (hblk b (by have:=h.frm.size;omega) λhbb=>by have:=(hgb b (hob b hbb)).1;omega) h1⟩
def OpT.index_tr {t e:TypeId} {x y:Operand} {k:IntKind} {j:Int} {i s ty n:Nat} {cs:List OV} (ho:o.op=.indexAddr t x y) (hu:P.underlying t=some (.slice e)) (hz:P.cellsOf e=s) (hs0:s≠0)
  (hx:opd G st x=some (.own i n)) (hb:H[i]? = some (.tr ty s n cs)) (hy:opd G st y=some (.sc (.int k j))) (h0:0≤j) (h1:j<n):OpT P G n0 o st H (.ept i n j.toNat 0) H:=
 W4 λc a w β hn hr=>by
  have g1:=hr.opd hx;have g2:=hr.opd hy
  simp  [VR]at g1 g2
  obtain⟨_,ed,he,k1,k2⟩:=g1;obtain⟨q1,q2,_,vals,_,⟨q4,q5⟩,_⟩:=hr.trs he hb;have hv:=k2 q1.symm
  rcases q5 with⟨q5,q7⟩|⟨g,cap,cur,e1,e2,e3,e4,e5,e6,e7⟩
  omega;rw[e1]at hv;simp[execOp,ho,Instr.indexAt,asIntOf,Ww hu,hv,g2,Zfl hz hs0,Zc3,h0,h1];exact⟨rfl,ed,he,k1,λ_=>⟨g,by rw[e1];rfl,gD⟩⟩
def OpT.field_tr {s:TypeId} {x:Operand} {f:Nat} {fs:Array Field} {fd:Field} {i n k off z t:Nat} {cs:List OV} (ho:o.op=.fieldAddr s x f) (hu:P.underlying s=some (.struct fs)) (hf:fs[f]? = some fd) (hz:P.cellsOf fd.type≠0)
  (hx:opd G st x=some (.ept i n k off)) (hb:H[i]? = some (.tr t z n cs)):OpT P G n0 o st H (.ept i n k (off+fd.offset)) H:=
 W4 λc a w β h0 hr=>by
  have run:∀ b off,a.eval x=.pointer (some ⟨b,off,none⟩)→(execOp a.eval o).run P w=.ok (.value (.pointer (some ⟨b,off+fd.offset,none⟩))) w:=λb off he=>by
   simp[execOp,ho,Instr.fieldAt,Ww hu,hf,he,Instr.sureAddr,fieldPlace,Zfl rfl hz,hz,Zc3]
  obtain⟨g0,e,h2,h3,h4⟩:=hr.opd hx;obtain⟨h5,_⟩:=hr.trs h2 hb;obtain⟨g,h6,h7⟩:=h4 om
  refine⟨_,run _ _ h7,rfl,e,h2,h3,λ_=>⟨g,h6,?_⟩⟩
  grind
def OpT.len_tr {cl:Call} {x:Operand} {T e s t i n:Nat} {cs:List OV} (ho:o.op=.call cl) (hcl:cl={callee:=.builtin .len,args:=#[x],argTypes:=#[T]}) (hT:P.underlying T=some (.slice e)) (hx:opd G st x=some (.own i n)) (hb:H[i]? = some (.tr t s n cs)) :
  OpT P G n0 o st H (.sc (.int .i64 n)) H:=
 W4 λc a w β h0 hr=>by
  obtain⟨_,ed,he,k1,k2⟩:=hr.opd hx;obtain⟨q1,q2,_,vals,_,⟨q4,q5⟩,_⟩:=hr.trs he hb;have hv:=k2 q1.symm
  refine⟨.int .i64 n,?_,by simp  [VR]⟩
  rcases q5 with⟨q5,q7⟩|⟨g',cap,cur,e1,_⟩
  rw[q5]at hv;simp[execOp,ho,hcl,resolve,invoke,builtin,hv,Builtin.len_,Ww hT,goInt,q7];rw[e1]at hv;simp[execOp,ho,hcl,resolve,invoke,builtin,hv,Builtin.len_,Ww hT,goInt]
def plain1:OV→PV
 |.pv p=>p
 |.own _ _ n _=>.ln n
def plains (os:List OV):List PV:=os.map plain1
def OVRs.plains {S:Nat→Nat→Prop} {β:List Bnd} {w:World} {base b:Nat}:∀ os us bs o,OVRs S β w base os us bs→(∀ j u,us[j]? = some u→w.cell? ⟨b,o+j,none⟩=some u)→VRow S β w b o (plains os)
 |[],_,_,_,_,_=>by simp  [AM.plains,Wbt,VRow]
 |_::os,[],_,_,h,_=>by simp  [OVRs]at h
 |x::os,u::us,bs,o,h,hc=>by
  obtain⟨b1,b2,h1,h2,_⟩:=h
  refine⟨⟨u,by simpa using hc 0 u rfl,?_⟩,OVRs.plains os us b2 (o+1) h2 λj v hj=>?_⟩
  cases x;exact h1.1;obtain⟨_,_,⟨_,h3⟩,_⟩:=h1;simp  [plain1,VR]
  grind
  have:=hc (j+1) v gD
  grind
def Wc0:=@List.drop_left'
def Wb8:=@List.drop_eq_nil_of_le
def OpT.load_tr {t:TypeId} {x:Operand} {i n k off s ty:Nat} {cs:List OV} {p:PV} (ho:o.op=.load t x) (hx:opd G st x=some (.ept i n k off)) (hb:H[i]? = some (.tr ty s n cs))
  (hl:ldPV P t (plains (cs.drop (k*s+off)))=some p):OpT P G n0 o st H p H:=
 W4 λc a w β h0 hr=>by
  obtain⟨_,ed,he,k1,k2⟩:=hr.opd hx;obtain⟨q1,q2,_,vals,bs',⟨q4,q5⟩,q6,_⟩:=hr.trs he hb;obtain⟨g,k3,k4⟩:=k2 om
  rcases q5 with⟨q5,q7⟩|⟨g',cap,cur,e1,e2,e3,e4,e5,e6,e7⟩
  rw[q5]at k3;simp[Value.ownBlock]at k3;rw[e1]at k3;cases k3
  have hd:∃ bs2,OVRs (stab c β H w) β w c.w0.heap.size (cs.drop (k*s+off)) (vals.drop (k*s+off)) bs2:=by
   have h9:cs=cs.take (k*s+off)++cs.drop (k*s+off):=(Wat _ _).symm;rw[h9]at q6;obtain⟨us1,us2,b1,b2,r1,_,r3,r4⟩:=Wdy _ _ _ _ q6;have h10:=Wfz _ _ _ r3
   refine⟨b2,?_⟩
   rw[r1];rw[Wac]at h10
   have h11:(us1++us2).drop (k*s+off)=us2:=by
    by_cases hle:k*s+off≤cs.length
    rw[Wc0 om];have h12:=Wfz _ _ _ r4;rw[Wax]at h12;have h13:us2=[]:=Wab om;subst h13;rw[Wb8 gD]
   grind
  obtain⟨bs2,hd⟩:=hd
  obtain⟨v,h6,h7⟩:=run_ld (P:=P) (OVRs.plains (b:=g') _ _ _ (k*s+off) hd (λj u hj=>by
   rw[Zga e3]
   grind)) hl
  rw[←q2]at h6;exact⟨v,by simp[execOp,ho,Instr.loadAt,k4,Instr.sureAddr,h6],h7⟩
def OpT.store_tr {t:TypeId} {x y:Operand} {i n k off s ty:Nat} {cs:List OV} {p:PV} (ho:o.op=.store t x y) (hx:opd G st x=some (.ept i n k off)) (hy:opd G st y=some p) (hb:H[i]? = some (.tr ty s n cs))
  (ht:P.cellsOf t=p.cells.length) (hti:(P.info? t).isSome=true) (hl:k*s+off+p.cells.length≤n*s) (h1:(p.cells.all PV.one)=true) :
  OpT P G n0 o st H (.sc undef) (H.set i (.tr ty s n (cs.take (k*s+off)++p.cells.map .pv++cs.drop (k*s+off+p.cells.length)))):=by
 intro c a w β hn0 hr;have g1:=hr.opd hx;have g2:=(hr.opd hy).cells;simp only[VR]at g1;obtain⟨_,ed,he,k1,k2⟩:=g1;obtain⟨q1,q2,q3,vals,bs',⟨q4,q5⟩,q6,q7⟩:=hr.trs he hb;obtain⟨g,k3,k4⟩:=k2 om;have hlu:=Waw _ _ g2
 rcases q5 with⟨q5,_⟩|⟨g',cap,cur,e1,e2,e3,e4,e5,e6,e7⟩
 rw[q5]at k3;simp[Value.ownBlock]at k3;rw[e1]at k3;simp[Value.ownBlock]at k3;subst k3
 have hcurs:n*s≤cur.size:=by rw[e6];exact W9 s e4
 have hrun:=Zhy P g' (k*s+off) ty (a.eval y).cells.toList 0 cur w e3 (by rw[hlu];omega) (Wf5 h1 g2);obtain⟨ti,htio⟩:=Wap.1 hti
 have hsz:(sizeOf t).run P w=.ok (a.eval y).cells.size w:=by
  rw[Wcg w htio,ht,←hlu];simp
 rw[q2]at k4
 have hex:(execOp a.eval o).run P w=.ok .skip (w.setRow g' (cur.toList.take (k*s+off+0)++(a.eval y).cells.toList++cur.toList.drop (k*s+off+0+(a.eval y).cells.toList.length)).toArray):=by
  simp only[execOp,ho,Instr.storeAt,k4,Instr.sureAddr,storeVar];simp[hsz,hrun]
 simp only[wpv,hex]
 let us:=(a.eval y).cells.toList
 have hus:us.length=p.cells.length:=hlu
 let vals':=vals.take (k*s+off)++us++vals.drop (k*s+off+us.length)
 have hvl:vals.length=n*s:=q4;have hcl:cs.length=n*s:=(Wfz _ _ _ q6).trans hvl
 have h9:cs=cs.take (k*s+off)++((cs.drop (k*s+off)).take us.length++cs.drop (k*s+off+us.length)):=by
  rw[←Wcs (i:=us.length) (j:=k*s+off),Wat,Wat]
 have q6':=q6;rw[h9]at q6';obtain⟨us1,us2,b1,b2',r1,r2,r3,r4⟩:=Wdy _ _ _ _ q6';obtain⟨us3,us4,b2,b3,r5,r6,r7,r8⟩:=Wdy _ _ _ _ r4;have l1:=Wfz _ _ _ r3;have l2:=Wfz _ _ _ r7;rw[Wac,hcl,Wbr om]at l1;rw[Wac,Wax,hcl,Wbr om]at l2;subst r5 r6
 have e8:vals.take (k*s+off)=us1:=by rw[r1,Wcz l1.symm]
 have e9:vals.drop (k*s+off+us.length)=us4:=by
  rw[r1,←Wan,Wc0 (by rw[Wm,←l1,←l2])]
 have hnd:=q3;rw[q7,r2]at hnd;simp only[Wci,Wl]at hnd;have hrow:=Zrl (us:=(cur.toList.take (k*s+off+0)++us++cur.toList.drop (k*s+off+0+us.length)).toArray) e3 sO;have hrb:=hr.rebufT he hb (n':=n) (cs':=cs.take (k*s+off)++p.cells.map .pv++cs.drop (k*s+off+p.cells.length)) (w':=w.setRow g' (cur.toList.take (k*s+off+0)++us++cur.toList.drop (k*s+off+0+us.length)).toArray) (v':=ed.v) (vals:=vals') (bs':=b1++b3)
  rfl rfl rfl (λ_=>Ws _) (by rw[Wep];exact Ws _) (λb hb' hne=>?_) (Ws _) (λ_=>rfl) ?_ (λg hg=>.inl hg) (λb hbb=>?_) ?_ (λhx' hbx=>?_)
 obtain⟨s1,s2,s3⟩:=hrb;exact⟨_,s1,by simp only[VR],s3,s2⟩
 have:b≠g':=λeq=>hne (by rw[e1,eq];rfl)
 simp only[World.setRow,Wby];rw[if_neg (Wcf this)]
 refine⟨gD,.inr ⟨g',cap,_,e1,e2,hrow,e4,e5,?_,?_⟩⟩
 simp;omega;simp only[vals',Wdq];have hv2:vals=cur.toList.take (n*s):=e7.symm;rw[hv2,Weh,Wbr (by omega:k*s+off≤n*s),Wdo,Wew,Wbk gD]
 congr 1
 congr 1
 simp only[Wm,Wac,Wa5];omega
 have hbe:b∈bs':=by rw[r2];rcases Wl.1 hbb with h|h<;>simp[h]
 refine⟨by rw[q7];simp[hbe],λho=>?_⟩
 exact hnd.2.2 b (by rw[ho];simp) b (by rw[r2]at hbe;simpa using hbe) rfl;rw[Wci];exact⟨hnd.2.1.1,hnd.2.1.2.1.2.1,λx hx y hy=>hnd.2.1.2.2 x hx y (.inr hy)⟩
 have hkeep:∀ b,b∈bs'→(w.setRow g' (cur.toList.take (k*s+off+0)++us++cur.toList.drop (k*s+off+0+us.length)).toArray).heap[b]? = w.heap[b]?:=λb hbb=>by
  have:b≠g':=λeq=>by
   refine hnd.2.2 b ?_ b (by rw[r2]at hbb;simpa using hbb) rfl
   rw[e1,eq];simp[Value.ownBlock]
  simp only[World.setRow,Wby];rw[if_neg (Wcf this)]
 have m1:=Wco hx' hbx _ _ _ (λb hbb=>hkeep b (by rw[r2];simp[hbb])) r3;have m2:=Wco hx' hbx _ _ _ (λb hbb=>hkeep b (by rw[r2];simp[hbb])) r8;have m3:=Why (base:=c.w0.heap.size) _ _ (Wam hx' hbx g2);simp only[vals',e8,e9]
 have hdr:cs.drop (k*s+off+p.cells.length)=cs.drop (k*s+off+us.length):=by rw[hus]
 have m4:=Eq.mpr (congrArg (λz=>OVRs _ _ _ _ z us4 b3) hdr) m2;have:=Wfc _ _ _ _ _ _ (Wfc _ _ _ _ _ _ m1 m3) m4
 simpa only[War]using this
def Wdg:=@List.length_nil
def OpT.append_tr {cl:Call} {x y:Operand} {T U e:TypeId} {i j s t t' n:Nat} {ti:TypeInfo} {z:Value} {cs:List OV} {ys:List (List PV)}
  (ho:o.op=.call cl) (hcl:cl={callee:=.builtin .append,args:=#[x,y],argTypes:=#[T,U]}) (hT:P.underlying T=some (.slice t)) (hU:P.underlying U=some (.slice e)) (hi:P.info? t=some ti) (hz:ti.zero=some z)
  (hs:ti.size=s) (hzs:z.cells.size=s) (hx:opd G st x=some (.own i n)) (hb:H[i]? = some (.tr t s n cs)) (hy:opd G st y=some (.own j ys.length)) (hq:H[j]? = some (.fb s t' ys)) (h1:(ys.flatten.all PV.one)=true)
  (hn:(n+ys.length)*ti.bytes≤140737488355328) (hn2:n+ys.length≤140737488355328):OpT P G n0 o st H (.own i (n+ys.length)) (H.set i (.tr t s (n+ys.length) (cs++ys.flatten.map .pv))):=by
 intro c a w β h0 hr
 have hsrc:(ys=[]∧∃ ad cap,a.eval y=.slice ad 0 cap)∨∃ b off cap vals,a.eval y=.slice (some ⟨b,off,none⟩) ys.length cap∧VRs (stab c β H w) β w ys.flatten vals∧(∀ x∈ys,x.length=s)∧∀ j v,vals[j]? = some v→w.cell? ((⟨b,off,none⟩:Addr).add j)=some v:=by
  have hu:=hr.opd hy;simp only[VR]at hu;obtain⟨_,ed,he,g1,g2⟩:=hu;obtain⟨q1,q2,q3,vals,⟨q4,q5⟩,q6⟩:=hr.blk j ed _ he hq;have hv:=g2 q1.symm
  rcases q5 with⟨q5,q7⟩|⟨g,cap,cur,e1,e2,e3,e4,e5,e6,e7⟩
  exact .inl ⟨Wab q7,none,0,by rw[hv,q5]⟩
  refine .inr ⟨g,0,cap,vals,by rw[hv,e1],q6,q3,λj v hj=>?_⟩
  rw[Zc3,Zga e3];rw[←e7,Wba]at hj
  split at hj
  simpa using hj
  cases hj
 have hvx:=hr.opd hx;simp only[VR]at hvx;obtain⟨ho1,ed,he,g1,g2⟩:=hvx;obtain⟨q1,q2,q3,vals,bs',hown,q6,q7⟩:=hr.trs he hb;have hxv:=g2 q1.symm;have hil:=(We.1 hb).1
 have hex:(execOp a.eval o).run P w=((Builtin.append_ #[T,U] o.type #[ed.v,a.eval y]).run P w).andThen λv w'=>.ok (.value v) w':=by
  simp[execOp,ho,hcl,resolve,invoke,builtin,hxv]
 rw[Zy6 hT hU hi]at hex;obtain⟨hvl,hown'⟩:=hown;have hnd:=q3;rw[q7]at hnd;simp only[Wci]at hnd
 have hset:∀ {α:Type} (l:List α) (i:Nat) (x:α),l[i]? = some x→l.set i x=l:=λl i x hx=>by
  refine Wch λj=>?_
  grind
 have keep:ys=[]→(∃ ad cap,a.eval y=.slice ad 0 cap)→wpv P o a w (λv w'=>RelV G c β H w st (H.set i (.tr t s (n+ys.length) (cs++ys.flatten.map .pv))) a (.own i (n+ys.length)) v w'):=by
  rintro rfl ⟨ad,cap,hya⟩
  have hrun:(Builtin.append_ #[T,T] o.type #[ed.v,a.eval y]).run P w=.ok ed.v w:=by
   rw[hya]
   rcases hown' with⟨e1,e2⟩|⟨g,cp,cur,e1,e2,e3,e4,_⟩
   rw[e1];exact Zm3 hT hi none 0 0 ad cap (Ws _);rw[e1];exact Zm3 hT hi _ _ _ ad cap e4
  simp only[wpv,hex,hrun,Wal,Wdg,Wdq,Wc9,Wbt,War];rw[hset H i _ hb]
  refine⟨β,hr,?_,W0 _ _,Wdu _ _⟩
  simp only[VR];exact⟨by rw[←hxv];exact ho1,ed,he,g1,λ_=>rfl⟩
 rcases hsrc with⟨hy0,hya⟩|⟨b,off,cap,nvals,hya,k1,k2,k3⟩
 exact keep hy0 hya
 by_cases hy0:ys=[]
 exact keep hy0 ⟨_,_,by rw[hya,hy0];rfl⟩;have hyl:0<ys.length:=Wck.2 hy0
 have hnl:nvals.length=ys.length*s:=by rw[Waw _ _ k1,Zu4 ys k2]
 have hone:∀ u∈nvals,u.oneCell'=true:=Wf5 h1 k1
 have hfin:∀ v' w',(Builtin.append_ #[T,T] o.type #[ed.v,a.eval y]).run P w=.ok v' w'→v'.oneCell'=true→w'.os=w.os→w'.tape=w.tape→w'.output=w.output→w.drawn≤w'.drawn→w.heap.size≤w'.heap.size →
   (∀ b,b<w.heap.size→ed.v.ownBlock≠some b→w'.heap[b]? = w.heap[b]?) →
   World.ownsM w' c.w0.heap.size t s v' (n+ys.length) (vals++nvals)→(∀ g,v'.ownBlock=some g→ed.v.ownBlock=some g∨(w.heap.size≤g∧g<w'.heap.size)) →
   wpv P o a w (λv w'=>RelV G c β H w st (H.set i (.tr t s (n+ys.length) (cs++ys.flatten.map .pv))) a (.own i (n+ys.length)) v w'):=by
  intro v' w' hrun hv1 m1 m2 m3 md m4 m5 m7 m8;simp only[wpv,hex,hrun,Wal]
  have hin:∀ b∈bs',b∈ed.bs∧ed.v.ownBlock≠some b:=λb hbb=>⟨by rw[q7];simp[hbb],λho=>hnd.2.2 b (by rw[ho];simp) b hbb rfl⟩
  obtain⟨r1,r2,r3⟩:=hr.rebufT he hb (n':=n+ys.length) (cs':=cs++ys.flatten.map .pv) (bs':=bs') m1 m2 m3 (dle.of md) m4 m5 om (λhl=>absurd hl om) m7 m8 hin hnd.2.1 (λhx' hbx'=>by
   have:=Wfc _ _ _ _ _ _ (Wco hx' hbx' _ _ _ (λb hbb=>m5 b (by
    have h5:=hr.loc i ed _ b (hr.notIn hb rfl) he hb (hin b hbb).1
    exact h5.2) (hin b hbb).2) q6) (Why (base:=c.w0.heap.size) _ _ (Wam hx' hbx' k1))
   simpa only[War]using this)
  refine⟨_,r1,?_,r3,r2⟩
  simp only[VR];exact⟨Z51 m7,_,Wae (by rw[hr.len];exact hil),Ws _,λ_=>rfl⟩
 have hmax:n+ys.length≤maxLen:=by unfold maxLen;omega
 rcases hown' with⟨e1,e2⟩|⟨g,cp,cur,e1,e2,e3,e4,e5,e6,e7⟩
 have hv0:vals=[]:=Wab (by rw[hvl,e2];simp);subst hv0 e2
 have hn':ys.length*ti.bytes≤140737488355328:=by simpa using hn
 have hrun:=run_append_nil (P:=P) w T o.type t ti z hT hi hz ⟨b,off,none⟩ ys.length cap nvals (by rw[hnl,hs]) k3 hyl (by have:=hmax;simp[maxLen]at this;omega) om;rw[←hya,←e1]at hrun;have hcap:=Wgp w ys.length 0 t;have hcap2:=Wec w ys.length 0 t (by simpa using hmax)
 refine hfin _ _ hrun rfl rfl rfl rfl (by first|exact Ws _|exact Wcp _ _) sM (λb' hb' _=>heap_alloc_old _ _ (by simpa using hb')) ?_ (λg hg=>?_)
 refine⟨by simp[hnl],.inr ⟨w.heap.size,_,_,sM,hr.frm.size,Zzj w.drew _ _,by simpa using hcap,hcap2,?_,?_⟩⟩
 simp[Wfi,hzs,hnl];rw[←Waz];congr 1;omega;simp[hnl];simp[Value.ownBlock]at hg;subst hg;exact .inr ⟨Ws _,sM⟩
 have hcells:∀ j u,vals[j]? = some u→w.cell? ((⟨g,0,none⟩:Addr).add j)=some u:=λj u hj=>by
  rw[Zc3,Zga e3];rw[←e7,Wba]at hj
  split at hj
  simpa using hj
  cases hj
 by_cases hroom:n+ys.length≤cp
 have hfit:n*ti.size+nvals.length≤cur.size:=by
  rw[hs,hnl,e6,←Waz];exact W9 s hroom
 have hrun:=Zx5 (P:=P) w T o.type t ti hT hi g n cp cur e3 ⟨b,off,none⟩ ys.length cap nvals (by rw[hnl,hs]) k3 hone hroom hfit;rw[←hya,←e1]at hrun
 have hcl2:cur.toList.take (n*ti.size)=vals:=by rw[hs];exact e7
 rw[hcl2]at hrun;have hrow:=Zrl (us:=(vals++nvals++cur.toList.drop (n*ti.size+nvals.length)).toArray) e3 gD;have hvlen:vals.length=n*s:=hvl
 refine hfin _ _ hrun rfl rfl rfl rfl (by first|exact Ws _|exact Wcp _ _) (by rw[Wep];exact Ws _) (λb' hb' hne=>?_) ?_ (λg' hg=>?_)
 have:b'≠g:=λeq=>hne (by rw[e1,eq];rfl)
 simp only[World.setRow,Wby];rw[if_neg (Wcf this)]
 refine⟨by simp only[Wm];rw[hvlen,hnl,←Waz],.inr ⟨g,cp,_,sM,e2,hrow,by simpa using hroom,e5,?_,?_⟩⟩
 simp only[List.size_toArray,Wm,Wax,Wa5];rw[hvlen,hnl,hs]
 have:n*s+ys.length*s≤cur.size:=by rw[hnl,hs]at hfit;exact hfit
 omega;simp only[];rw[Wcz (by simp only[Wm];rw[hvlen,hnl,←Waz])];simp[Value.ownBlock]at hg;subst hg;exact .inl (by rw[e1];rfl)
 have hgr:cp<n+ys.length:=om
 have hrun:=run_append_grow (P:=P) w T o.type t ti z hT hi hz ⟨g,0,none⟩ n cp vals (by rw[hvl,hs]) hcells ⟨b,off,none⟩ ys.length cap nvals (by rw[hnl,hs]) k3 hgr (by have:=hmax;simp[maxLen]at this;omega) (growslice_fits hgr hn);rw[←hya,←e1]at hrun;have hcap:=Wgp w (n+ys.length) cp t;have hcap2:=Wec w (n+ys.length) cp t hmax
 refine hfin _ _ hrun rfl rfl rfl rfl (by first|exact Ws _|exact Wcp _ _) sM (λb' hb' _=>heap_alloc_old _ _ (by simpa using hb')) ?_ (λg' hg=>?_)
 refine⟨by simp only[Wm];rw[hvl,hnl,←Waz],.inr ⟨w.heap.size,_,_,sM,hr.frm.size,Zzj w.drew _ _,by simpa using hcap,hcap2,?_,?_⟩⟩
 simp[Wfi,hzs,hnl,hvl];rw[←Waz,←Waz];congr 1;omega;rw[Wd2,Wd2,Wcz (by simp[hvl,hnl,Waz])];simp[Value.ownBlock]at hg;subst hg;exact .inr ⟨Ws _,sM⟩
end
section
variable {α γ:Type}
def Wdh:=@Nat.add_sub_cancel_left
def Zaag {s off:Nat} {v:γ}:∀(L:List (List γ)) k x,L[k]? = some x→(∀ y∈L,y.length=s)→off<s→L.flatten.set (k*s+off) v=(L.set k (x.set off v)).flatten
 |[],k,x,hk,_,_=>gD
 |y::L,0,x,hk,hl,ho=>by
  grind
 |y::L,k+1,x,hk,hl,ho=>by
  have hy:=hl y sM;simp;rw[show(k+1)*s+off=y.length+(k*s+off) by grind,Wbe _ _ om,Wdh,Zaag L k x gD gD ho]
def Zaah {s off:Nat}:∀(L:List (List γ)) k x,L[k]? = some x→(∀ y∈L,y.length=s)→off<s→L.flatten[k*s+off]? = x[off]?
 |[],k,x,hk,_,_=>gD
 |y::L,0,x,hk,hl,ho=>by
  grind
 |y::L,k+1,x,hk,hl,ho=>by
  have hy:=hl y sM;simp;rw[show(k+1)*s+off=y.length+(k*s+off) by grind,Wa4 om,Wdh,Zaah L k x gD gD ho]
def Z7j {s off:Nat}:∀(L:List (List γ)) k x,L[k]? = some x→(∀ y∈L,y.length=s)→off≤s→∃ r,L.flatten.drop (k*s+off)=x.drop off++r
 |[],k,x,hk,_,_=>gD
 |y::L,0,x,hk,hl,ho=>by
  cases hk;have hy:=hl y sM;simp;exact⟨_,List.drop_append_of_le_length om⟩
 |y::L,k+1,x,hk,hl,ho=>by
  have hy:=hl y sM;simp;rw[show(k+1)*s+off=y.length+(k*s+off) by grind,Wd4];exact Z7j L k x gD gD ho
def Zaai {s:Nat}:∀(L:List (List γ)),(∀ y∈L,y.length=s)→L.flatten.length=L.length*s
 |[],_=>sM
 |y::L,hl=>by
  simp only[Wbw,Wm,Waj,Wcu];rw[Zaai L λz hz=>hl z gD,hl y sM];omega
def cellsO (orow:α→List OV) (l:List α):List OV:=(l.map orow).flatten
def owB (t s:Nat) (row:α→List PV) (l:List α):OV:=.own t s l.length (((l.map row).flatten).map .pv)
variable {orow:α→List OV} {row:α→List PV} {s:Nat} {l m:List α} {j:Int} {z z':α}
def Zaaj:cellsO orow l++cellsO orow m=cellsO orow (l++m):=by simp[cellsO]
def Z6b (hz:idx l j=some z) (f:α→γ):(l.map f)[j.toNat]? = some (f z):=by
 rw[Wbf,(Zpe hz).2.2];rfl
def Zsu {f:α→List γ} (hs:∀ z,(f z).length=s):∀ y∈l.map f,y.length=s:=λy hy=>by
 grind
def Zaak (hs:∀ z,(orow z).length=s):(cellsO orow l).length=l.length*s:=by
 rw[cellsO,Zaai _ (Zsu hs),Wt]
def Zag7 (hs:∀ z,(orow z).length=s) (hz:idx l j=some z) {off:Nat} (ho:off<s):(cellsO orow l)[j.toNat*s+off]? = (orow z)[off]?:=
 Zaah _ _ _ (Z6b hz orow) (Zsu hs) ho
def Zacb (hs:∀ z,(orow z).length=s) (hz:idx l j=some z) {off:Nat} (ho:off<s):j.toNat*s+off<(cellsO orow l).length:=by
 rw[Zaak hs];have h3:=Zpe hz;have:(j.toNat+1)*s≤l.length*s:=W9 s om
 grind
def Zag8 (hs:∀ z,(orow z).length=s) (hz:idx l j=some z) {off:Nat} (ho:off<s) {o:OV} (hz':orow z'=(orow z).set off o):(cellsO orow l).set (j.toNat*s+off) o=cellsO orow (l.set j.toNat z'):=by
 rw[cellsO,Zaag _ _ _ (Z6b hz orow) (Zsu hs) ho,cellsO,Wef,hz']
def Zaf5 (xs ys:List OV):∃ zs,plains (xs++ys)=plains xs++zs:=⟨plains ys,by simp[plains]⟩
def Zaij {P:Program} {t:TypeId} {cs zs:List PV} {p:PV} (h:ldPV P t cs=some p):ldPV P t (cs++zs)=some p:=by
 unfold ldPV at h⊢
 grind
def Zaik {P:Program} {t:TypeId} (hs:∀ z,(orow z).length=s) (hz:idx l j=some z) {off:Nat} (ho:off≤s) {p:PV} (h:ldPV P t (plains ((orow z).drop off))=some p):ldPV P t (plains ((cellsO orow l).drop (j.toNat*s+off)))=some p:=by
 obtain⟨r,hr⟩:=Z7j _ _ _ (Z6b hz orow) (Zsu hs) ho;rw[cellsO,hr];obtain⟨zs,h2⟩:=Zaf5 ((orow z).drop off) r;rw[h2];exact Zaij h
def Zacc {q:Nat→Bool}:∀ a b,PV.idss q a=true→PV.idss q b=true→PV.idss q (a++b)=true
 |[],_,_,hb=>hb
 |p::a,b,ha,hb=>by
  simp  [PV.idss,Wh]at ha
  simp  [Wds,PV.idss,Wh];exact⟨ha.1,Zacc a b ha.2 hb⟩
def Zx6 {q:Nat→Bool} (hc:∀ z,PV.idss q (row z)=true):∀(l:List α),PV.idss q (l.map row).flatten=true
 |[]=>by simp  [Wbt,Wc9,PV.idss]
 |x::l=>Zacc _ _ (hc x) (Zx6 hc l)
def FZ.owB {t:Nat} (hs:∀ z,(row z).length=s) (hc:∀ z,PV.idss (λ_=>false) (row z)=true) (l:List α):FZ (owB t s row l) (.sl s (l.map row)):=⟨l.map row,rfl,sM,Zsu hs,FZs.pvs _ (Zx6 hc l)⟩
def FZs.cells (h:∀ z,FZs (orow z) (row z)):∀ l,FZs (cellsO orow l) (l.map row).flatten
 |[]=>by simp  [cellsO,Wbt,Wc9,FZs]
 |x::l=>by
  have:=FZs.app _ _ _ _ (h x) (FZs.cells h l)
  simpa only[cellsO,W7,Wbw]using this
end
def T.os (x:List OV):T:=.bs [some (.tr 0 0 0 x)]
def T.os_inj {x y:List OV}:(T.os x=T.os y)=(x=y):=by simp[T.os]
structure Gst (G:Glob) where
 run:List Blk→Option (List Blk×List T×List T)
 sound:∀ {H H':List Blk} {l r:List T},run H=some (H',l,r)→l=r→∀ {c:Ctx} {β:List Bnd} {st:St} {a:Act} {w:World},RelB G c β st H a w →
  ∃ β',RelB G c β' st H' a w∧BExt (λ_=>true) β β'∧Ext (stab c β H w) w (stab c β' H' w) w
def gH (r:Option (List Blk×List T×List T)):Option (List Blk):=match r with|some x=>some x.1|none=>none
def gl (r:Option (List Blk×List T×List T)):List T:=match r with|some x=>x.2.1|none=>[]
def gr (r:Option (List Blk×List T×List T)):List T:=match r with|some x=>x.2.2|none=>[]
section
variable {P:Program} {G:Glob} {n0 nt:Nat} {o:Oper} {st:St} {H H':List Blk} {Q:Exit→St→List Blk→Prop}
def Gst.le (g:Gst G) (h1:gH (g.run H)=some H') (h2:gl (g.run H)=gr (g.run H)):Le G n0 nt st H st H':=λc a w β _ _ hr=>by
 cases hx:g.run H;rw[hx]at h1;cases h1;rw[hx]at h1 h2;cases h1;obtain⟨β',h3,_,_⟩:=g.sound hx h2 hr
 grind
def We9:=@List.append_inj
def Hnd.pre (g:Gst G) (k:Hnd P G):Hnd P G where
 run o st H:=match g.run H with
  |some (H1,l,r)=>match Nat.beq l.length r.length with
   |true=>(k.run o st H1).map λx=>⟨x.p,x.H,l++x.l,r++x.r⟩
   |false=>none
  |none=>none
 sound:=by
  intro n0 o st H x h he
  split at h
  rename_i H1 l r hg
  split at h
  rename_i hl
  simp at h
  obtain⟨y,hy,rfl⟩:=h;obtain⟨h1,h2⟩:=We9 he (Wd hl);intro c a w β hn hr;obtain⟨β1,hr1,_,_⟩:=g.sound hg h1 hr;exact k.sound hy h2 c a w β1 hn hr1;cases h;cases h
def Hnd.post (k:Hnd P G) (g:Gst G):Hnd P G where
 run o st H:=match k.run o st H with
  |some x=>match g.run x.H with
   |some (H1,l,r)=>match Nat.beq l.length r.length with
    |true=>some ⟨x.p,H1,l++x.l,r++x.r⟩
    |false=>none
   |none=>none
  |none=>none
 sound:=by
  intro n0 o st H x h he
  split at h
  rename_i y hy
  split at h
  rename_i H1 l r hg
  split at h
  rename_i hl;cases h;obtain⟨h1,h2⟩:=We9 he (Wd hl);intro c a w β hn hr
  refine Zjp (k.sound hy h2 c a w β hn hr) λv w' ⟨β1,hr1,hv⟩=>?_
  obtain⟨β2,hr2,hb,hx⟩:=g.sound hg h1 hr1;exact⟨β2,hr2,Wce hx hb hv⟩;cases h;cases h;cases h
end
section
variable {P:Program} {G:Glob} {α α':Type}
def Gst.eqC (i:Nat) {ca cb:List OV} (h:ca=cb):Gst G where
 run H:=match H[i]? with
  |some (.tr t s n cs)=>some (H.set i (.tr t s n cb),[T.os cs],[T.os ca])
  |_=>none
 sound:=by
  intro H H' l r h1 h2 c β st a w hr
  split at h1
  rename_i t s n cs hb;cases h1
  simp  [Wak,T.os_inj,and_true]at h2
  subst h h2
  have hset:H.set i (.tr t s n cs)=H:=by
   refine Wch λj=>?_
   grind
  rw[hset];exact⟨β,hr,W0 _ _,Wdu _ _⟩
  grind
def Gst.takeB (i:Nat) (orow:α→List OV) {s:Nat} (hs:∀ z,(orow z).length=s) {l:List α} {j:Int} {z:α} (hz:idx l j=some z) {off:Nat} (ho:off<s) (row':α'→List PV) {s':Nat} (hs':∀ z,(row' z).length=s') (hc':∀ z,PV.idss (λ_=>false) (row' z)=true) (x:List α') (t':Nat)
  (hcell:(orow z)[off]? = some (owB t' s' row' x)):Gst G where
 run H:=match H[i]? with
  |some (.tr t s1 n cs)=>match Nat.beq s1 s with
   |true=>some ((H.set i (.tr t s1 n ((cellsO orow l).set (j.toNat*s+off) (.pv (.own H.length x.length)))))++[.buf s' t' (x.map row') false],[T.os cs],[T.os (cellsO orow l)])
   |false=>none
  |_=>none
 sound:=by
  intro H H' l r h1 h2 c β st a w hr
  split at h1
  rename_i t s1 n cs hb
  split at h1
  rename_i hse;have hse:=Wd hse;subst hse;cases h1;cases h2;have hg:=Zag7 hs hz ho;rw[hcell]at hg;obtain⟨β1,hr1,x1,y1⟩:=hr.take hb hg
  have hlen:(H.set i (.tr t s1 n ((cellsO orow l).set (j.toNat*s1+off) (.pv (.own H.length x.length))))).length=H.length:=sM
  have hb2:(H.set i (.tr t s1 n ((cellsO orow l).set (j.toNat*s1+off) (.pv (.own H.length x.length))))++[Blk.tr t' s' x.length (((x.map row').flatten).map .pv)])[H.length]? = some (.tr t' s' x.length (((x.map row').flatten).map .pv)):=by
   simp
  obtain⟨β2,hr2,x2,y2⟩:=hr1.trBuf (i:=H.length) (xs:=x.map row') hb2 (FZs.pvs _ (Zx6 hc' x)) sM (Zsu hs');rw[Wbe _ _ sM,hlen,Nat.sub_self]at hr2 y2;exact⟨β2,hr2,Wdx x1 x2,Wdz y1 y2⟩;cases h1
  grind
def Gst.giveB (i jb:Nat) (orow:α→List OV) {s:Nat} (hs:∀ z,(orow z).length=s) {l:List α} {j:Int} {z:α} (hz:idx l j=some z) {off:Nat} (ho:off<s) (row':α'→List PV) (s':Nat) (x:List α') (t':Nat) (m0:Nat) (hm:x.length=m0) (z':α)
  (hz':orow z'=(orow z).set off (owB t' s' row' x)):Gst G where
 run H:=match H[i]?,H[jb]? with
  |some (.tr t s1 n cs),some (.buf s2 t2 xs false)=>match Nat.beq s1 s&&Nat.beq s2 s'&&Nat.beq t2 t'&&!(Nat.beq i jb)with
   |true=>some ((H.set i (.tr t s1 n (cellsO orow (l.set j.toNat z')))).set jb .dead,[T.os cs,.rs xs],[T.os ((cellsO orow l).set (j.toNat*s+off) (.pv (.own jb m0))),.rs (x.map row')])
   |false=>none
  |_,_=>none
 sound:=by
  intro H H' l r h1 h2 c β st a w hr
  split at h1
  rename_i t s1 n cs s2 t2 xs hb hbj
  split at h1
  rename_i hse;simp only[Wh]at hse;obtain⟨⟨⟨e1,e2⟩,e3⟩,e4⟩:=hse;have e1:=Wd e1;have e2:=Wd e2;have e3:=Wd e3
  have e4:i≠jb:=λh=>gD
  subst e1 e2 e3;cases h1;cases h2;obtain⟨β1,hr1,x1,y1⟩:=hr.bufTr hbj
  have hb1:(H.set jb (.tr t2 s2 (x.map row').length ((x.map row').flatten.map .pv)))[i]? = some (.tr t s1 n ((cellsO orow l).set (j.toNat*s1+off) (.pv (.own jb x.length)))):=gD
  have hgl:=Zacb hs hz ho;obtain⟨β2,hr2,x2,y2⟩:=hr1.give (q:=j.toNat*s1+off) (n':=(x.map row').length) e4 hb1 gD (Wae (We.1 hbj).1);rw[Wee,Wt]at hr2 y2;rw[Wt]at y1;have hcs:=Zag8 hs hz ho hz';simp only[owB]at hcs;rw[hcs]at hr2 y2
  have hcomm:∀ k,((H.set jb (.tr t2 s2 x.length ((x.map row').flatten.map .pv))).set i k).set jb .dead=(H.set i k).set jb .dead:=λk=>by
   rw[List.set_comm _ _ (Wcf e4),Wee]
  rw[hcomm]at hr2 y2;exact⟨β2,hr2,Wdx x1 x2,Wdz y1 y2⟩;cases h1
  grind
def Gst.giveA (i jb:Nat) (orow:α→List OV) (l:List α) (c0:List OV) (off:Nat) (row':α'→List PV) (s':Nat) (x:List α') (t':Nat) (m0:Nat) (hm:x.length=m0) (hc:c0[off]? = some (.pv (.own jb m0))):Gst G where
 run H:=match H[i]?,H[jb]? with
  |some (.tr t s1 n cs),some (.buf s2 t2 xs false)=>match Nat.beq s2 s'&&Nat.beq t2 t'&&!(Nat.beq i jb)with
   |true=>some ((H.set i (.tr t s1 n (cellsO orow l++c0.set off (owB t' s' row' x)))).set jb .dead,[T.os cs,.rs xs],[T.os (cellsO orow l++c0),.rs (x.map row')])
   |false=>none
  |_,_=>none
 sound:=by
  intro H H' l0 r h1 h2 c β st a w hr
  split at h1
  rename_i t s1 n cs s2 t2 xs hb hbj
  split at h1
  rename_i hse;simp only[Wh]at hse;obtain⟨⟨e2,e3⟩,e4⟩:=hse;have e2:=Wd e2;have e3:=Wd e3
  have e4:i≠jb:=λh=>gD
  subst e2 e3;cases h1;cases h2;obtain⟨β1,hr1,x1,y1⟩:=hr.bufTr hbj
  have hb1:(H.set jb (.tr t2 s2 (x.map row').length ((x.map row').flatten.map .pv)))[i]? = some (.tr t s1 n (cellsO orow l++c0)):=gD
  obtain⟨β2,hr2,x2,y2⟩:=hr1.give (q:=(cellsO orow l).length+off) (n':=(x.map row').length) e4 hb1 gD (Wae (We.1 hbj).1);rw[Wbe _ _ om,Wdh,Wt]at hr2 y2;rw[Wt]at y1
  have hcomm:∀ k,((H.set jb (.tr t2 s2 x.length ((x.map row').flatten.map .pv))).set i k).set jb .dead=(H.set i k).set jb .dead:=λk=>by
   rw[List.set_comm _ _ (Wcf e4),Wee]
  rw[hcomm]at hr2 y2;exact⟨β2,hr2,Wdx x1 x2,Wdz y1 y2⟩;cases h1
  grind
def Gst.toBuf (i:Nat) (orow:α→List OV) (row:α→List PV) {s:Nat} (hs:∀ z,(row z).length=s) (hf:∀ z,FZs (orow z) (row z)) (l:List α):Gst G where
 run H:=match H[i]? with
  |some (.tr t s1 n cs)=>match Nat.beq s1 s with
   |true=>some (H.set i (.buf s t (l.map row) false),[T.os cs,.n n],[T.os (cellsO orow l),.n l.length])
   |false=>none
  |_=>none
 sound:=by
  intro H H' l0 r h1 h2 c β st a w hr
  split at h1
  rename_i t s1 n cs hb
  split at h1
  rename_i hse;have hse:=Wd hse;subst hse;cases h1;cases h2;exact hr.trBuf hb (FZs.cells hf l) sM (Zsu hs);cases h1
  grind
def Gst.toTr (i:Nat) (orow:α→List OV) (row:α→List PV) (l:List α) (h:((l.map row).flatten).map OV.pv=cellsO orow l):Gst G where
 run H:=match H[i]? with
  |some (.buf s t xs false)=>some (H.set i (.tr t s l.length (cellsO orow l)),[.rs xs],[.rs (l.map row)])
  |_=>none
 sound:=by
  intro H H' l0 r h1 h2 c β st a w hr
  split at h1
  rename_i s t xs hb;cases h1;cases h2;have:=hr.bufTr hb;rw[h,Wt]at this;exact this
  grind
def RelB.nilOwn {c:Ctx} {β:List Bnd} {st:St} {H:List Blk} {a:Act} {w:World} (h:RelB G c β st H a w) {i q t s n t' s':Nat} {cs:List OV} (hb:H[i]? = some (.tr t s n cs)) (hq:cs[q]? = some (.pv (.sc (.slice none 0 0)))) :
  ∃ β',RelB G c β' st (H.set i (.tr t s n (cs.set q (.own t' s' 0 [])))) a w∧BExt (λ_=>true) β β'∧Ext (stab c β H w) w (stab c β' (H.set i (.tr t s n (cs.set q (.own t' s' 0 [])))) w) w:=by
 obtain⟨e,he⟩:∃ e,β[i]? = some e:=⟨β[i]'(by rw[h.len];grind),gD⟩;obtain⟨l1,l2,rfl,rfl⟩:=Z0p hq;obtain⟨k1,k2,k3,vals,bs',k4,k5,k6⟩:=h.trs he hb;obtain⟨us1,us2,b1,b2,rfl,rfl,k7,k8⟩:=Wdy _ _ _ _ k5;cases us2
 simp  [OVRs]at k8
 rename_i u us2;obtain⟨d,b3,⟨hu,hd⟩,k9,hb3⟩:=k8;subst hu hd;subst hb3;obtain⟨r1,r2,r3⟩:=h.one (i:=i) (e:=e) (bs:=e.bs) (k':=.tr t s n (l1++.own t' s' 0 []::l2)) he hb rfl (λb hbb=>hbb) (λb hi hff=>hff)
  (λhx hbx=>by
   refine⟨k1,k2,k3,us1++.slice none 0 0::us2,b1++([]++b2),k4,Wfc _ _ _ _ _ _ (Wco hx hbx _ _ _ (λ_ _=>rfl) k7) ?_,k6⟩
   exact⟨[],b2,⟨[],[],⟨sM,.inl ⟨rfl,rfl⟩⟩,rfl,rfl⟩,Wco hx hbx _ _ _ (λ_ _=>rfl) k9,rfl⟩)
 grind
def Gst.nilA (i:Nat) (orow:α→List OV) (l:List α) (c0:List OV) (off t' s':Nat) (hc:c0[off]? = some (.pv (.sc (.slice none 0 0)))):Gst G where
 run H:=match H[i]? with
  |some (.tr t s1 n cs)=>some (H.set i (.tr t s1 n (cellsO orow l++c0.set off (.own t' s' 0 []))),[T.os cs],[T.os (cellsO orow l++c0)])
  |_=>none
 sound:=by
  intro H H' l0 r h1 h2 c β st a w hr
  split at h1
  rename_i t s1 n cs hb;cases h1;cases h2;have:=hr.nilOwn (q:=(cellsO orow l).length+off) (t':=t') (s':=s') hb gD
  rwa [Wbe _ _ om,Wdh]at this
  grind
def Hnd.idxT {l:List α} {j:Int} {z:α} (hz:AM.idx l j=some z):Hnd P G where
 run o st H:=match o.op with
  |.indexAddr t x y=>match P.underlying t,opd G st x,opd G st y with
   |some (.slice e),some (.own i n),some (.sc (.int _ j'))=>match H[i]? with
    |some (.tr _ s n1 _)=>match Nat.beq (P.cellsOf e) s&&!(Nat.beq s 0)with
     |true=>some ⟨.ept i l.length j.toNat 0,H,[.n n,.n n1,.i j'],[.n l.length,.n l.length,.i j]⟩
     |false=>none
    |_=>none
   |_,_,_=>none
  |_=>none
 sound:=by
  intro n0 o st H x h he
  suffices hT:OpT P G n0 o st H x.p x.H from hT.weak
  split at h
  rename_i t x y ho
  split at h
  rename_i e i n k j' hu hx hy
  split at h
  rename_i ty s n1 cs hb
  split at h
  rename_i hc;cases h;cases he;have h3:=Zpe hz;exact OpT.index_tr ho hu sA (λh=>sA) hx hb hy h3.1 h3.2.1;cases h;cases h;cases h;cases h
def Hnd.fdT:Hnd P G where
 run o st H:=match o.op with
  |.fieldAddr s x f=>match fieldPl P s f,opd G st x with
   |some (d,m),some (.ept i n k off)=>match H[i]? with
    |some (.tr _ _ n1 _)=>match Nat.beq m 0 with
     |true=>none
     |false=>some ⟨.ept i n k (off+d),H,[.n n],[.n n1]⟩
    |_=>none
   |_,_=>none
  |_=>none
 sound:=by
  intro n0 o st H x h he
  suffices hT:OpT P G n0 o st H x.p x.H from hT.weak
  split at h
  rename_i s x f ho
  split at h
  rename_i d m i n k off hf hx
  split at h
  rename_i ty z n1 cs hb
  split at h
  cases h;rename_i hm;cases h;cases he
  unfold fieldPl at hf
  split at hf
  rename_i fs hu;cases hfd:fs[f]?;simp[hfd]at hf
  simp  [hfd]at hf
  obtain⟨rfl,rfl⟩:=hf;exact OpT.field_tr ho hu hfd (λh=>sA) hx hb;cases hf;cases h;cases h;cases h
def Hnd.lenT (l:List α):Hnd P G where
 run o st H:=match o.op with
  |.call cl=>match cl with
   |{callee:=.builtin .len,args:=⟨[x]⟩,argTypes:=⟨[T0]⟩}=>match P.underlying T0,opd G st x with
    |some (.slice _),some (.own i n)=>match H[i]? with
     |some (.tr _ _ n1 _)=>some ⟨.sc (.int .i64 l.length),H,[.n n,.n n1],[.n l.length,.n l.length]⟩
     |_=>none
    |_,_=>none
   |_=>none
  |_=>none
 sound:=by
  intro n0 o st H x h he
  suffices hT:OpT P G n0 o st H x.p x.H from hT.weak
  split at h
  rename_i cl ho
  split at h
  split at h
  rename_i e i n hu hx
  split at h
  rename_i ty s n1 cs hb;cases h;cases he;exact OpT.len_tr ho rfl hu hx hb;cases h;cases h;cases h;cases h
def Hnd.ldT (orow:α→List OV) {s:Nat} (hs:∀ z,(orow z).length=s) {l:List α} {j:Int} {z:α} (hz:AM.idx l j=some z):Hnd P G where
 run o st H:=match o.op with
  |.load t x=>match opd G st x with
   |some (.ept i n k off)=>match H[i]? with
    |some (.tr _ s1 n1 cs)=>match Nat.beq s1 s&&Nat.ble off s with
     |true=>(ldPV P t (plains ((orow z).drop off))).map λp=>⟨p,H,[.n n,.n n1,.n k,T.os cs],[.n l.length,.n l.length,.n j.toNat,T.os (cellsO orow l)]⟩
     |false=>none
    |_=>none
   |_=>none
  |_=>none
 sound:=by
  intro n0 o st H x h he
  suffices hT:OpT P G n0 o st H x.p x.H from hT.weak
  split at h
  rename_i t x ho
  split at h
  rename_i i n k off hx
  split at h
  rename_i ty s1 n1 cs hb
  split at h
  rename_i hc;simp only[Wh]at hc;have h1:=Wd hc.1;subst h1
  simp at h
  obtain⟨p,hp,rfl⟩:=h;cases he;exact OpT.load_tr ho hx hb (Zaik hs hz sA hp);cases h;cases h;cases h;cases h
def Hnd.ldH (orow:α→List OV) {s:Nat} (hs:∀ z,(orow z).length=s) {l:List α} {j:Int} {z:α} (hz:AM.idx l j=some z) (p:PV):Hnd P G where
 run o st H:=match o.op with
  |.load t x=>match opd G st x with
   |some (.ept i n k off)=>match H[i]?,isAggT P t with
    |some (.tr _ s1 n1 cs),some false=>match Nat.beq s1 s&&Nat.blt off s with
     |true=>some ⟨p,H,[.n n,.n n1,.n k,T.os cs],[.n l.length,.n l.length,.n j.toNat,T.os ((cellsO orow l).set (j.toNat*s+off) (.pv p))]⟩
     |false=>none
    |_,_=>none
   |_=>none
  |_=>none
 sound:=by
  intro n0 o st H x h he
  suffices hT:OpT P G n0 o st H x.p x.H from hT.weak
  split at h
  rename_i t x ho
  split at h
  rename_i i n k off hx
  split at h
  rename_i ty s1 n1 cs hb hag
  split at h
  rename_i hc;simp only[Wh]at hc;have h1:=Wd hc.1;subst h1;have hlt:=W1 hc.2;cases h;cases he
  refine OpT.load_tr ho hx hb ?_
  have hd:((cellsO orow l).set (j.toNat*s1+off) (.pv p)).drop (j.toNat*s1+off)=.pv p::(cellsO orow l).drop (j.toNat*s1+off+1):=by
   rw[←List.getElem_cons_drop (by simpa using Zacb hs hz hlt),List.getElem_set_self,Wfn om]
  rw[hd];simp only[plains,W7,plain1,ldPV,hag,List.head?_cons];cases h;cases h;cases h;cases h
def Hnd.stO (orow:α→List OV) {s:Nat} (hs:∀ z,(orow z).length=s) {l:List α} {j:Int} {z:α} (hz:AM.idx l j=some z) (off0:Nat) (p0:Option PV):Hnd P G where
 run o st H:=match o.op with
  |.store t x y=>match opd G st x,opd G st y with
   |some (.ept i n k off),some (.own jb m)=>match H[i]? with
    |some (.tr ty s1 n1 cs)=>match Nat.beq s1 s&&(Nat.beq (P.cellsOf t) 1&&(P.info? t).isSome&&Nat.blt off s&&Nat.beq off off0)with
     |true=>some ⟨.sc undef,H.set i (.tr ty s1 n1 ((cellsO orow l).set (j.toNat*s+off0) (.pv (.own jb m)))),[.n n,.n n1,.n k,T.os cs],[.n l.length,.n l.length,.n j.toNat,T.os (match p0 with|none=>cellsO orow l|some p=>(cellsO orow l).set (j.toNat*s+off0) (.pv p))]⟩
     |false=>none
    |_=>none
   |_,_=>none
  |_=>none
 sound:=by
  intro n0 o st H x h he
  suffices hT:OpT P G n0 o st H x.p x.H from hT.weak
  split at h
  rename_i t x y ho
  split at h
  rename_i i n k off jb m hx hy
  split at h
  rename_i ty s1 n1 cs hb
  split at h
  rename_i hc;simp only[Wh]at hc;obtain⟨c0,⟨⟨c1,c2⟩,c3⟩,c4⟩:=hc;have h1:=Wd c0;have h2:=Wd c4;subst h1 h2;cases h;simp only[Wak,Wd6,T.os_inj,and_true]at he;obtain⟨rfl,rfl,rfl,hcs⟩:=he;have hlt:=W1 c3;have h3:=Zpe hz
  have hbound:j.toNat*s1+off+1≤l.length*s1:=by
   have:(j.toNat+1)*s1≤l.length*s1:=W9 s1 om
   grind
  have hcl:(PV.own jb m).cells=[.own jb m]:=rfl;have:=OpT.store_tr (n0:=n0) ho hx hy hb sA c2 gD rfl;rw[hcl]at this
  have hset:∀ cs:List OV,j.toNat*s1+off<cs.length→cs.take (j.toNat*s1+off)++[PV.own jb m].map OV.pv++cs.drop (j.toNat*s1+off+[PV.own jb m].length)=cs.set (j.toNat*s1+off) (.pv (.own jb m)):=λcs hl=>by
   rw[List.set_eq_take_append_cons_drop,if_pos hl];simp
  have hgl:j.toNat*s1+off<(cellsO orow l).length:=by rw[Zaak hs];omega
  rw[hset cs gD,hcs]at this;cases p0;exact this;simp_all;cases h;cases h;cases h;cases h
def Hnd.litFb:Hnd P G where
 run o st H:=match o.op with
  |.buildSlice t len parts=>match opds G st parts.toList with
   |some ps=>match litPV P t len ps with
    |some (e,out)=>some ⟨.own H.length len,H++[.fb (P.cellsOf e) e (rowsOf (P.cellsOf e) len out)],[],[]⟩
    |none=>none
   |none=>none
  |_=>none
 sound:=by
  intro n0 o st H x h he
  suffices hT:OpT P G n0 o st H x.p x.H from hT.weak
  split at h
  rename_i t len parts ho
  split at h
  rename_i ps hp
  split at h
  rename_i e out hl;cases h;exact OpT.litF ho hp hl;cases h;cases h;cases h
def Hnd.appT (orow:α→List OV) (l m:List α) (c0:List OV) (hn:l.length+m.length≤lim):Hnd P G where
 run o st H:=match o.op with
  |.call cl=>match cl with
   |{callee:=.builtin .append,args:=⟨[x,y]⟩,argTypes:=⟨[T0,U]⟩}=>match P.underlying T0,P.underlying U,opd G st x,opd G st y with
    |some (.slice t),some (.slice _),some (.own i n),some (.own b n2)=>match P.info? t,H[i]?,H[b]? with
     |some ti,some (.tr t' s n1 cs),some (.fb s2 _ ys)=>match ti.zero with
      |some z=>match Nat.beq t t'&&Nat.beq ti.size s&&Nat.beq z.cells.size s&&Nat.ble ti.bytes 65536&&Nat.beq s s2&&ys.flatten.all PV.one with
       |true=>some ⟨.own i (l++m).length,H.set i (.tr t s (l++m).length (cellsO orow l++c0)),[.n n,.n n1,T.os cs,.n n2,.n ys.length,T.os (ys.flatten.map .pv)],[.n l.length,.n l.length,T.os (cellsO orow l),.n m.length,.n m.length,T.os c0]⟩
       |false=>none
      |none=>none
     |_,_,_=>none
    |_,_,_,_=>none
   |_=>none
  |_=>none
 sound:=by
  intro n0 o st H x h he
  suffices hT:OpT P G n0 o st H x.p x.H from hT.weak
  split at h
  rename_i cl ho
  split at h
  split at h
  rename_i t e i n b n2 hu1 hu2 hx hy
  split at h
  rename_i ti t' s n1 cs s2 t2 ys hti hb hbb
  split at h
  rename_i z hz
  split at h
  rename_i hc;simp only[Wh]at hc;obtain⟨⟨⟨⟨⟨c1,c2⟩,c3⟩,c4⟩,c5⟩,c6⟩:=hc;have c1:=Wd c1;have c5:=Wd c5;subst c1 c5;cases h;simp only[Wak,Wd6,T.os_inj,and_true]at he;obtain⟨rfl,rfl,rfl,h5,h6,rfl⟩:=he
  have hlim:l.length+ys.length≤lim:=om
  have hby:=by
   have:=Wdp hlim (W1 c4);omega
  have:=OpT.append_tr (n0:=n0) ho rfl hu1 hu2 hti hz (Wd c2) (Wd c3) hx hb gD hbb c6 hby (by unfold lim at hlim;omega);rw[Wm,←h6];exact this;cases h;cases h;cases h;cases h;cases h;cases h
end
section
variable {P:Program} {G:Glob} {n0 nt:Nat} {o:Oper} {st:St} {H H':List Blk} {Q:Exit→St→List Blk→Prop} {α:Type}
def Hnd.s:Hnd P G where
 run o st H:=(stdRun P G o st H).map λr=>⟨r.1,r.2,[],[]⟩
 sound:=by
  intro n0 o st H x h he;simp only[Wg]at h;obtain⟨r,h1,rfl⟩:=h;exact(Wf8 h1).weak
def Gst.share (i:Nat):Gst G where
 run H:=match H[i]? with
  |some (.buf s t xs _)=>some (H.set i (.buf s t xs true),[],[])
  |_=>none
 sound:=by
  intro H H' l r h1 _ c β st a w hr
  split at h1
  rename_i s t xs sh hb;cases h1
  refine⟨β,hr.share hb,W0 _ _,⟨λb hi hs=>?_,λ_ _ _ _ _ _ h=>h⟩⟩
  rcases hs with hs|⟨h2,h3,h4⟩
  exact .inl hs
  refine .inr ⟨h2,h3,λj e k he hk=>?_⟩
  rcases Zot hk with⟨_,hk⟩|⟨rfl,rfl⟩
  exact h4 j e k he hk;intro hbb;have:=h4 j e _ he hb hbb;exact⟨rfl,this.2⟩
  grind
def wkP (H:List Blk):PV→PV
 |.own j n=>match H[j]? with
  |some (.buf s _ xs true)=>match Nat.beq n xs.length with
   |true=>.sl s xs
   |false=>.own j n
  |_=>.own j n
 |p=>p
def wkP_wk (H:List Blk) (p:PV):Wk H false p (wkP H p):=by
 unfold wkP;split;split;rename_i j n x s t xs hb;split;rename_i hn;have:=Wd hn;subst this;exact .own j s t xs true hb (.inr rfl);exact .refl _;exact .refl _;exact .refl _
def OpW.ofWk {p:PV} {st':St} (hw:∀ c a w β,RelB G c β st H a w→RelB G c β st' H a w) (h:OpW P G n0 o st' H p H'):OpW P G n0 o st H p H':=by
 intro c a w β h0 hr
 refine Zjp (h {c with gh:=(st.map λx=>(x.2,a.tmps.getD x.1 undef))++c.gh} a w β h0 ((hw c a w β hr).ghost (g:=st.map λx=>(x.2,a.tmps.getD x.1 undef)) (λx hx=>by
  obtain⟨y,hy,rfl⟩:=Wah.1 hx
  exact(hr.slots y hy).2))) λv w' ⟨β',h1,h2⟩=>?_
 obtain⟨h3,h4⟩:=h1.unghost;exact⟨β',⟨h3.ok,h3.len,h3.pre,h3.blk,h3.inj,h3.loc,h3.cel,λx hx=>⟨(hr.slots x hx).1,h4 _ (Wbv hx)⟩,h3.nt,h3.dfr,h3.frm,h3.gh⟩,h2⟩
def wkJ (j s:Nat) (xs:List (List PV)):PV→PV
 |.own i n=>match Nat.beq i j with
  |true=>.sl s xs
  |false=>.own i n
 |p=>p
def ownNs (j:Nat):St→List Nat
 |[]=>[]
 |(_,.own i n)::st=>match Nat.beq i j with
  |true=>n::ownNs j st
  |false=>ownNs j st
 |_::st=>ownNs j st
def Zaal {j n k:Nat}:∀ {st:St},(k,PV.own j n)∈st→n∈ownNs j st
 |[],h=>gD
 |(q,p)::st,h=>by
  rcases Wy.1 h with h|h
  cases h;simp  [ownNs,Nat.beq_refl,Wy,true_or];have ih:=Zaal h
  cases p with
  |own i m=>
   simp  [ownNs]
   grind
  |_=>exact ih
def Hnd.wkO (j:Nat) (row:α→List PV) (l:List α) (k:Hnd P G):Hnd P G where
 run o st H:=match H[j]? with
  |some (.buf s _ xs true)=>(k.run o (st.map λx=>(x.1,wkJ j s (l.map row) x.2)) H).map λx=>⟨x.p,x.H,.rs xs::.ns (ownNs j st)::x.l,.rs (l.map row)::.ns ((ownNs j st).map λ_=>l.length)::x.r⟩
  |_=>none
 sound:=by
  intro n0 o st H x h he
  split at h
  rename_i s t xs hb
  simp at h
  obtain⟨y,hy,rfl⟩:=h
  simp at he
  obtain⟨rfl,hn,he⟩:=he;show OpW P G n0 o st H y.p y.H
  refine OpW.ofWk (λc a w β hr=>?_) (k.sound hy he)
  refine⟨hr.ok,hr.len,hr.pre,hr.blk,hr.inj,hr.loc,hr.cel,λz hz=>?_,hr.nt,hr.dfr,hr.frm,hr.gh⟩
  obtain⟨⟨q,p⟩,hp,rfl⟩:=Wah.1 hz
  refine⟨(hr.slots _ hp).1,hr.wk (hr.slots _ hp).2 ?_⟩
  cases p with
  |own i n=>
   simp  [wkJ];split;rename_i hi;have hi:=Wd hi;subst hi;have hm:=Zaal hp;rw[hn]at hm;obtain⟨_,_,rfl⟩:=Wah.1 hm;have:=Wk.own (any:=false) i s t (l.map row) true hb (.inr rfl)
   rwa [Wt]at this
   exact .refl _
  |_=>exact .refl _
  cases h
def Zaba {c:Ctx} {β:List Bnd} {a:Act} {w:World} (hr:RelB G c β st H a w) {lo hi:Option Operand} {n:Nat} {l h:Int} (hlo:loOf G st lo=some l) (hhi:hiOf G st n hi=some h) (h0:0≤l) (h1:l≤h) (h2:h≤n) :
  (Instr.sliceBounds false n n (lo.map a.eval) (hi.map a.eval) none).run P w=.ok (l.toNat,h.toNat,n) w:=by
 have hhv:=Zae4 hr hhi;cases lo;cases hlo;cases hi;cases hhi;simp[Instr.sliceBounds];rename_i y;obtain⟨k,hy⟩:=hhv y rfl;simp[Instr.sliceBounds,hy,Instr.sliceBound,asIntOf,h2,h1];rename_i x';obtain⟨k',hx''⟩:=Zae3 hr hlo x' rfl;cases hi;cases hhi;simp[Instr.sliceBounds,hx'',Instr.sliceBound,asIntOf,h0,h1];rename_i y;obtain⟨k,hy⟩:=hhv y rfl
 have h0h:0≤h:=om
 simp[Instr.sliceBounds,hx'',hy,Instr.sliceBound,asIntOf,h2,h0,h0h];omega
def Hnd.subS {s:ByteArray} {l h:Int} (hh:0≤l∧l≤h∧h≤(s.size:Int)):Hnd P G where
 run o st H:=match o.op with
  |.slice t x lo hi none=>match P.underlying t,opd G st x,loOf G st lo,hiOf G st s.size hi with
   |some .string,some (.sc v),some l',some h'=>some ⟨.sc (.string (s.extract l.toNat h.toNat)),H,[.v v,.i l',.i h'],[.v (.string s),.i l,.i h]⟩
   |_,_,_,_=>none
  |_=>none
 sound:=by
  intro n0 o st H x hr he
  suffices hT:OpT P G n0 o st H x.p x.H from hT.weak
  split at hr
  ·rename_i t x lo hi ho
   split at hr
   ·rename_i v l' h' hu hx hlo hhi
    simp only[Wn]at hr;subst hr;simp only[Wak,T.v.injEq,T.i.injEq,and_true]at he;obtain⟨rfl,rfl,rfl⟩:=he
    refine W4 λc a w β hn hr=>⟨.string (s.extract l'.toNat h'.toNat),?_,by simp only[VR]⟩
    have g1:=hr.opd hx;simp only[VR]at g1;have hsb:=Zaba (P:=P) hr hlo hhi hh.1 hh.2.1 hh.2.2;simp[execOp,ho,Instr.sliceAt,Instr.slice,Ww hu,g1,hsb]
   ·cases hr
  ·cases hr
def OpT.len_ln {cl:Call} {x:Operand} {T e n:Nat} (ho:o.op=.call cl) (hcl:cl={callee:=.builtin .len,args:=#[x],argTypes:=#[T]}) (hT:P.underlying T=some (.slice e)) (hx:opd G st x=some (.ln n)):OpT P G n0 o st H (.sc (.int .i64 n)) H:=
 W4 λc a w β h0 hr=>by
  obtain⟨ad,cap,hv⟩:=hr.opd hx
  refine⟨.int .i64 n,?_,by simp  [VR]⟩
  simp[execOp,ho,hcl,resolve,invoke,builtin,hv,Builtin.len_,Ww hT,goInt]
def Hnd.lenL:Hnd P G where
 run o st H:=match o.op with
  |.call cl=>match cl with
   |{callee:=.builtin .len,args:=⟨[x]⟩,argTypes:=⟨[T0]⟩}=>match P.underlying T0,opd G st x with
    |some (.slice _),some (.ln n)=>some ⟨.sc (.int .i64 n),H,[],[]⟩
    |_,_=>none
   |_=>none
  |_=>none
 sound:=by
  intro n0 o st H x h he
  suffices hT:OpT P G n0 o st H x.p x.H from hT.weak
  split at h
  rename_i cl ho
  split at h
  split at h
  rename_i e n hu hx;cases h;exact OpT.len_ln ho rfl hu hx;cases h;cases h;cases h
def FZs.c {o:OV} {os:List OV} {p:PV} {ps:List PV} (h:FZ o p) (k:FZs os ps):FZs (o::os) (p::ps):=⟨h,k⟩
def FZs.n:FZs [] []:=by simp  [FZs]
def Wfa:=@Nat.add_comm
def Wgh:=@List.ext_getElem
def Zacd (z:Array Value) (s:Nat) (hs:z.size=s) (h0:0<s):∀ n ,(List.range (n*s)).map (λi=>z[i%s]!)=(List.replicate n z.toList).flatten
 |0=>sM
 |n+1=>by
  rw[Wcu,Wfa,List.range_add,Wa0,List.replicate_succ,Wbw,←Zacd z s hs h0 n]
  congr 1
  refine Wgh gD λi h1 h2=>?_
  simp at h1
  simp  [List.getElem_map,List.getElem_range,Nat.mod_eq_of_lt h1,Array.getElem_toList];rw[getElem!_pos z i om];simp_all
def Z7k (x:List PV) (s:Nat) (hs:x.length=s):∀ n ,rowsOf s n (List.replicate n x).flatten=List.replicate n x
 |0=>rfl
 |n+1=>by
  simp only[rowsOf,List.replicate_succ,Wbw];rw[Wcz hs,Wc0 hs,Z7k x s hs n]
def Wf0:=@List.map_replicate
def Zag9 (row:α→List PV) (z0:α) (z:Array Value) (s n:Nat) (hs:z.size=s) (h0:0<s) (hz:row z0=z.toList.map .sc):rowsOf s n (((madeCells z (n*s)).toList.take (n*s)).map .sc)=(List.replicate n z0).map row:=by
 rw[Wbk (by rw[Wa5,size_madeCells];grind),Wf0,hz]
 have:(madeCells z (n*s)).toList=(List.range (n*s)).map (λi=>z[i%s]!):=by
  simp[madeCells,hs]
 rw[this,Zacd z s hs h0,List.map_flatten,Wf0];exact Z7k _ s gD n
def Wej:=@Bool.not_eq_true'
def Wa8:=@Int.le_refl
def Wc1:=@List.length_replicate
def Hnd.mkN (row:α→List PV) (z0:α) {m:Int} (hm:0≤m∧m≤(lim:Int)):Hnd P G where
 run o st H:=match o.op with
  |.makeSlice t x y=>match P.underlying t,opd G st x,opd G st y with
   |some (.slice e),some (.sc (.int _ l)),some (.sc (.int _ m'))=>match P.info? e with
    |some ti=>match ti.zero with
     |some z=>match Nat.ble ti.bytes 65536&&Nat.beq z.cells.size ti.size&&!(Nat.beq ti.size 0)with
      |true=>some ⟨.own H.length (List.replicate m.toNat z0).length,H++[.buf ti.size e (List.map row (List.replicate m.toNat z0)) false],[.i l,.i m',.ps (z.cells.toList.map .sc)],[.i m,.i m,.ps (row z0)]⟩
      |false=>none
     |none=>none
    |none=>none
   |_,_,_=>none
  |_=>none
 sound:=by
  intro n0 o st H x h he
  suffices hT:OpT P G n0 o st H x.p x.H from hT.weak
  split at h
  ·rename_i t x y ho
   split at h
   ·rename_i e k l k' m' hu hx hy
    split at h
    ·rename_i ti hti
     split at h
     ·rename_i z hz
      split at h
      ·rename_i hc
       simp only[Wh,Wej]at hc;obtain⟨⟨hb,h3⟩,h4⟩:=hc;have h3:=Wd h3
       have h4:0<ti.size:=Nat.pos_of_ne_zero λh=>by rw[h]at h4;cases h4
       simp only[Wn]at h;subst h;simp only[Wak,T.i.injEq,T.ps.injEq,and_true]at he;obtain⟨rfl,rfl,hz0⟩:=he;obtain⟨h1,h2⟩:=bounded hm.1 hm.2 (W1 hb);have:=Whv (n0:=n0) (H:=H) ho hu hti hz hx hy hm.1 (Wa8 _) h1 (W1 h2);rw[Zag9 row z0 z.cells ti.size _ h3 h4 hz0.symm]at this;rw[Wc1];exact this
      ·cases h
     ·cases h
    ·cases h
   ·cases h
  ·cases h
def Gst.ownF (i q s t:Nat):Gst G where
 run H:=match H[i]? with
  |some k=>match k.isCF,k.rowOf[q]? with
   |true,some (.sc (.slice none 0 0))=>match Nat.blt i H.length with
    |true=>some ((H++[Blk.buf s t [] false]).set i (.far (k.rowOf.set q (.own H.length 0))),[],[])
    |false=>none
   |_,_=>none
  |none=>none
 sound:=by
  intro H H' l r h1 _ c β st a w hr
  split at h1
  rename_i k hb
  split at h1
  rename_i hcf hq
  split at h1
  cases h1;have hil:=(We.1 hb).1;obtain⟨g1,g2⟩:=hr.own s t
  have hb':(H++[Blk.buf s t [] false])[i]? = some k:=gD
  have hown:VR (stab c (β++[⟨0,.slice none 0 0,0,s,[]⟩]) (H++[.buf s t [] false]) w) (β++[⟨0,.slice none 0 0,0,s,[]⟩]) w (.own H.length 0) (.slice none 0 0):=⟨⟨_,_,rfl⟩,_,by rw[Wa4 (by rw[hr.len];grind),hr.len,Nat.sub_self];rfl,Ws _,λ_=>rfl⟩;obtain⟨e,he⟩:∃ e,(β++[(⟨0,.slice none 0 0,0,s,[]⟩:Bnd)])[i]? = some e:=⟨_,Wo (by rw[g1.len];simp;omega)⟩;obtain⟨vs,ty,k1,k2⟩:=Wga hcf (g1.blk i e _ he hb');obtain⟨l1,l2,e1,e2⟩:=Z0p hq
  have hvs:VRs (stab c (β++[⟨0,.slice none 0 0,0,s,[]⟩]) (H++[.buf s t [] false]) w) (β++[⟨0,.slice none 0 0,0,s,[]⟩]) w (k.rowOf.set q (.own H.length 0)) vs.toList:=by
   rw[e1,←e2,Zaju];rw[e1]at k2;have k3:=Wdl l1.length _ _ k2;have k4:=Wdm l1.length _ _ k2;rw[Wg2]at k3;rw[Wg3]at k4;rw[←Wat l1.length vs.toList]
   refine VRs.append _ _ _ _ k3 ?_
   cases hd:vs.toList.drop l1.length;rw[hd]at k4;simp only[VRs]at k4;rw[hd]at k4;obtain⟨k5,k6⟩:=k4;subst k5;exact⟨hown,k6⟩
  have hw:=g1.writeF he hb' hcf (us:=vs) hvs sM
  have hsame:w.setRow e.b vs=w:=by
   obtain⟨fz,h5,_⟩:=k1;exact setRow_self w e.b vs ty fz h5
  rw[hsame]at hw;exact⟨_,hw.1,Wbp _ _,Wdz g2 hw.2⟩;cases h1;cases h1;cases h1
def Le.toFar {i:Nat} {cs:List PV} (hb:H[i]? = some (.cells cs)):Le G n0 nt st H st (H.set i (.far cs)):=λc a w β _ _ hr=>
 ⟨β,hr.wkF hb rfl (cs':=cs) (Wer _ _ _)⟩
def Ztp {orow:α→List OV} {l:List α} (h:∀ z,OV.idss (λ_=>false) (orow z)=true):OV.idss (λ_=>false) (cellsO orow l)=true:=by
 induction l with
 |nil=>simp  [cellsO,Wbt,Wc9,OV.idss]
 |cons x l ih=>
  have app:∀ a b,OV.idss (λ_=>false) a=true→OV.idss (λ_=>false) b=true→OV.idss (λ_=>false) (a++b)=true:=λa b ha hb=>by
   induction a with
   |nil=>grind
   |cons p a ih=>
    simp  [OV.idss]at ha
    simp  [Wds,OV.idss]
    grind
  exact app _ _ (h x) ih
def Zbq {t s:Nat} {row:α→List PV} (h:∀ z,PV.idss (λ_=>false) (row z)=true) (l:List α):OV.ids (λ_=>false) (owB t s row l)=true:=by
 simp only[owB,OV.ids];have h1:=Zx6 h l
 generalize (l.map row).flatten=ps at h1
 induction ps with
 |nil=>simp only[Wbt,OV.idss]
 |cons p ps ih=>
  simp only[PV.idss]at h1;simp only[W7,OV.idss,OV.ids]
  grind
def Whx:=@Bool.and_self
def OVids.c {q:Nat→Bool} {o:OV} {os:List OV} (h:o.ids q=true) (k:OV.idss q os=true):OV.idss q (o::os)=true:=by simp  [OV.idss,h,k,Whx]
def Wbb:=@OVids.c
theorem OVids.n {q:Nat→Bool}:OV.idss q []=true:=rfl
def Wbc:=@OVids.n
def Le.frF {i:Nat} {cs cs':List PV} (hb:H[i]? = some (.far cs)) (hw:Wks H false cs cs') (hi:PV.idss (λj=>decide (j<i)) cs'=true):Le G n0 nt st H st (H.set i (.cells cs')):=λc a w β _ _ hr=>by
 have h2:=(hr.wkF hb rfl (cs':=cs') hw).near (cs:=cs') gD hi;rw[Wee]at h2
 grind
end
section
variable {P:Program} {G:Glob} {α:Type}
inductive WkZ:List PV→List OV→Prop
 |nil:WkZ [] []
 |same {ps:List PV} {os:List OV} {p:PV}:WkZ ps os→WkZ (p::ps) (.pv p::os)
 |own {ps:List PV} {os:List OV} {t s:Nat}:WkZ ps os→WkZ (.sc (.slice none 0 0)::ps) (.own t s 0 []::os)
 |sl {ps:List PV} {os:List OV} {s:Nat}:WkZ ps os→WkZ (.sc (.slice none 0 0)::ps) (.pv (.sl s [])::os)
def WkZ.app {ps:List PV} {os:List OV} {ps':List PV} {os':List OV} (h:WkZ ps os) (h':WkZ ps' os'):WkZ (ps++ps') (os++os'):=by
 induction h with
 |nil=>grind
 |same _ ih=>exact .same ih
 |own _ ih=>exact .own ih
 |sl _ ih=>exact .sl ih
def WkZ.rep {ps:List PV} {os:List OV} (h:WkZ ps os):∀ n ,WkZ (List.replicate n ps).flatten (List.replicate n os).flatten
 |0=>.nil
 |n+1=>h.app (WkZ.rep h n)
def VR.nilSl {S:Nat→Nat→Prop} {β:List Bnd} {w:World} {s:Nat} {u:Value} (h:VR S β w (.sc (.slice none 0 0)) u):VR S β w (.sl s []) u:=by
 simp  [VR]at h⊢
 grind
def OVRs.wkz {S:Nat→Nat→Prop} {β:List Bnd} {w:World} {base:Nat} {ps:List PV} {os:List OV} (h:WkZ ps os) :
  ∀ us bs,OVRs S β w base (ps.map .pv) us bs→OVRs S β w base os us bs:=by
 induction h with
 |nil=>grind
 |same _ ih=>
  intro us bs h;cases us
  simp  [W7,OVRs]at h
  simp  [W7,OVRs]at h⊢
  grind
 |own _ ih=>
  intro us bs h;cases us
  simp  [W7,OVRs]at h
  obtain⟨b1,b2,⟨hu,hb⟩,h2,h3⟩:=h;subst hu hb;exact⟨[],b2,⟨[],[],⟨sM,.inl ⟨rfl,rfl⟩⟩,rfl,rfl⟩,ih _ _ h2,h3⟩
 |sl _ ih=>
  intro us bs h;cases us
  simp  [W7,OVRs]at h
  obtain⟨b1,b2,⟨hu,hb⟩,h2,h3⟩:=h;exact⟨b1,b2,⟨VR.nilSl hu,hb⟩,ih _ _ h2,h3⟩
def RelB.wkz {c:Ctx} {β:List Bnd} {st:St} {H:List Blk} {a:Act} {w:World} (h:RelB G c β st H a w) {i t s n:Nat} {ps:List PV} {os:List OV} (hb:H[i]? = some (.tr t s n (ps.map .pv))) (hz:WkZ ps os) :
  ∃ β',RelB G c β' st (H.set i (.tr t s n os)) a w∧BExt (λ_=>true) β β'∧Ext (stab c β H w) w (stab c β' (H.set i (.tr t s n os)) w) w:=by
 obtain⟨e,he⟩:∃ e,β[i]? = some e:=⟨β[i]'(by rw[h.len];grind),gD⟩;obtain⟨k1,k2,k3,vals,bs',k4,k5,k6⟩:=h.trs he hb;obtain⟨r1,r2,r3⟩:=h.one (i:=i) (e:=e) (bs:=e.bs) (k':=.tr t s n os) he hb rfl (λb hbb=>hbb) (λb hi hff=>hff)
  (λhx hbx=>⟨k1,k2,k3,vals,bs',k4,Wco hx hbx _ _ _ (λ_ _=>rfl) (OVRs.wkz hz _ _ k5),k6⟩)
 grind
def Gst.toTz (i:Nat) (orow:α→List OV) (z0:α) (m:Nat) {ps:List PV} (hz:WkZ ps (orow z0)):Gst G where
 run H:=match H[i]? with
  |some (.buf s t xs false)=>some (H.set i (.tr t s (List.replicate m z0).length (cellsO orow (List.replicate m z0))),[.rs xs],[.rs (List.map (λx=>x) (List.replicate m ps))])
  |_=>none
 sound:=by
  intro H H' l0 r h1 h2 c β st a w hr
  split at h1
  rename_i s t xs hb;cases h1;cases h2;obtain⟨β1,hr1,x1,y1⟩:=hr.bufTr hb;simp only[List.map_id',Wc1]at hr1 y1;obtain⟨β2,hr2,x2,y2⟩:=hr1.wkz (Wae (We.1 hb).1) (hz.rep m);rw[Wee]at hr2 y2;simp  [cellsO,Wf0,Wc1];exact⟨β2,hr2,Wdx x1 x2,Wdz y1 y2⟩
  grind
def Hnd.ownAs (n n':Nat) (hn:n=n') (k:Hnd P G):Hnd P G where
 run o st H:=match k.run o st H with
  |some x=>match x.p with
   |.own j q=>some ⟨.own j n',x.H,.n q::x.l,.n n::x.r⟩
   |_=>none
  |none=>none
 sound:=by
  intro n0 o st H x h he
  split at h
  rename_i y hy
  split at h
  rename_i j q hp;cases h
  simp at he
  obtain⟨rfl,he⟩:=he;subst hn;have:=k.sound hy he (n0:=n0);rw[hp]at this;exact this;cases h;cases h
def retL (m:Nat) (ks:List Blk):Prop:=ks.all (λk=>k.isRet&&k.farO m)=true
theorem retN {m:Nat}:retL m []:=rfl
def retC {m:Nat} {k:Blk} {ks:List Blk} (h:(k.isRet&&k.farO m)=true) (hk:retL m ks):retL m (k::ks):=by
 simp only[retL,Wfv,h];exact hk
def retT {m t s n:Nat} {orow:α→List OV} {l:List α} {ks:List Blk} (h:∀ z,OV.idss (λ_=>false) (orow z)=true) (hk:retL m ks):retL m (.tr t s n (cellsO orow l)::ks):=
 retC (Wd9 (λj hj=>gD) _ (Ztp h)) hk
end
end
end Go.AM

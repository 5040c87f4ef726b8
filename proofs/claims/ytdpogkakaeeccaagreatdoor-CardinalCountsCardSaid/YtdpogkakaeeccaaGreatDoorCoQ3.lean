/- Parts of a proof, printed short. No condition. -/
import Derived.Laws.Externs
import Derived.Test.YtdpogkakaeeccaaGreatDoorProg
import Derived.Test.YtdpogkakaeeccaaGreatDoorCoQ2
namespace Go.AM
section
variable {P:Program} {G:Glob} {c:Ctx} {β:List Bnd} {st:St} {H:List Blk} {a:Act} {w:World} {n0 nt:Nat} {o:Oper}
theorem VR.closed {S S':Nat→Nat→Prop} {w':World} {β':List Bnd} (hx:Ext S w S' w') {p:PV} {u:Value} (hp:p.ids (fun _=>false)=true) (h:VR S β w p u):VR S' β' w' p u:=
 VR.ext hx (q:=fun _=>false) (fun i e hq _=>by cases hq) p u hp h
theorem VRs.closed {S S':Nat→Nat→Prop} {w':World} {β':List Bnd} (hx:Ext S w S' w') {ps:List PV} {us:List Value} (hp:PV.idss (fun _=>false) ps=true) (h:VRs S β w ps us):VRs S' β' w' ps us:=
 VRs.ext hx (q:=fun _=>false) (fun i e hq _=>by cases hq) ps us hp h
theorem OpT.asH {p:PV} {H1 H':List Blk} (h:OpT P G n0 o st H p H1) (e:H1=H'):OpT P G n0 o st H p H':=by subst e; exact h
theorem RelB.callB (h:RelB G c β st H a w) {i s t:Nat} {xs ys:List (List PV)} {e:Bnd} (he:β[i]? = some e) (hb:H[i]? = some (.buf s t xs false)) (hne:xs ≠ []) (hlen:ys.length=xs.length) (hys:∀ y∈ys,y.length=s) :
  ∃(g cap:Nat) (sp:List Value),xs.length≤cap∧e.v=.slice (some ⟨g,0,none⟩) xs.length cap∧InOk G (stab c β H w) [⟨g,undef,0,0⟩] [.cells (xs.flatten++sp.map .sc)] w ∧
   ∀ γ w',OutOk (stab c β H w) [⟨g,undef,0,0⟩] γ [.cells (ys.flatten++sp.map .sc)] w w' →
    γ=[]∧RelB G c (β.set i ⟨e.b,e.v,ys.length,s⟩) st (H.set i (.buf s t ys false)) a w' ∧
    Ext (stab c β H w) w (stab c (β.set i ⟨e.b,e.v,ys.length,s⟩) (H.set i (.buf s t ys false)) w') w'∧BExt (fun _=>true) β (β.set i ⟨e.b,e.v,ys.length,s⟩) ∧
    Ext (stab1 (stab c β H w) γ w w') w' (stab c (β.set i ⟨e.b,e.v,ys.length,s⟩) (H.set i (.buf s t ys false)) w') w':=by
 obtain⟨q1,q2,q3,vals0,⟨q4,q4'⟩,q5⟩:=h.blk i e _ he hb
 rcases q4' with ⟨_,q6⟩ | ⟨g,cap,cur,e1,e2,e3,e4,e5,e6,e7⟩
 ·exact absurd (List.eq_nil_of_length_eq_zero q6) hne
 have hg:e.v.ownBlock=some g:=by rw [e1]; rfl
 have hn0:c.β0.length≤i:=by
  rcases Nat.lt_or_ge i c.β0.length with hlt | hge
  ·obtain⟨cs,hc⟩:=h.cel i hlt
   rw [hb] at hc; cases hc
  ·exact hge
 obtain⟨hg0,hgl⟩:=h.loc i e _ g hn0 he hb hg
 have hgs:∀ b hi,stab c β H w b hi→g ≠ b:=fun b hi hs=>by
  rcases hs with hs | ⟨_,_,h3⟩
  ·have:=(h.ok.old b hi hs).1; omega
  ·intro hgb
   have:=(h3 i e _ he hb (by rw [hg,hgb])).1
   cases this
 have hfl:xs.flatten.length=xs.length * s:=Zek xs q3
 have hfy:ys.flatten.length=ys.length * s:=Zek ys hys
 let sp:=cur.toList.drop (xs.length * s)
 have hcur:cur.toList=vals0++sp:=by rw [← e7]; exact(List.take_append_drop _ _).symm
 have hidx:PV.idss (fun _=>false) xs.flatten=true:=by
  have:=VRs.idsLt _ _ q5
  refine PV.idss_mono (fun j hj=>?_) _ this
  simp at hj
 refine⟨g,cap,sp,e4,e1,⟨⟨fun b hi hs=>⟨Zju h hs,fun f hf=>?_⟩,fun gl cs hgl'=>?_,fun f hf=>?_,fun b hi hi' h1 h2=>h.ok.stab h1 h2⟩,rfl,fun j f k hj hk=>?_,fun j k f f' hjk hf hf'=>?_⟩,fun γ w' ho=>?_⟩
 ·simp only [List.mem_singleton] at hf; subst hf; exact hgs b hi hs
 ·obtain⟨h1,h2⟩:=h.ok.glob gl cs hgl'
  exact⟨h.ext0.stab _ _ h1,VRow.ext h.ext0 (BExt.refl _ _) gl cs.length h1 cs 0 (by omega) (PV.idss_true cs) h2⟩
 ·simp only [List.mem_singleton] at hf; subst hf; exact hgl
 ·cases j with
  | succ j=>simp at hj
  | zero=>
   simp at hj hk; subst hj hk
   refine⟨_,rfl,?_,cur,t,e3,?_⟩
   ·rw [PV.idss_append,Zko,Bool.and_true]
    exact PV.idss_mono (fun _ hf=>by cases hf) _ hidx
   ·rw [hcur]
    exact VRs.append _ _ _ _ (VRs.closed (Ext.refl _ _) hidx q5) (VRs.scs sp)
 ·cases j with
  | succ j=>simp at hf
  | zero=>cases k with
   | zero=>exact absurd rfl hjk
   | succ k=>simp at hf'
 ·have hγ:γ=[]:=by
   have:=ho.len
   simp at this
   exact this
  subst hγ
  obtain⟨cs,hcs,hid,vs,t',k2,k3⟩:=ho.blk 0 ⟨g,undef,0,0⟩ _ rfl rfl
  cases hcs
  obtain⟨vs1,k4⟩:=ho.frm.typ g cur t e3
  rw [k2] at k4
  cases k4
  have hvl:=VRs.length _ _ k3
  have k5:=VRs.take ys.flatten.length _ _ k3
  have k6:=VRs.drop ys.flatten.length _ _ k3
  rw [List.take_left] at k5
  rw [List.drop_left] at k6
  have hspl:sp.length=cap * s - xs.length * s:=by simp only [sp,List.length_drop,Array.length_toList,e6]
  have hmul:xs.length * s≤cap * s:=Nat.mul_le_mul_right s e4
  have hvsz:vs.size=cap * s:=by
   simp only [List.length_append,List.length_map,Array.length_toList] at hvl
   rw [hvl,hfy,hspl,hlen]; omega
  have hidy:PV.idss (fun _=>false) ys.flatten=true:=by
   rw [PV.idss_append,Bool.and_eq_true] at hid
   refine PV.idss_mono (fun j hj=>?_) _ hid.1
   simp at hj
  have hst:∀(β':List Bnd) (H':List Blk),(∀(j:Nat) f k,β'[j]? = some f→H'[j]? = some k→(j ≠ i∧β[j]? = some f∧H[j]? = some k)∨(j=i∧f.v=e.v∧∃ s' t' xs' ,k=.buf s' t' xs' false)) →
    Ext (stab c β H w) w (stab c β' H' w') w'→Ext (stab1 (stab c β H w) [] w w') w' (stab c β' H' w') w':=fun β' H' hk hx=>by
   refine⟨fun b hi hs=>?_,fun _ _ _ _ _ _ h=>h⟩
   rcases hs with hs | ⟨h1,h2,_⟩
   ·exact hx.stab b hi hs
   ·refine .inr ⟨Nat.le_trans h.frm.size h1,h2,fun j f k hj hj'=>?_⟩
    rcases hk j f k hj hj' with ⟨_,g1,g2⟩ | ⟨rfl,g1,s',t',xs',rfl⟩
    ·cases k with
     | cells cs=>exact fun hb'=>by have:=at_lt (h.blk j f _ g1 g2) (b:=b) (by simp [Blk.at,hb']); omega
     | map es cl=>exact fun hb'=>by have:=at_lt (h.blk j f _ g1 g2) (b:=b) (by simp [Blk.at,hb']); omega
     | iter m since seen last=>exact fun hb'=>by have:=at_lt (h.blk j f _ g1 g2) (b:=b) (by simp [Blk.at,hb']); omega
     | buf s' t' xs' sh=>exact fun hb'=>by have:=at_lt (h.blk j f _ g1 g2) (b:=b) hb'; omega
    ·intro hb'
     rw [g1,hg] at hb'
     cases hb'; omega
  have hkey:∀(j:Nat) f k,(β.set i ⟨e.b,e.v,ys.length,s⟩)[j]? = some f→(H.set i (.buf s t ys false))[j]? = some k→(j ≠ i∧β[j]? = some f∧H[j]? = some k)∨(j=i∧f.v=e.v∧∃ s' t' xs' ,k=.buf s' t' xs' false):=fun j f k hf hk=>by
   rcases get_set hf with ⟨hji,hf⟩ | ⟨rfl,rfl⟩
   ·rcases get_set hk with ⟨_,hk⟩ | ⟨e,_⟩
    ·exact .inl ⟨hji,hf,hk⟩
    ·exact absurd e hji
   ·rcases get_set hk with ⟨e,_⟩ | ⟨_,rfl⟩
    ·exact absurd rfl e
    ·exact .inr ⟨rfl,rfl,s,t,ys,rfl⟩
  have hre:=h.rebuf' he hb (w':=w') (v':=e.v) (xs':=ys) (vals:=vs.toList.take ys.flatten.length) ho.frm.os ho.frm.tape ho.frm.output ho.frm.size
   (fun b hlt hne'=>ho.frm.block b hlt fun f hf=>by simp only [List.mem_singleton] at hf; subst hf; exact fun hgb=>hne' (by rw [hg]; exact congrArg some hgb))
   (by omega) (fun _=>rfl) (fun h=>by cases h)
   ⟨by rw [List.length_take,hfy,show vs.toList.length=cap * s by simpa using hvsz,hlen]; omega,.inr ⟨g,cap,vs,by rw [hlen]; exact e1,e2,k2,by omega,e5,hvsz,by rw [hfy]⟩⟩
   (fun g' hg'=>.inl hg') hys
   (fun hx=>VRs.closed (hst _ _ hkey hx) hidy k5)
  exact⟨rfl,hre.1,hre.2.1,hre.2.2,hst _ _ hkey hre.2.1⟩
theorem OpT.callB {cl:Call} {x:Operand} {f:FuncId} {fn:Func} {i s t:Nat} {xs ys:List (List PV)} {rest:List PV} {p:PV}
  (ho:o.op=.call cl) (hc:cl.callee=.value x) (hx:opd G st x=some (.sc (.func (.func f) #[] #[])))
  (hfn:P.funcs[f]? = some fn) (hbody:fn.body.isNone=false) (hname:(fn.name == "runtime.NumGoroutine")=false)
  (hargs:cl.args.toList.map (opd G st)=(.own i xs.length :: rest).map some) (hrest:PV.idss (fun _=>false) rest=true) (hb:H[i]? = some (.buf s t xs false)) (hne:xs ≠ [])
  (hlen:ys.length=xs.length) (hys:∀ y∈ys,y.length=s)
  (hcall:∀ sp:List Value,ACall P G f (.vw 0 0 xs.length :: rest) [.cells (xs.flatten++sp.map .sc)] (fun q K=>q=p∧K=[.cells (ys.flatten++sp.map .sc)])) (hp:p.ids (fun _=>false)=true) :
  OpT P G n0 o st H p (H.set i (.buf s t ys false)):=by
 intro c a w β h0 hr
 have hv:=VRs.of_opds hr cl.args.toList _ hargs
 have hlv:=VRs.length _ _ hv
 obtain⟨u,us,hus⟩:∃ u us,cl.args.toList.map a.eval=u :: us:=by
  cases hq:cl.args.toList.map a.eval with
  | nil=>rw [hq] at hlv; simp at hlv
  | cons u us=>exact⟨u,us,rfl⟩
 rw [hus] at hv
 simp only [VRs] at hv
 obtain⟨hv1,hv2⟩:=hv
 simp only [VR] at hv1
 obtain⟨_,e,he,_,hve⟩:=hv1
 obtain⟨q1,_⟩:=hr.blk i e _ he hb
 have hve:=hve q1.symm
 obtain⟨g,cap,sp,k1,k2,k3,k4⟩:=hr.callB he hb hne hlen hys
 have hxe:=hr.opd hx
 simp only [VR] at hxe
 have hex:(execOp a.eval o).run P w=.ok (.enter f (cl.args.map a.eval)) w:=by
  have hn:¬ fn.name= "runtime.NumGoroutine":=by simpa using hname
  have hb:¬ fn.body=none:=by cases hq:fn.body <;> simp [hq] at hbody ⊢
  simp [execOp,ho,resolve,hc,hxe,Deferred.ofValue,invoke,callFunc,hfn,hn,hb]
 simp only [wpv,hex]
 refine(hcall sp _ _ w (cl.args.map a.eval) k3 ?_).mono ?_
 ·have:(cl.args.map a.eval).toList=u :: us:=by simpa using hus
  rw [this]
  simp only [VRs]
  refine⟨?_,VRs.closed (Ext.refl _ _) hrest hv2⟩
  simp only [VR]
  exact⟨_,rfl,cap,_,k1,by rw [hve,k2],fun _=>rfl⟩
 ·rintro ex w' ⟨v,q,K,γ,rfl,⟨rfl,rfl⟩,hout,hvr⟩
  obtain⟨rfl,g1,g2,g3,g4⟩:=k4 γ w' hout
  exact⟨v,rfl,_,g1,VR.closed g4 hp hvr,g3,g2⟩
variable {α:Type}
def cel (row:α→List PV) (l:List α) (sp:List Value):List PV:=(l.map row).flatten++sp.map .sc
def Hnd.callB {f:FuncId} {fn:Func} (row:α→List PV) {s:Nat} {l l':List α} {rest:List PV} {p1:PV} (hfn:P.funcs[f]? = some fn) (hrow:∀ z,(row z).length=s) (hne:l ≠ []) (hlen:l'.length=l.length)
  (hc:∀ sp,ACall P G f (.vw 0 0 l.length :: rest) [.cells (cel row l sp)] (fun q K=>q=p1∧K=[.cells (cel row l' sp)])):Hnd P G where
 run o st H:=match o.op with
  | .call cl=>match cl.callee with
   | .value x=>match opd G st x,opdL G st cl.args.toList with
    | some px,some (.own i n :: rest')=>match H[i]? with
     | some (.buf s' t xs false)=>
      if fn.body.isNone=false∧(fn.name == "runtime.NumGoroutine")=false∧PV.idss (fun _=>false) rest=true∧p1.ids (fun _=>false)=true∧Nat.beq s s'=true then
       some ⟨p1,H.set i (.buf s' t (l'.map row) false),[.p px,.n n,.ps rest',.rs xs],[.p (.sc (.func (.func f) #[] #[])),.n l.length,.ps rest,.rs (l.map row)]⟩
      else none
     | _=>none
    | _,_=>none
   | _=>none
  | _=>none
 sound:=by
  intro n0 o st H x h he
  suffices hT:OpT P G n0 o st H x.p x.H from hT.weak
  split at h
  ·rename_i cl ho
   split at h
   ·rename_i x hcl
    split at h
    ·rename_i px i n rest' hx hps
     split at h
     ·rename_i s' t xs hb
      split at h
      ·rename_i hcond
       obtain⟨c1,c2,c3,c4,c5⟩:=hcond
       simp only [Option.some.injEq] at h
       subst h
       simp only [List.cons.injEq,T.p.injEq,T.ps.injEq,T.n.injEq,T.rs.injEq,and_true] at he
       obtain⟨rfl,rfl,rfl,rfl⟩:=he
       have c5:=Nat.eq_of_beq_eq_true c5
       subst c5
       have hl1:(l.map row).length=l.length:=List.length_map ..
       refine OpT.callB (xs:=l.map row) (ys:=l'.map row) ho hcl hx hfn c1 c2 (by rw [hl1]; exact Ze0 _ _ hps) c3 hb (by simpa using hne) (by simpa using hlen) ?_ (fun sp=>?_) c4
       ·intro y hy
        obtain⟨z,_,rfl⟩:=List.mem_map.1 hy
        exact hrow z
       ·rw [hl1]; exact hc sp
      ·cases h
     ·cases h
    ·cases h
   ·cases h
  ·cases h
def idxn (n:Nat) (l:List α) (j:Int):Option α:=if 0≤j∧j<(n:Int) then idx l j else none
theorem Zp {n:Nat} {l:List α} {j:Int} {z:α} (h:idxn n l j=some z):0≤j∧j<(n:Int):=by
 unfold idxn at h; split at h
 ·assumption
 ·cases h
theorem Zn {n:Nat} {l:List α} {j:Int} {z:α} (h:idxn n l j=some z):idx l j=some z:=by
 unfold idxn at h; split at h
 ·exact h
 ·cases h
def idxv (n:Nat) (l:List α) (lo j:Int):Option α:=if 0≤j∧j<(n:Int) then idx l (lo + j) else none
theorem Zkm {n:Nat} {l:List α} {lo j:Int} {z:α} (h:idxv n l lo j=some z):0≤j∧j<(n:Int):=by
 unfold idxv at h; split at h
 ·assumption
 ·cases h
theorem Zpx {n:Nat} {l:List α} {lo j:Int} {z:α} (h:idxv n l lo j=some z):idx l (lo + j)=some z:=by
 unfold idxv at h; split at h
 ·exact h
 ·cases h
theorem Zsj {lo j:Int} (h0:0≤lo) (h1:0≤j) (s:Nat):(0 + lo.toNat * s) + j.toNat * s=(lo + j).toNat * s:=by
 rw [Nat.zero_add,← Nat.add_mul]; congr 1; omega
def Hnd.idxV {n:Nat} {j:Int} (h:0≤j∧j<(n:Int)):Hnd P G where
 run o st H:=match o.op with
  | .indexAddr t x y=>match P.underlying t,opd G st x,opd G st y with
   | some (.slice e),some (.vw i off n'),some (.sc (.int _ j'))=>if Nat.beq (P.cellsOf e) 0 then none else some ⟨.ptr i (off + j.toNat * P.cellsOf e),H,[.n n',.i j'],[.n n,.i j]⟩
   | _,_,_=>none
  | _=>none
 sound:=by
  intro n0 o st H x hr he
  suffices hT:OpT P G n0 o st H x.p x.H from hT.weak
  split at hr
  ·rename_i t x y ho
   split at hr
   ·rename_i e i off n' k j' hu hx hy
    split at hr
    ·cases hr
    ·rename_i hz
     simp only [Option.some.injEq] at hr; subst hr
     simp only [List.cons.injEq,T.n.injEq,T.i.injEq,and_true] at he
     obtain⟨rfl,rfl⟩:=he
     exact OpT.index_vw ho hu (fun h0=>hz (by rw [h0]; rfl)) hx hy h.1 h.2
   ·cases hr
  ·cases hr
theorem Zpy {row:α→List PV} {s:Nat} (hrow:∀ z,(row z).length=s):∀ {l:List α} {k:Nat} {z:α} (sp:List PV),l[k]? = some z→(((l.map row).flatten++sp).drop (k * s)).take s=row z∧(k + 1) * s≤((l.map row).flatten++sp).length
 | [],k,z,sp,h=>by simp at h
 | y :: l,0,z,sp,h=>by
  simp at h; subst h
  simp only [List.map_cons,List.flatten_cons,Nat.zero_mul,List.drop_zero,List.append_assoc]
  refine⟨?_,by simp [hrow]⟩
  rw [← hrow y,List.take_left]
 | y :: l,k + 1,z,sp,h=>by
  simp at h
  obtain⟨h1,h2⟩:=Zpy hrow (l:=l) sp h
  simp only [List.map_cons,List.flatten_cons,List.append_assoc]
  have hd:((k + 1) * s)=(row y).length + k * s:=by rw [hrow,Nat.add_mul,Nat.one_mul,Nat.add_comm]
  refine⟨?_,?_⟩
  ·rw [hd,List.drop_append,List.drop_of_length_le (by omega),List.nil_append]
   simp only [Nat.add_sub_cancel_left]
   exact h1
  ·have hd2:(k + 1 + 1) * s=s + (k + 1) * s:=by rw [Nat.add_mul (k + 1),Nat.one_mul,Nat.add_comm]
   rw [List.length_append,hrow,hd2]
   omega
theorem Zu3 {row:α→List PV} {s:Nat} (hrow:∀ z,(row z).length=s) (z':α):∀ {l:List α} {k:Nat} (sp:List PV),k<l.length →
  ((l.set k z').map row).flatten++sp=((l.map row).flatten++sp).take (k * s)++row z'++((l.map row).flatten++sp).drop (k * s + s)
 | [],k,sp,h=>by simp at h
 | y :: l,0,sp,h=>by
  simp only [List.set_cons_zero,List.map_cons,List.flatten_cons,Nat.zero_mul,List.take_zero,List.nil_append,Nat.zero_add,List.append_assoc]
  rw [← hrow y,List.drop_left]
 | y :: l,k + 1,sp,h=>by
  simp only [List.length_cons] at h
  have ih:=Zu3 hrow z' (l:=l) (k:=k) sp (by omega)
  have hd:((k + 1) * s)=(row y).length + k * s:=by rw [hrow,Nat.add_mul,Nat.one_mul,Nat.add_comm]
  simp only [List.set_cons_succ,List.map_cons,List.flatten_cons,List.append_assoc]
  rw [ih,hd,Nat.add_assoc,List.take_length_add_append,List.drop_length_add_append]
  simp only [List.append_assoc]
def Hnd.ldV (row:α→List PV) {s:Nat} (hrow:∀ z,(row z).length=s) (sp:List Value) {l:List α} {j:Int} {z:α} (hz:AM.idx l j=some z) (off0:Nat) (hoff0:off0=j.toNat * s) (ds:List Nat):Hnd P G where
 run o st H:=match o.op with
  | .load t x=>match opd G st x with
   | some (.ptr i off)=>match H[i]? with
    | some (.cells cs)=>if P.cellsOf t + ds.foldl (· + ·) 0≤s∧ds.foldl (· + ·) 0<s then (ldPV P t ((row z).drop (ds.foldl (· + ·) 0))).map fun p=>⟨p,H,[.n off,.ps cs],[.n (ds.foldl (· + ·) off0),.ps (cel row l sp)]⟩ else none
    | _=>none
   | _=>none
  | _=>none
 sound:=by
  intro n0 o st H x hr he
  suffices hT:OpT P G n0 o st H x.p x.H from hT.weak
  split at hr
  ·rename_i t x ho
   split at hr
   ·rename_i i off hx
    split at hr
    ·rename_i cs hb
     split at hr
     ·rename_i hc
      simp only [Option.map_eq_some_iff] at hr
      obtain⟨p,hp,rfl⟩:=hr
      simp only [List.cons.injEq,T.n.injEq,T.ps.injEq,and_true] at he
      obtain⟨rfl,rfl⟩:=he
      obtain⟨_,_,hget⟩:=Zkp hz
      have hfold:∀(ds:List Nat) (m:Nat),ds.foldl (· + ·) m=m + ds.foldl (· + ·) 0:=by
       intro ds
       induction ds with
       | nil=>intro m; simp
       | cons d ds ih=>intro m; simp only [List.foldl_cons]; rw [ih (m + d),ih (0 + d)]; omega
      refine OpT.load_ptr ho hx hb ?_
      rw [hfold,hoff0]
      rw [← (Zpy hrow (sp.map .sc) hget).1,List.drop_take,List.drop_drop] at hp
      exact Ztf (m:=s - ds.foldl (· + ·) 0) (by omega) (by omega) hp
     ·cases hr
    ·cases hr
   ·cases hr
  ·cases hr
def Hnd.stV (row:α→List PV) {s:Nat} (hrow:∀ z,(row z).length=s) (sp:List Value) {l:List α} {j:Int} {z:α} (hz:AM.idx l j=some z) (z':α) (off0:Nat) (hoff0:off0=j.toNat * s) (ds:List Nat):Hnd P G where
 run o st H:=match o.op with
  | .store t x y=>match opd G st x,opd G st y with
   | some (.ptr i off),some p=>match H[i]? with
    | some (.cells cs)=>if Nat.beq (P.cellsOf t) p.cells.length=true∧(P.info? t).isSome=true∧p.cells.length + ds.foldl (· + ·) 0≤s∧p.cells.all PV.one=true∧PV.idss (fun j=>decide (j<i)) p.cells=true then
      some ⟨.sc undef,H.set i (.cells (cel row (l.set j.toNat z') sp)),[.n off,.ps cs,.ps ((row z).take (ds.foldl (· + ·) 0)++p.cells++(row z).drop (ds.foldl (· + ·) 0 + p.cells.length))],[.n (ds.foldl (· + ·) off0),.ps (cel row l sp),.ps (row z')]⟩ else none
    | _=>none
   | _,_=>none
  | _=>none
 sound:=by
  intro n0 o st H x hr he
  suffices hT:OpT P G n0 o st H x.p x.H from hT.weak
  split at hr
  ·rename_i t x y ho
   split at hr
   ·rename_i i off p hx hy
    split at hr
    ·rename_i cs hb
     split at hr
     ·rename_i hc
      obtain⟨c1,c2,c3,c4,c5⟩:=hc
      have c1:=Nat.eq_of_beq_eq_true c1
      simp only [Option.some.injEq] at hr; subst hr
      simp only [List.cons.injEq,T.n.injEq,T.ps.injEq,and_true] at he
      obtain⟨rfl,rfl,hz'⟩:=he
      obtain⟨_,_,hget⟩:=Zkp hz
      have hlt:=(List.getElem?_eq_some_iff.1 hget).1
      have hfold:∀(ds:List Nat) (m:Nat),ds.foldl (· + ·) m=m + ds.foldl (· + ·) 0:=by
       intro ds
       induction ds with
       | nil=>intro m; simp
       | cons d ds ih=>intro m; simp only [List.foldl_cons]; rw [ih (m + d),ih (0 + d)]; omega
      obtain⟨g1,g2⟩:=Zpy hrow (sp.map .sc) hget
      rw [Nat.add_mul,Nat.one_mul] at g2
      have hoff:ds.foldl (· + ·) off0=j.toNat * s + ds.foldl (· + ·) 0:=by rw [hfold,hoff0]
      have hst:=OpT.store (P:=P) (G:=G) (n0:=n0) ho hx hy hb c1 c2 (by rw [hoff]; unfold AM.cel; omega) c4 c5
      refine OpT.asH hst ?_
      refine congrArg (fun cs=>H.set i (.cells cs)) ?_
      unfold AM.cel
      rw [Zu3 hrow z' (sp.map .sc) hlt,← hz',← g1,hoff]
      generalize (l.map row).flatten++sp.map PV.sc=cs at g2
      generalize ds.foldl (· + ·) 0=d at c3
      generalize p.cells=ps at c3
      generalize j.toNat * s=m at g2
      rw [List.take_take,List.drop_take,List.drop_drop,Nat.min_eq_left (by omega),List.take_add (i:=m) (j:=d)]
      have h1:List.drop (m + d + ps.length) cs=List.take (s - (d + ps.length)) (List.drop (m + (d + ps.length)) cs)++List.drop (m + s) cs:=by
       rw [show List.drop (m + s) cs=List.drop (s - (d + ps.length)) (List.drop (m + (d + ps.length)) cs) by rw [List.drop_drop]; congr 1; omega,List.take_append_drop,Nat.add_assoc]
      rw [h1]
      simp only [List.append_assoc]
     ·cases hr
    ·cases hr
   ·cases hr
  ·cases hr
def Hnd.lenV (n:Nat):Hnd P G where
 run o st H:=match o.op with
  | .call cl=>match cl.callee,cl.args.toList,cl.argTypes.toList with
   | .builtin .len,[x],[ty]=>match P.underlying ty,opd G st x with
    | some (.slice _),some (.vw _ _ n')=>some ⟨.sc (.int .i64 n),H,[.n n'],[.n n]⟩
    | _,_=>none
   | _,_,_=>none
  | _=>none
 sound:=by
  intro n0 o st H x hr he
  suffices hT:OpT P G n0 o st H x.p x.H from hT.weak
  split at hr
  ·rename_i cl ho
   split at hr
   ·rename_i x ty hc ha ht
    split at hr
    ·rename_i e i off n' hu hx
     simp only [Option.some.injEq] at hr; subst hr
     simp only [List.cons.injEq,T.n.injEq,and_true] at he
     subst he
     have hcl:cl={ callee:=.builtin .len,args:=#[x],argTypes:=#[ty] }:=by
      cases cl with
      | mk callee args argTypes=>
       simp only at hc ha ht
       subst hc
       have h1:args=#[x]:=by apply Array.toList_inj.1; exact ha
       have h2:argTypes=#[ty]:=by apply Array.toList_inj.1; exact ht
       subst h1 h2
       rfl
     exact OpT.len_vw ho hcl hu hx
    ·cases hr
   ·cases hr
  ·cases hr
end
end Go.AM
namespace Go.AM
section
variable {P:Program} {G:Glob} {n0 nt:Nat} {o:Oper} {st:St} {H:List Blk}
def Hnd.q:Hnd P G where
 run o st H:=(quietx P G true st H o).map fun p=>⟨p,H,[],[]⟩
 sound:=by
  intro n0 o st H x h he
  simp only [Option.map_eq_some_iff] at h
  obtain⟨p,h1,rfl⟩:=h
  exact(OpT.of_quiet (Sub.refl H) h1).weak
variable {α:Type}
theorem bounded {m:Int} {b:Nat} (h0:0≤m) (hm:m≤(lim:Int)) (hb:b≤65536):(b:Int) * m≤281474976710656∧Nat.ble m.toNat maxLen=true:=by
 have h1:(b:Int) * m≤65536 * 2147483648:=by
  have h2:m≤2147483648:=hm
  exact Int.mul_le_mul (by omega) h2 h0 (by decide)
 refine⟨by omega,Nat.ble_eq_true_of_le ?_⟩
 have h2:m≤2147483648:=hm
 unfold maxLen
 omega
def Hnd.mk0 (row:α→List PV) {m:Int} (hm:0≤m∧m≤(lim:Int)):Hnd P G where
 run o st H:=match o.op with
  | .makeSlice t x y=>match P.underlying t,opd G st x,opd G st y with
   | some (.slice e),some (.sc (.int _ l)),some (.sc (.int _ m'))=>match P.info? e with
    | some ti=>match ti.zero with
     | some _=>if l=0∧Nat.ble ti.bytes 65536=true then some ⟨.own H.length 0,H++[.buf ti.size e (List.map row []) false],[.i m'],[.i m]⟩ else none
     | none=>none
    | none=>none
   | _,_,_=>none
  | _=>none
 sound:=by
  intro n0 o st H x h he
  suffices hT:OpT P G n0 o st H x.p x.H from hT.weak
  split at h
  ·rename_i t x y ho
   split at h
   ·rename_i e k l k' m' hu hx hy
    split at h
    ·rename_i ti hti
     split at h
     ·rename_i z hz
      split at h
      ·rename_i hc
       obtain⟨rfl,hb⟩:=hc
       simp only [Option.some.injEq] at h
       subst h
       simp only [List.cons.injEq,T.i.injEq,and_true] at he
       subst he
       obtain⟨h1,h2⟩:=bounded hm.1 hm.2 (Nat.le_of_ble_eq_true hb)
       have:=OpT.makeSlice (n0:=n0) (H:=H) ho hu hti hz hx hy (Int.le_refl 0) hm.1 h1 (Nat.le_of_ble_eq_true h2)
       exact this
      ·cases h
     ·cases h
    ·cases h
   ·cases h
  ·cases h
end
end Go.AM
namespace Go.AM
section
variable {P:Program} {G:Glob} {n0 nt:Nat} {o:Oper} {st:St} {H:List Blk}
def Hnd.m:Hnd P G where
 run o st H:=(memx P G #[] st H o).map fun r=>⟨r.1,r.2,[],[]⟩
 sound:=by
  intro n0 o st H x h he
  simp only [Option.map_eq_some_iff] at h
  obtain⟨p,h1,rfl⟩:=h
  exact(OpT.of_memx h1).weak
theorem OpT.slice_vw {t e:TypeId} {x:Operand} {lo hi:Option Operand} {i off n:Nat} {l h:Int} (ho:o.op=.slice t x lo hi none) (hu:P.underlying t=some (.slice e)) (hz:P.cellsOf e ≠ 0)
  (hx:opd G st x=some (.vw i off n)) (hlo:loOf G st lo=some l) (hhi:hiOf G st n hi=some h) (h0:0≤l) (h1:l≤h) (h2:h≤n):OpT P G n0 o st H (.vw i (off + l.toNat * P.cellsOf e) (h.toNat - l.toNat)) H:=
 OpT.value fun c a w β hn0 hr=>by
  have g1:=hr.opd hx
  simp only [VR] at g1
  obtain⟨ed,he,cap,ad,hc,hv,ha⟩:=g1
  have hsb:=Zhm (P:=P) hr hlo hhi h0 h1 h2 hc
  refine⟨.slice (if cap=l.toNat then ad else ad.map (·.add (l.toNat * P.cellsOf e))) (h.toNat - l.toNat) (cap - l.toNat),?_,?_⟩
  ·simp [execOp,ho,Instr.sliceAt,run_underlying hu,Instr.slice,hv,hsb,Zc1 rfl hz]
  ·simp only [VR]
   refine⟨ed,he,_,_,by omega,rfl,fun hne=>?_⟩
   have hl:¬ cap=l.toNat:=by omega
   rw [if_neg hl,ha (by omega)]
   simp [Zc6]
def Hnd.sliceV {n:Nat} {a b:Int} (h:0≤a∧a≤b∧b≤(n:Int)):Hnd P G where
 run o st H:=match o.op with
  | .slice t x lo hi none=>match P.underlying t,opd G st x,loOf G st lo with
   | some (.slice e),some (.vw i off n'),some l=>match hiOf G st n' hi with
    | some h=>if Nat.beq (P.cellsOf e) 0 then none else some ⟨.vw i (off + a.toNat * P.cellsOf e) (b.toNat - a.toNat),H,[.n n',.i l,.i h],[.n n,.i a,.i b]⟩
    | none=>none
   | _,_,_=>none
  | _=>none
 sound:=by
  intro n0 o st H x hr he
  suffices hT:OpT P G n0 o st H x.p x.H from hT.weak
  split at hr
  ·rename_i t x lo hi ho
   split at hr
   ·rename_i e i off n' l hu hx hlo
    split at hr
    ·rename_i hh hhi
     split at hr
     ·cases hr
     ·rename_i hz
      simp only [Option.some.injEq] at hr; subst hr
      simp only [List.cons.injEq,T.n.injEq,T.i.injEq,and_true] at he
      obtain⟨rfl,rfl,rfl⟩:=he
      exact OpT.slice_vw ho hu (fun h0=>hz (by rw [h0]; rfl)) hx hlo hhi h.1 h.2.1 h.2.2
    ·cases hr
   ·cases hr
  ·cases hr
theorem Zl5 (z:Array Value):∀ n,(Builtin.zeroCells z n).toList=(List.replicate n z.toList).flatten
 | 0=>by simp [Builtin.zeroCells]
 | n + 1=>by
  have ih:=Zl5 z n
  have hs:(List.range z.size).map (fun i=>z[i]!)=z.toList:=by
   refine List.ext_getElem (by simp) fun i h1 h2=>?_
   simp at h1
   simp [h1]
  simp only [Builtin.zeroCells,Array.toList_map,Array.toList_range] at ih ⊢
  rw [Nat.add_mul,Nat.one_mul,List.range_add,List.map_append,ih,List.replicate_succ',List.flatten_append,List.map_map]
  congr 1
  simp only [List.flatten_singleton]
  rw [← hs]
  refine List.map_congr_left fun i hi=>?_
  have hi:=List.mem_range.1 hi
  simp only [Function.comp_apply]
  rw [Nat.mul_comm,Nat.mul_add_mod,Nat.mod_eq_of_lt hi]
theorem OpT.clearV {cl:Call} {x:Operand} {T e i off n:Nat} {cs:List PV} {ti:TypeInfo} {z:Value} (ho:o.op=.call cl) (hcl:cl={ callee:=.builtin .clear,args:=#[x],argTypes:=#[T] }) (hT:P.underlying T=some (.slice e)) (hti:P.info? e=some ti) (hz:ti.zero=some z)
  (hone:z.cells.toList.all Value.oneCell'=true) (hx:opd G st x=some (.vw i off n)) (hb:H[i]? = some (.cells cs)) (hl:off + n * z.cells.size≤cs.length) :
  OpT P G n0 o st H (.sc (.tuple #[])) (H.set i (.cells (cs.take off++(List.replicate n (z.cells.toList.map PV.sc)).flatten++cs.drop (off + n * z.cells.size)))):=by
 intro c a w β h0 hr
 have g1:=hr.opd hx
 simp only [VR] at g1
 obtain⟨ed,he,cap,ad,hc,hv,ha⟩:=g1
 have hzv:∀ w:World,(zeroValue e).run P w=.ok z w:=fun w=>by simp [zeroValue,typeInfo,hti,hz]
 obtain⟨hq,vs,ty,h4,h5⟩:=hr.blk i ed _ he hb
 have hlv:=VRs.length _ _ h5
 rw [Array.length_toList] at hlv
 by_cases hn:n=0
 ·subst hn
  have hex:(execOp a.eval o).run P w=.ok (.value (.tuple #[])) w:=by
   cases ad <;> simp [execOp,ho,hcl,resolve,invoke,builtin,hv,Builtin.clear_,run_underlying hT]
  have hset:H.set i (.cells (cs.take off++(List.replicate 0 (z.cells.toList.map PV.sc)).flatten++cs.drop (off + 0 * z.cells.size)))=H:=by
   have:cs.take off++(List.replicate 0 (z.cells.toList.map PV.sc)).flatten++cs.drop (off + 0 * z.cells.size)=cs:=by simp
   rw [this]
   refine List.ext_getElem? fun j=>?_
   by_cases hji:j=i
   ·subst hji; rw [List.getElem?_set_self (List.getElem?_eq_some_iff.1 hb).1,hb]
   ·rw [List.getElem?_set_ne (Ne.symm hji)]
  simp only [wpv,hex]
  rw [hset]
  exact⟨β,hr,by simp only [VR],BExt.refl _ _,Ext.refl _ _⟩
 ·rw [ha hn] at hv
  have hzc:(Builtin.zeroCells z.cells n).toList=(List.replicate n z.cells.toList).flatten:=by
   exact Zl5 _ _
  have hall:∀ v∈(Builtin.zeroCells z.cells n).toList,v.oneCell'=true:=fun v hv=>by
   rw [hzc] at hv
   obtain⟨l,hl1,hl2⟩:=List.mem_flatten.1 hv
   rw [(List.mem_replicate.1 hl1).2] at hl2
   exact List.all_eq_true.1 hone v hl2
  have hzl:(Builtin.zeroCells z.cells n).toList.length=n * z.cells.size:=by rw [Array.length_toList,size_zeroCells]
  have hrun:=run_storeCells_at P ed.b off ty (Builtin.zeroCells z.cells n).toList 0 vs w h4 (by rw [hzl]; omega) hall
  have hex:(execOp a.eval o).run P w=.ok (.value (.tuple #[])) (w.setRow ed.b (vs.toList.take (off + 0)++(Builtin.zeroCells z.cells n).toList++vs.toList.drop (off + 0 + (Builtin.zeroCells z.cells n).toList.length)).toArray):=by
   obtain⟨m,rfl⟩:∃ m,n=m + 1:=⟨n - 1,by omega⟩
   simp [execOp,ho,hcl,resolve,invoke,builtin,hv,Builtin.clear_,run_underlying hT,hzv] at hrun ⊢
   simp [hrun]
  simp only [wpv,hex]
  have hfl:((List.replicate n (z.cells.toList.map PV.sc)).flatten:List PV)=(Builtin.zeroCells z.cells n).toList.map PV.sc:=by
   rw [hzc,List.map_flatten,List.map_replicate]
  have hwr:=hr.write he hb (us:=(vs.toList.take (off + 0)++(Builtin.zeroCells z.cells n).toList++vs.toList.drop (off + 0 + (Builtin.zeroCells z.cells n).toList.length)).toArray)
   (cs':=cs.take off++(List.replicate n (z.cells.toList.map PV.sc)).flatten++cs.drop (off + n * z.cells.size)) ?_ ?_
  ·exact⟨β,hwr.1,by simp only [VR],BExt.refl _ _,hwr.2⟩
  ·simp only [Nat.add_zero]
   rw [hfl,hzl]
   exact VRs.append _ _ _ _ (VRs.append _ _ _ _ (VRs.take _ _ _ h5) (VRs.scs _)) (VRs.drop _ _ _ h5)
  ·rw [PV.idss_append,PV.idss_append,hfl,Zko]
   have h6:=(PV.idss_mem _ cs).1 hq
   simp only [Bool.and_true,Bool.and_eq_true]
   exact⟨(PV.idss_mem _ _).2 fun p hp=>h6 p (List.mem_of_mem_take hp),(PV.idss_mem _ _).2 fun p hp=>h6 p (List.mem_of_mem_drop hp)⟩
theorem Zw7 {any:Bool} {ps qs:List PV} (h:Wks H any ps qs):∀ n,Wks H any (List.replicate n ps).flatten (List.replicate n qs).flatten
 | 0=>.nil
 | n + 1=>by simp only [List.replicate_succ,List.flatten_cons]; exact Wks.append h (Zw7 h n)
variable {α:Type}
theorem Zu4 {row:α→List PV} {s:Nat} (hrow:∀ z,(row z).length=s) (m:List α) (sp:List PV):∀(l:List α) (k:Nat),k + m.length≤l.length →
  ((l.take k++m++l.drop (k + m.length)).map row).flatten++sp=((l.map row).flatten++sp).take (k * s)++(m.map row).flatten++((l.map row).flatten++sp).drop (k * s + m.length * s)
 | l,0,h=>by
  have hm:(m.map row).flatten.length=m.length * s:=by rw [Zek (s:=s) _ (by intro x hx; obtain⟨z,_,rfl⟩:=List.mem_map.1 hx; exact hrow z),List.length_map]
  have hl:((l.take m.length).map row).flatten.length=m.length * s:=by
   rw [Zek (s:=s) _ (by intro x hx; obtain⟨z,_,rfl⟩:=List.mem_map.1 hx; exact hrow z),List.length_map,List.length_take,Nat.min_eq_left (by omega)]
  have he:(l.map row).flatten=((l.take m.length).map row).flatten++((l.drop m.length).map row).flatten:=by rw [← List.flatten_append,← List.map_append,List.take_append_drop]
  simp only [List.take_zero,List.nil_append,Nat.zero_add,Nat.zero_mul,List.map_append,List.flatten_append,List.append_assoc]
  congr 1
  rw [he,List.append_assoc,← hl,List.drop_left]
 | [],k + 1,h=>by simp at h
 | y :: l,k + 1,h=>by
  simp only [List.length_cons] at h
  have ih:=Zu4 hrow m sp l k (by omega)
  have hd:((k + 1) * s)=(row y).length + k * s:=by rw [hrow,Nat.add_mul,Nat.one_mul,Nat.add_comm]
  simp only [List.take_succ_cons,Nat.succ_add,List.drop_succ_cons,List.cons_append,List.map_cons,List.flatten_cons,List.append_assoc] at ih ⊢
  rw [ih,hd,Nat.add_assoc,List.take_length_add_append,List.drop_length_add_append]
  simp only [List.append_assoc]
theorem Zt {row:α→List PV} (hcl:∀ z,PV.idss (fun _=>false) (row z)=true) (l:List α) (sp:List Value):PV.idss (fun _=>false) (cel row l sp)=true:=by
 unfold AM.cel
 rw [PV.idss_append,Zko,Bool.and_true]
 refine(PV.idss_mem _ _).2 fun p hp=>?_
 obtain⟨r,hr,hpr⟩:=List.mem_flatten.1 hp
 obtain⟨y,hy,rfl⟩:=List.mem_map.1 hr
 exact(PV.idss_mem _ _).1 (hcl y) p hpr
def Hnd.clrV (row:α→List PV) {s:Nat} (hrow:∀ z,(row z).length=s) (hclosed:∀ z,PV.idss (fun _=>false) (row z)=true) (sp:List Value) (l:List α) (z0:α) {lo n:Nat} (h:lo + n≤l.length) (off0:Nat) (hoff0:off0=lo * s):Hnd P G where
 run o st H:=match o.op with
  | .call cl=>match cl with
   | { callee:=.builtin .clear,args:=⟨[x]⟩,argTypes:=⟨[ty]⟩ }=>match P.underlying ty,opd G st x with
    | some (.slice e),some (.vw i off n')=>match P.info? e,H[i]? with
     | some ti,some (.cells cs)=>match ti.zero with
      | some z=>if z.cells.toList.all Value.oneCell'=true∧Nat.beq z.cells.size s=true then
        some ⟨.sc (.tuple #[]),H.set i (.cells (cel row (l.take lo++List.replicate n z0++l.drop (lo + n)) sp)),[.n off,.n n',.ps cs,.ps (lows P e (z.cells.toList.map .sc))],[.n off0,.n n,.ps (cel row l sp),.ps (row z0)]⟩ else none
      | none=>none
     | _,_=>none
    | _,_=>none
   | _=>none
  | _=>none
 sound:=by
  intro n0 o st H x hr he
  suffices hT:OpT P G n0 o st H x.p x.H from hT.weak
  split at hr
  ·rename_i cl ho
   split at hr
   ·rename_i x ty
    split at hr
    ·rename_i e i off n' hu hx
     split at hr
     ·rename_i ti cs hti hb
      split at hr
      ·rename_i z hz
       split at hr
       ·rename_i hc
        obtain⟨c1,c2⟩:=hc
        have c2:=Nat.eq_of_beq_eq_true c2
        simp only [Option.some.injEq] at hr; subst hr
        simp only [List.cons.injEq,T.n.injEq,T.ps.injEq,and_true] at he
        obtain⟨rfl,rfl,rfl,hz0⟩:=he
        subst hoff0
        have hlen:(cel row l sp).length=l.length * s + sp.length:=by
         unfold AM.cel
         rw [List.length_append,List.length_map,Zek (s:=s) _ (by intro x hx; obtain⟨z,_,rfl⟩:=List.mem_map.1 hx; exact hrow z),List.length_map]
        have hle:lo * s + n' * s≤l.length * s:=by rw [← Nat.add_mul]; exact Nat.mul_le_mul_right s h
        have hcl:=OpT.clearV (P:=P) (G:=G) (n0:=n0) ho rfl hu hti hz c1 hx hb (by rw [hlen,c2]; omega)
        have hw:Wks (H.set i (.cells ((cel row l sp).take (lo * s)++(List.replicate n' (z.cells.toList.map PV.sc)).flatten++(cel row l sp).drop (lo * s + n' * z.cells.size)))) false
          ((cel row l sp).take (lo * s)++(List.replicate n' (z.cells.toList.map PV.sc)).flatten++(cel row l sp).drop (lo * s + n' * z.cells.size)) (cel row (l.take lo++List.replicate n' z0++l.drop (lo + n')) sp):=by
         have hp:=Zu4 hrow (List.replicate n' z0) (sp.map PV.sc) l lo (by rw [List.length_replicate]; exact h)
         rw [List.length_replicate] at hp
         unfold AM.cel
         rw [hp,c2,List.map_replicate]
         refine Wks.append (Wks.append (Wks.refl _ _ _) (Zw7 ?_ n')) (Wks.refl _ _ _)
         rw [← hz0]
         exact Zml _ _ _ _
        have hil:=(List.getElem?_eq_some_iff.1 hb).1
        refine OpT.wkc i hcl (List.getElem?_set_self hil) hw ?_ ?_
        ·exact PV.idss_mono (fun _ hf=>by cases hf) _ (Zt hclosed _ _)
        ·rw [List.set_set]
       ·cases hr
      ·cases hr
     ·cases hr
    ·cases hr
   ·cases hr
  ·cases hr
end
end Go.AM
namespace Go.AM
section
variable {P:Program} {G:Glob} {n0 nt:Nat} {o:Oper} {st:St} {H:List Blk}
theorem OpW.callBs {cl:Call} {x:Operand} {f:FuncId} {fn:Func} {i s t k:Nat} {xs ys:List (List PV)} {rest:List PV}
  (ho:o.op=.call cl) (hc:cl.callee=.value x) (hx:opd G st x=some (.sc (.func (.func f) #[] #[])))
  (hfn:P.funcs[f]? = some fn) (hbody:fn.body.isNone=false) (hname:(fn.name == "runtime.NumGoroutine")=false)
  (hargs:cl.args.toList.map (opd G st)=(.own i xs.length :: rest).map some) (hrest:PV.idss (fun _=>false) rest=true) (hb:H[i]? = some (.buf s t xs false)) (hne:xs ≠ [])
  (hlen:ys.length=xs.length) (hys:∀ y∈ys,y.length=s) (hk:k≤ys.length)
  (hcall:∀ sp:List Value,ACall P G f (.vw 0 0 xs.length :: rest) [.cells (xs.flatten++sp.map .sc)] (fun q K=>q=.vw 0 0 k∧K=[.cells (ys.flatten++sp.map .sc)])) :
  OpW P G n0 o st H (.sl s (ys.take k)) (H.set i (.buf s t ys true)):=by
 intro c a w β h0 hr
 have hv:=VRs.of_opds hr cl.args.toList _ hargs
 have hlv:=VRs.length _ _ hv
 obtain⟨u,us,hus⟩:∃ u us,cl.args.toList.map a.eval=u :: us:=by
  cases hq:cl.args.toList.map a.eval with
  | nil=>rw [hq] at hlv; simp at hlv
  | cons u us=>exact⟨u,us,rfl⟩
 rw [hus] at hv
 simp only [VRs] at hv
 obtain⟨hv1,hv2⟩:=hv
 simp only [VR] at hv1
 obtain⟨_,e,he,_,hve⟩:=hv1
 obtain⟨q1,_⟩:=hr.blk i e _ he hb
 have hve:=hve q1.symm
 obtain⟨g,cap,sp,k1,k2,k3,k4⟩:=hr.callB he hb hne hlen hys
 have hxe:=hr.opd hx
 simp only [VR] at hxe
 have hex:(execOp a.eval o).run P w=.ok (.enter f (cl.args.map a.eval)) w:=by
  have hn:¬ fn.name= "runtime.NumGoroutine":=by simpa using hname
  have hb:¬ fn.body=none:=by cases hq:fn.body <;> simp [hq] at hbody ⊢
  simp [execOp,ho,resolve,hc,hxe,Deferred.ofValue,invoke,callFunc,hfn,hn,hb]
 simp only [wpv,hex]
 refine(hcall sp _ _ w (cl.args.map a.eval) k3 ?_).mono ?_
 ·have:(cl.args.map a.eval).toList=u :: us:=by simpa using hus
  rw [this]
  simp only [VRs]
  refine⟨?_,VRs.closed (Ext.refl _ _) hrest hv2⟩
  simp only [VR]
  exact⟨_,rfl,cap,_,k1,by rw [hve,k2],fun _=>rfl⟩
 ·rintro ex w' ⟨v,q,K,γ,rfl,⟨rfl,rfl⟩,hout,hvr⟩
  obtain⟨rfl,g1,g2,g3,g4⟩:=k4 γ w' hout
  have hil:=(List.getElem?_eq_some_iff.1 hb).1
  have hs:=g1.share (List.getElem?_set_self hil)
  rw [List.set_set] at hs
  refine⟨v,rfl,_,hs,?_⟩
  simp only [VR] at hvr
  obtain⟨e1,he1,cap',ad,hcap,rfl,had⟩:=hvr
  simp at he1
  subst he1
  by_cases hk0:k=0
  ·subst hk0
   simp only [VR]
   exact⟨ad,cap',by simp,by simp,.inl (by simp)⟩
  ·have hbl:i<β.length:=(List.getElem?_eq_some_iff.1 he).1
   have:=hs.ow_sl (i:=i) (n:=ys.length) (lo:=0) (hi:=k) (List.getElem?_set_self hil) rfl (by omega) hk (u:=.slice ad k cap') (by
    simp only [VR]
    refine⟨rfl,_,List.getElem?_set_self hbl,Nat.le_refl _,fun _=>⟨g,cap',by rw [k2]; rfl,hcap,?_⟩⟩
    rw [had hk0]
    simp)
   simpa using this
variable {α:Type}
def Hnd.callBs {f:FuncId} {fn:Func} (row:α→List PV) {s k:Nat} {l l':List α} {rest:List PV} (hfn:P.funcs[f]? = some fn) (hrow:∀ z,(row z).length=s) (hne:l ≠ []) (hlen:l'.length=l.length) (hk:k≤l'.length)
  (hc:∀ sp,ACall P G f (.vw 0 0 l.length :: rest) [.cells (cel row l sp)] (fun q K=>q=.vw 0 0 k∧K=[.cells (cel row l' sp)])):Hnd P G where
 run o st H:=match o.op with
  | .call cl=>match cl.callee with
   | .value x=>match opd G st x,opdL G st cl.args.toList with
    | some px,some (.own i n :: rest')=>match H[i]? with
     | some (.buf s' t xs false)=>
      if fn.body.isNone=false∧(fn.name == "runtime.NumGoroutine")=false∧PV.idss (fun _=>false) rest=true∧Nat.beq s s'=true then
       some ⟨.sl s' ((l'.take k).map row),H.set i (.buf s' t (l'.map row) true),[.p px,.n n,.ps rest',.rs xs],[.p (.sc (.func (.func f) #[] #[])),.n l.length,.ps rest,.rs (l.map row)]⟩
      else none
     | _=>none
    | _,_=>none
   | _=>none
  | _=>none
 sound:=by
  intro n0 o st H x h he
  split at h
  ·rename_i cl ho
   split at h
   ·rename_i x hcl
    split at h
    ·rename_i px i n rest' hx hps
     split at h
     ·rename_i s' t xs hb
      split at h
      ·rename_i hcond
       obtain⟨c1,c2,c3,c5⟩:=hcond
       simp only [Option.some.injEq] at h
       subst h
       simp only [List.cons.injEq,T.p.injEq,T.ps.injEq,T.n.injEq,T.rs.injEq,and_true] at he
       obtain⟨rfl,rfl,rfl,rfl⟩:=he
       have c5:=Nat.eq_of_beq_eq_true c5
       subst c5
       have hl1:(l.map row).length=l.length:=List.length_map ..
       have:=OpW.callBs (n0:=n0) (xs:=l.map row) (ys:=l'.map row) (k:=k) ho hcl hx hfn c1 c2 (by rw [hl1]; exact Ze0 _ _ hps) c3 hb (by simpa using hne) (by simpa using hlen) (by
        intro y hy
        obtain⟨z,_,rfl⟩:=List.mem_map.1 hy
        exact hrow z) (by simpa using hk) (fun sp=>by rw [hl1]; exact hc sp)
       rw [← List.map_take] at this
       exact this
      ·cases h
     ·cases h
    ·cases h
   ·cases h
  ·cases h
end
end Go.AM
namespace Go.AM
section
variable {P:Program} {G:Glob} {n0 nt:Nat} {o:Oper} {st:St} {H:List Blk}
variable {α β:Type}
def Hnd.ixE (row:α→List PV) (l:List α) (k:Int) {n:Nat} {j:Int} (h:0≤j∧j<(n:Int)) {m0:Nat} (hm:l.length=m0:=by rfl):Hnd P G where
 run o st H:=match o.op with
  | .indexAddr t x y=>match P.underlying t,opd G st x,opd G st y with
   | some (.array n' e),some (.ept i m q off),some (.sc (.int _ j'))=>match H[i]? with
    | some (.buf _ _ xs _)=>if Nat.beq (P.cellsOf e) 0 then none else some ⟨.ept i m0 k.toNat (off + j.toNat * P.cellsOf e),H,[.n m,.n q,.rs xs,.n n',.i j'],[.n m0,.n k.toNat,.rs (l.map row),.n n,.i j]⟩
    | _=>none
   | _,_,_=>none
  | _=>none
 sound:=by
  intro n0 o st H x hr he
  subst hm
  suffices hT:OpT P G n0 o st H x.p x.H from hT.weak
  split at hr
  ·rename_i t x y ho
   split at hr
   ·rename_i n' e i m q off k' j' hu hx hy
    split at hr
    ·rename_i s ty xs sh hb
     split at hr
     ·cases hr
     ·rename_i hz
      simp only [Option.some.injEq] at hr; subst hr
      simp only [List.cons.injEq,T.n.injEq,T.i.injEq,T.rs.injEq,and_true] at he
      obtain⟨rfl,rfl,rfl,rfl,rfl⟩:=he
      exact OpT.index_ept ho hu (fun h0=>hz (by rw [h0]; rfl)) hy h.1 h.2 hx hb (by rw [List.length_map])
    ·cases hr
   ·cases hr
  ·cases hr
def Hnd.stEd (row:α→List PV) {l:List α} {k:Int} {z:α} (hz:AM.idx l k=some z) (nz:Int→α) (off s d:Nat) {n:Nat} {j:Int} (h:0≤j∧j<(n:Int)) {m0:Nat} (hm:l.length=m0:=by rfl):Hnd P G where
 run o st H:=match o.op with
  | .store t x y=>match opd G st x,opd G st y with
   | some (.ept i m q off'),some p=>match H[i]? with
    | some (.buf s' ty xs false)=>if Nat.beq (P.cellsOf t) p.cells.length && (P.info? t).isSome && Nat.ble (off + n * s) (row z).length && Nat.ble (d + p.cells.length) s && p.cells.all PV.one && PV.idss (fun _=>false) p.cells then
      some ⟨.sc undef,H.set i (.buf s' ty ((l.set k.toNat (nz j)).map row) false),[.n m,.n q,.rs xs,.n off',.rs ((List.range n).map fun q:Nat=>row (nz (q:Int)))],
       [.n m0,.n k.toNat,.rs (l.map row),.n (off + j.toNat * s + d),.rs ((List.range n).map fun q:Nat=>(row z).take (off + q * s + d)++p.cells++(row z).drop (off + q * s + d + p.cells.length))]⟩ else none
    | _=>none
   | _,_=>none
  | _=>none
 sound:=by
  intro n0 o st H x hr he
  subst hm
  suffices hT:OpT P G n0 o st H x.p x.H from hT.weak
  split at hr
  ·rename_i t x y ho
   split at hr
   ·rename_i i m q off' p hx hy
    split at hr
    ·rename_i s' ty xs hb
     split at hr
     ·rename_i hc
      simp only [Bool.and_eq_true] at hc
      obtain⟨⟨⟨⟨⟨c1,c2⟩,c3⟩,c3'⟩,c4⟩,c5⟩:=hc
      simp only [Option.some.injEq] at hr
      subst hr
      simp only [List.cons.injEq,T.rs.injEq,T.n.injEq,and_true] at he
      obtain⟨rfl,rfl,rfl,rfl,h5⟩:=he
      have hq:j.toNat<n:=by omega
      have h6:=Zka h5 hq
      rw [show ((j.toNat:Nat):Int)=j by omega] at h6
      have hm:(j.toNat + 1) * s≤n * s:=Nat.mul_le_mul_right s hq
      rw [Nat.add_mul,Nat.one_mul] at hm
      have c3:=Nat.le_of_ble_eq_true c3
      have c3':=Nat.le_of_ble_eq_true c3'
      exact OpT.storeEptT ho hx hy hb hz c1 c2 (Nat.ble_eq_true_of_le (by omega)) c4 c5 h6 rfl rfl
     ·cases hr
    ·cases hr
   ·cases hr
  ·cases hr
end
end Go.AM
namespace Go.AM
section
variable {P:Program} {G:Glob} {n0 nt:Nat} {o:Oper} {st:St} {H:List Blk}
theorem OpT.sliceArr0 {t e:TypeId} {n:Nat} {x:Operand} {lo hi:Option Operand} {l h:Int} {i off:Nat} (ho:o.op=.slice t x lo hi none) (hu:P.underlying t=some (.array n e)) (hz:P.cellsOf e ≠ 0)
  (hx:opd G st x=some (.ptr i off)) (hlo:loOf G st lo=some l) (hhi:hiOf G st n hi=some h) (h0:0≤l) (h1:l≤h) (h2:h≤n):OpT P G n0 o st H (.vw i (off + l.toNat * P.cellsOf e) (h.toNat - l.toNat)) H:=by
 by_cases hl:l<n
 ·exact OpT.sliceArr ho hu hz hx hlo hhi h0 h1 (.inr ⟨h2,hl⟩)
 ·have hlh:h=l:=by omega
  have hln:l=n:=by omega
  subst hlh
  intro c a w β hn0 hr
  refine Zgt (OpT.sliceArr_empty ho hu hz hx hlo hhi h0 h2 c a w β hn0 hr) fun v w' ⟨β',g1,g2,g3,g4⟩=>⟨β',g1,?_,g3,g4⟩
  have hp:=hr.opd hx
  simp only [VR] at hp g2 ⊢
  obtain⟨ed,he,_⟩:=hp
  obtain⟨e',he',_⟩:=g3 i ed rfl he
  obtain⟨ad,cap,hv,hc,_⟩:=g2
  exact⟨e',he',cap,ad,by omega,by rw [hv]; simp,fun hne=>by omega⟩
def Hnd.sliceA {n:Nat} {a b:Int} (h:0≤a∧a≤b∧b≤(n:Int)):Hnd P G where
 run o st H:=match o.op with
  | .slice t x lo hi none=>match P.underlying t,opd G st x,loOf G st lo with
   | some (.array n' e),some (.ptr i off),some l=>match hiOf G st n' hi with
    | some h=>if Nat.beq (P.cellsOf e) 0 then none else some ⟨.vw i (off + a.toNat * P.cellsOf e) (b.toNat - a.toNat),H,[.n n',.i l,.i h],[.n n,.i a,.i b]⟩
    | none=>none
   | _,_,_=>none
  | _=>none
 sound:=by
  intro n0 o st H x hr he
  suffices hT:OpT P G n0 o st H x.p x.H from hT.weak
  split at hr
  ·rename_i t x lo hi ho
   split at hr
   ·rename_i n' e i off l hu hx hlo
    split at hr
    ·rename_i hh hhi
     split at hr
     ·cases hr
     ·rename_i hz
      simp only [Option.some.injEq] at hr; subst hr
      simp only [List.cons.injEq,T.n.injEq,T.i.injEq,and_true] at he
      obtain⟨rfl,rfl,rfl⟩:=he
      exact OpT.sliceArr0 ho hu (fun h0=>hz (by rw [h0]; rfl)) hx hlo hhi h.1 h.2.1 h.2.2
    ·cases hr
   ·cases hr
  ·cases hr
theorem Zzi {lo j:Int} (h0:0≤lo) (h1:0≤j) (s:Nat):(0 + lo.toNat * s) + j.toNat * s=0 + (lo + j).toNat * s:=by
 rw [Nat.zero_add,Nat.zero_add,← Nat.add_mul]; congr 1; omega
def Hnd.idxVA {n off0 off1 s:Nat} {j:Int} (h:0≤j∧j<(n:Int)) (hoff:off0 + j.toNat * s=off1):Hnd P G where
 run o st H:=match o.op with
  | .indexAddr t x y=>match P.underlying t,opd G st x,opd G st y with
   | some (.slice e),some (.vw i off n'),some (.sc (.int _ j'))=>if Nat.beq (P.cellsOf e) 0 then none else if Nat.beq (P.cellsOf e) s then some ⟨.ptr i off1,H,[.n n',.i j',.n off],[.n n,.i j,.n off0]⟩ else none
   | _,_,_=>none
  | _=>none
 sound:=by
  intro n0 o st H x hr he
  suffices hT:OpT P G n0 o st H x.p x.H from hT.weak
  split at hr
  ·rename_i t x y ho
   split at hr
   ·rename_i e i off n' k j' hu hx hy
    split at hr
    ·cases hr
    ·rename_i hz
     split at hr
     ·rename_i hs
      have hs:=Nat.eq_of_beq_eq_true hs
      simp only [Option.some.injEq] at hr; subst hr
      simp only [List.cons.injEq,T.n.injEq,T.i.injEq,and_true] at he
      obtain⟨rfl,rfl,rfl⟩:=he
      have:=OpT.index_vw (n0:=n0) (H:=H) ho hu (fun h0=>hz (by rw [h0]; rfl)) hx hy h.1 h.2
      rw [hs] at this
      rw [← hoff]
      exact this
     ·cases hr
   ·cases hr
  ·cases hr
theorem VRow.wks {S:Nat→Nat→Prop} {w:World} {b:Nat} {ps qs:List PV} (h:Wks [] false ps qs):∀ o,VRow S [] w b o ps→VRow S [] w b o qs:=by
 induction h with
 | nil=>exact fun _ h=>h
 | cons p q ps qs h1 h2 ih=>
  intro o hr
  simp only [VRow] at hr ⊢
  obtain⟨⟨u,g1,g2⟩,g3⟩:=hr
  refine⟨⟨u,g1,?_⟩,ih _ g3⟩
  cases h1 with
  | refl=>exact g2
  | nil s=>simp only [VR] at g2 ⊢; subst g2; exact⟨none,0,rfl,Nat.le_refl _,.inl trivial⟩
  | own i s t xs sh hb hs=>simp at hb
theorem Wks.length {H:List Blk} {any:Bool} {ps qs:List PV} (h:Wks H any ps qs):qs.length=ps.length:=by
 induction h with
 | nil=>rfl
 | cons p q ps qs h1 h2 ih=>simp [ih]
end
end Go.AM
namespace Go.AM
section
variable {P:Program} {G:Glob} {n0 nt:Nat} {o:Oper} {st:St} {H:List Blk}
def sidx (s:ByteArray) (i:Int):Option Int:=if h:0≤i∧i<s.size then some ((s[i.toNat]'(by omega)).toNat:Int) else none
def Hnd.str {s:ByteArray} {i z:Int} (hz:sidx s i=some z):Hnd P G where
 run o st H:=match o.op with
  | .index t x y=>match P.underlying t,opd G st x,opd G st y with
   | some .string,some (.sc v),some (.sc (.int _ i'))=>some ⟨.sc (.int .u8 z),H,[.v v,.i i'],[.v (.string s),.i i]⟩
   | _,_,_=>none
  | _=>none
 sound:=by
  intro n0 o st H x hr he
  suffices hT:OpT P G n0 o st H x.p x.H from hT.weak
  split at hr
  ·rename_i t x y ho
   split at hr
   ·rename_i v k i' hu hx hy
    simp only [Option.some.injEq] at hr; subst hr
    simp only [List.cons.injEq,T.v.injEq,T.i.injEq,and_true] at he
    obtain⟨rfl,rfl⟩:=he
    refine OpT.value fun c a w β hn hr=>⟨.int .u8 z,?_,by simp only [VR]⟩
    have g1:=hr.opd hx
    have g2:=hr.opd hy
    simp only [VR] at g1 g2
    unfold sidx at hz
    split at hz
    ·rename_i hi
     simp only [Option.some.injEq] at hz
     have:=run_index_string (P:=P) w t s k i' hu
     rw [dif_pos hi,hz] at this
     simp [execOp,ho,g1,g2,this]
    ·cases hz
   ·cases hr
  ·cases hr
end
end Go.AM
namespace Go.AM
section
variable {P:Program} {G:Glob} {n0 nt:Nat} {o:Oper} {st:St} {H:List Blk}
def closedH:List Blk→Prop
 | []=>True
 | .cells cs :: ks=>PV.idss (fun _=>false) cs=true∧closedH ks
 | .buf .. :: ks=>closedH ks
 | .map .. :: _=>False
 | .iter .. :: _=>False
theorem closedH.n:closedH []:=trivial
theorem closedH.c {cs:List PV} {ks:List Blk} (h:PV.idss (fun _=>false) cs=true) (hk:closedH ks):closedH (.cells cs :: ks):=⟨h,hk⟩
theorem Zj1 (f:Nat→Nat):∀ {H:List Blk},closedH H→H.map (Blk.ren f)=H
 | [],_=>rfl
 | .cells cs :: ks,h=>by
  simp only [List.map_cons,Blk.ren,PV.rens_same (f:=f) (q:=fun _=>false) (fun _ hf=>by cases hf) cs h.1,Zj1 f h.2]
 | .buf .. :: ks,h=>by
  simp only [List.map_cons,Blk.ren,Zj1 f (H:=ks) h]
 | .map .. :: _,h=>h.elim
 | .iter .. :: _,h=>h.elim
def Hnd.callC {f:FuncId} {fn:Func} {args0:List PV} {H0 H1:List Blk} {p1:PV} (hfn:P.funcs[f]? = some fn) (ws:List Ow) (h0:closedH H0) (h1:closedH H1) (hc:ACall P G f args0 H0 (fun q K=>q=p1∧K=H1)):Hnd P G where
 run o st H:=match o.op with
  | .call cl=>match cl.callee with
   | .value x=>match opd G st x,opdL G st cl.args.toList with
    | some px,some ps=>match wkArgs P H false fn.params.toList ps ws with
     | some (qs,l,r)=>
      let σ:=ptrsOf ps
      if fn.body.isNone=false∧(fn.name == "runtime.NumGoroutine")=false∧σ.Pairwise (·<·)∧H0.all Blk.isCells=true then
       some ⟨p1.ren (renId σ H.length),setAll σ H1 H,.p px :: .ps qs :: .bs (H0.map some) :: l,.p (.sc (.func (.func f) #[] #[])) :: .ps (PV.rens (renId σ H.length) args0) :: .bs (σ.map (H[·]?)) :: r⟩
      else none
     | _=>none
    | _,_=>none
   | _=>none
  | _=>none
 sound:=by
  intro n0 o st H x h he
  suffices hT:OpT P G n0 o st H x.p x.H from hT.weak
  split at h
  ·rename_i cl ho
   split at h
   ·rename_i x hcl
    split at h
    ·rename_i px ps hx hps
     split at h
     ·rename_i qs l r hw
      simp only [] at h
      split at h
      ·rename_i hcond
       obtain⟨c1,c2,c3,c4⟩:=hcond
       simp only [Option.some.injEq] at h
       subst h
       simp only [List.cons.injEq,T.p.injEq,T.ps.injEq,T.bs.injEq] at he
       obtain⟨h1',h2,h3,h4⟩:=he
       subst h1'
       refine OpT.call (caps:=[]) ho hcl (.inl ⟨hx,rfl⟩) hfn c1 c2 (Ze0 _ _ hps) (by rw [List.append_nil]; exact Zi4 _ _ _ _ hw h4) h2 c3 c4 ?_ hc rfl ?_
       ·rw [← h3]
        have:=congrArg (List.map some) (Zj1 (renId (ptrsOf ps) H.length) h0)
        rw [List.map_map] at this
        exact this
       ·rw [Zj1 _ h1]
      ·cases h
     ·cases h
    ·cases h
   ·cases h
  ·cases h
end
end Go.AM
namespace Go.AM
section
variable {P:Program} {G:Glob} {n0 nt:Nat} {o:Oper} {st:St} {H:List Blk}
variable {α:Type}
def handB (l:List α) (x:Option (Nat × List α)) (y:Option (List α)):Option (Nat × List α):=match l with
 | []=>y.bind fun z=>if z.length=0 then some (0,[]) else none
 | _ :: _=>x.bind fun r=>if r.2.length=l.length∧r.1≤r.2.length then some r else none
theorem Zxy {l:List α} {x:Option (Nat × List α)} {y:Option (List α)} {r:Nat × List α} (h:handB l x y=some r) (hl:l ≠ []):x=some r∧r.2.length=l.length∧r.1≤r.2.length:=by
 cases l with
 | nil=>exact absurd rfl hl
 | cons a l=>
  simp only [handB,Option.bind_eq_some_iff] at h
  obtain⟨q,h1,h2⟩:=h
  split at h2
  ·rename_i hc
   simp only [Option.some.injEq] at h2
   subst h2
   exact⟨h1,hc⟩
  ·cases h2
theorem Zyj {l:List α} {x:Option (Nat × List α)} {y:Option (List α)} {r:Nat × List α} (h:handB l x y=some r) (hl:l=[]):y=some []∧r=(0,[]):=by
 subst hl
 simp only [handB,Option.bind_eq_some_iff] at h
 obtain⟨z,h1,h2⟩:=h
 split at h2
 ·rename_i hc
  rw [List.length_eq_zero_iff] at hc
  subst hc
  simp only [Option.some.injEq] at h2
  exact⟨h1,h2.symm⟩
 ·cases h2
def Hnd.callBE {f:FuncId} {fn:Func} (row:α→List PV) {s:Nat} {l:List α} {x0:Option (Nat × List α)} {y0:Option (List α)} {r:Nat × List α} {rest:List PV} (hfn:P.funcs[f]? = some fn) (hrow:∀ z,(row z).length=s) (hr:handB l x0 y0=some r)
  (hc:x0=some r→∀ sp,ACall P G f (.vw 0 0 l.length :: rest) [.cells (cel row l sp)] (fun q K=>q=.vw 0 0 r.1∧K=[.cells (cel row r.2 sp)]))
  (he:y0=some []→ACall P G f (.sl s [] :: rest) [] (fun q K=>q=.sl s []∧K=[])):Hnd P G where
 run o st H:=match o.op with
  | .call cl=>match cl.callee with
   | .value x=>match opd G st x,opdL G st cl.args.toList with
    | some px,some (.own i n :: rest')=>match H[i]? with
     | some (.buf s' t xs false)=>
      if fn.body.isNone=false∧(fn.name == "runtime.NumGoroutine")=false∧PV.idss (fun _=>false) rest=true∧Nat.beq s s'=true then
       some ⟨.sl s' ((r.2.take r.1).map row),H.set i (.buf s' t (r.2.map row) true),[.p px,.n n,.ps rest',.rs xs],[.p (.sc (.func (.func f) #[] #[])),.n l.length,.ps rest,.rs (l.map row)]⟩
      else none
     | _=>none
    | _,_=>none
   | _=>none
  | _=>none
 sound:=by
  intro n0 o st H x h he'
  split at h
  ·rename_i cl ho
   split at h
   ·rename_i x hcl
    split at h
    ·rename_i px i n rest' hx hps
     split at h
     ·rename_i s' t xs hb
      split at h
      ·rename_i hcond
       obtain⟨c1,c2,c3,c5⟩:=hcond
       simp only [Option.some.injEq] at h
       subst h
       simp only [List.cons.injEq,T.p.injEq,T.ps.injEq,T.n.injEq,T.rs.injEq,and_true] at he'
       obtain⟨rfl,rfl,rfl,rfl⟩:=he'
       have c5:=Nat.eq_of_beq_eq_true c5
       subst c5
       by_cases hl:l=[]
       ·obtain⟨hy,rfl⟩:=Zyj hr hl
        subst hl
        have hk:=he hy
        intro c a w β h0 hrl
        have hrs:=hrl.share hb
        have hil:=(List.getElem?_eq_some_iff.1 hb).1
        have hw:Wks (H.set i (.buf s t [] true)) false ((.own i ([]:List (List PV)).length :: rest')++[]) (.sl s [] :: rest'):=by
         rw [List.append_nil]
         exact .cons _ _ _ _ (.own i s t [] true (List.getElem?_set_self hil) (.inr rfl)) (Wks.refl _ _ _)
        exact(OpT.callV (n0:=n0) (H:=H.set i (.buf s t [] true)) ho hcl (.inl ⟨hx,rfl⟩) hfn c1 c2 (Ze0 _ _ hps) hw (by simpa [PV.idss,PV.ids] using c3) (by simp [PV.ids]) hk).weak c a w β (by simpa using h0) hrs
       ·obtain⟨h1,h2,h3⟩:=Zxy hr hl
        have hl1:(l.map row).length=l.length:=List.length_map ..
        have:=OpW.callBs (n0:=n0) (xs:=l.map row) (ys:=r.2.map row) (k:=r.1) ho hcl hx hfn c1 c2 (by rw [hl1]; exact Ze0 _ _ hps) c3 hb (by simpa using hl) (by simpa using h2) (by
         intro y hy
         obtain⟨z,_,rfl⟩:=List.mem_map.1 hy
         exact hrow z) (by simpa using h3) (fun sp=>by rw [hl1]; exact hc h1 sp)
        rw [← List.map_take] at this
        exact this
      ·cases h
     ·cases h
    ·cases h
   ·cases h
  ·cases h
end
end Go.AM
set_option maxRecDepth 100000
namespace Go.AM
open Go
structure Arr4 (α:Type) where
 x0:α
 x1:α
 x2:α
 x3:α
def Arr4.get {α:Type} (a:Arr4 α) (i:Int):α:=if i=0 then a.x0 else if i=1 then a.x1 else if i=2 then a.x2 else a.x3
def Arr4.set {α:Type} (a:Arr4 α) (i:Int) (v:α):Arr4 α:=if i=0 then { a with x0:=v } else if i=1 then { a with x1:=v } else if i=2 then { a with x2:=v } else { a with x3:=v }
structure Arr5 (α:Type) where
 x0:α
 x1:α
 x2:α
 x3:α
 x4:α
def Arr5.get {α:Type} (a:Arr5 α) (i:Int):α:=if i=0 then a.x0 else if i=1 then a.x1 else if i=2 then a.x2 else if i=3 then a.x3 else a.x4
def Arr5.set {α:Type} (a:Arr5 α) (i:Int) (v:α):Arr5 α:=if i=0 then { a with x0:=v } else if i=1 then { a with x1:=v } else if i=2 then { a with x2:=v } else if i=3 then { a with x3:=v } else { a with x4:=v }
def Z5 (x:(Arr5 Int)):List PV:=[.sc (.int .u32 x.x0),.sc (.int .u32 x.x1),.sc (.int .u32 x.x2),.sc (.int .u32 x.x3),.sc (.int .u32 x.x4)]
def Zyk (x:(Arr5 Int)):List Value:=[.int .u32 x.x0,.int .u32 x.x1,.int .u32 x.x2,.int .u32 x.x3,.int .u32 x.x4]
def Zk8 (x:(Arr5 Int)):PV:=.sc (.agg ⟨Zyk x⟩)
def Zil:(Arr5 Int):=Arr5.mk (0:Int) (0:Int) (0:Int) (0:Int) (0:Int)
def Zyl (x:(List Int)):List PV:=[.sl 1 (List.map Zz x)]
def Zpz (x:(List Int)):Prop:=x.length≤9223372036854775807∧∀ y∈x,Zq2 y
structure Zg where
 f_l:(List Int)
 f_i:Int
def Zi (x:Zg):List PV:=[.sl 1 (List.map Zz x.f_l),.sc (.int .i64 x.f_i)]
structure Zb where
 Lo:Int
 Hi:Int
abbrev ZB:=Arr5 Zb
abbrev ZL:=List (Arr5 Zb)
def Zh (x:Zb):List PV:=[.sc (.int .u32 x.Lo),.sc (.int .u32 x.Hi)]
def Zfy (x:Zb):Prop:=Zhl x.Lo∧Zhl x.Hi∧True
def Zu5 (x:Zb):List Value:=[.int .u32 x.Lo,.int .u32 x.Hi]
def Zhn (x:Zb):PV:=.sc (.agg ⟨Zu5 x⟩)
def Zcs (x y:Zb):Bool:=((x.Lo == y.Lo) && ((x.Hi == y.Hi) && true))
def Z3:Zb:=Zb.mk (0:Int) (0:Int)
def Za (x:(Arr5 Zb)):List PV:=[.sc (.int .u32 x.x0.Lo),.sc (.int .u32 x.x0.Hi),.sc (.int .u32 x.x1.Lo),.sc (.int .u32 x.x1.Hi),.sc (.int .u32 x.x2.Lo),.sc (.int .u32 x.x2.Hi),.sc (.int .u32 x.x3.Lo),.sc (.int .u32 x.x3.Hi),.sc (.int .u32 x.x4.Lo),.sc (.int .u32 x.x4.Hi)]
def Zi5 (x:(Arr5 Zb)):Prop:=Zfy x.x0∧Zfy x.x1∧Zfy x.x2∧Zfy x.x3∧Zfy x.x4∧True
def Zrf (x:(Arr5 Zb)):List Value:=[.int .u32 x.x0.Lo,.int .u32 x.x0.Hi,.int .u32 x.x1.Lo,.int .u32 x.x1.Hi,.int .u32 x.x2.Lo,.int .u32 x.x2.Hi,.int .u32 x.x3.Lo,.int .u32 x.x3.Hi,.int .u32 x.x4.Lo,.int .u32 x.x4.Hi]
def Zs (x:(Arr5 Zb)):PV:=.sc (.agg ⟨Zrf x⟩)
def Zfb (x y:(Arr5 Zb)):Bool:=((Zcs x.x0 y.x0) && ((Zcs x.x1 y.x1) && ((Zcs x.x2 y.x2) && ((Zcs x.x3 y.x3) && ((Zcs x.x4 y.x4) && true)))))
def Zv:(Arr5 Zb):=Arr5.mk Z3 Z3 Z3 Z3 Z3
structure Zbd where
 Addr:Int
 Bits:Int
def Zct (x:Zbd):List PV:=[.sc (.int .u32 x.Addr),.sc (.int .i64 x.Bits)]
def Zue (x:Zbd):List Value:=[.int .u32 x.Addr,.int .i64 x.Bits]
def Zkb (x:Zbd):PV:=.sc (.agg ⟨Zue x⟩)
def Zu6:Zbd:=Zbd.mk (0:Int) (0:Int)
def Zae (x:(List (Arr5 Zb))):List PV:=[.sl 10 (List.map Za x)]
def Zkd (x:(List (Arr5 Zb))):Prop:=x.length≤9223372036854775807∧∀ y∈x,Zi5 y
structure Zf where
 Hi:Int
 Lo:Int
def Zc (x:Zf):List PV:=[.sc (.int .u64 x.Hi),.sc (.int .u64 x.Lo)]
def Zd3 (x:Zf):Prop:=Zg0 x.Hi∧Zg0 x.Lo∧True
def Znm (x:Zf):List Value:=[.int .u64 x.Hi,.int .u64 x.Lo]
def Zq (x:Zf):PV:=.sc (.agg ⟨Znm x⟩)
def Zi6 (x y:Zf):Bool:=((x.Hi == y.Hi) && ((x.Lo == y.Lo) && true))
def Zk:Zf:=Zf.mk (0:Int) (0:Int)
structure Zm where
 f_values:Zb
 f_rest:(List (Arr5 Zb))
def Zl (x:Zm):List PV:=[.sc (.int .u32 x.f_values.Lo),.sc (.int .u32 x.f_values.Hi),.sl 10 (List.map Za x.f_rest)]
def Zfo:Zm:=Zm.mk Z3 ([]:(List (Arr5 Zb)))
structure Zj where
 Src:Int
 Dst:Int
 Proto:Int
 SrcPort:Int
 DstPort:Int
def Ze (x:Zj):List PV:=[.sc (.int .u32 x.Src),.sc (.int .u32 x.Dst),.sc (.int .u8 x.Proto),.sc (.int .u16 x.SrcPort),.sc (.int .u16 x.DstPort)]
def Z2 (x:Zj):Prop:=Zhl x.Src∧Zhl x.Dst∧ok_u8 x.Proto∧Zig x.SrcPort∧Zig x.DstPort∧True
def Zm3 (x:Zj):List Value:=[.int .u32 x.Src,.int .u32 x.Dst,.int .u8 x.Proto,.int .u16 x.SrcPort,.int .u16 x.DstPort]
def Zas (x:Zj):PV:=.sc (.agg ⟨Zm3 x⟩)
def Zkc (x y:Zj):Bool:=((x.Src == y.Src) && ((x.Dst == y.Dst) && ((x.Proto == y.Proto) && ((x.SrcPort == y.SrcPort) && ((x.DstPort == y.DstPort) && true)))))
def Zo:Zj:=Zj.mk (0:Int) (0:Int) (0:Int) (0:Int) (0:Int)
def Zaa (x:(Arr4 Int)):List PV:=[.sc (.int .u64 x.x0),.sc (.int .u64 x.x1),.sc (.int .u64 x.x2),.sc (.int .u64 x.x3)]
def Zym (x:(Arr4 Int)):List Value:=[.int .u64 x.x0,.int .u64 x.x1,.int .u64 x.x2,.int .u64 x.x3]
def Zts (x:(Arr4 Int)):PV:=.sc (.agg ⟨Zym x⟩)
def Zzj:(Arr4 Int):=Arr4.mk (0:Int) (0:Int) (0:Int) (0:Int)
def Zd6:(Arr5 Int):=Arr5.mk 4294967295 4294967295 255 65535 65535
abbrev ZI:Int→Int:=IntKind.wrap .i64
end Go.AM
set_option maxRecDepth 100000
namespace Go.AM
open Go
def Zjx:Option Bool:=
 some true
def Zi7 (a:(List Int)):Option Zg:=
 some (Zg.mk a (0:Int))
def Zg2 (b:Int) (a:Int):Option Int:=
 if (IntKind.wrap .u64 a) ≠ 0 then
 some (IntKind.wrap .i64 (Int.tmod (IntKind.wrap .u64 b) (IntKind.wrap .u64 a)))
 else none
def Zu (a:Zg) (b:Int):Option (Int × Zg):=
 (some (decide (b≤(1:Int)))).bind fun b1=>
 if (b1 || (decide (a.f_i ≥ (List.length a.f_l:Int))))=true then
  some ((0:Int),a)
 else
  (idx a.f_l (IntKind.wrap .i64 ((IntKind.wrap .i64 (a.f_i + (1:Int))) - (1:Int)))).bind fun c=>
  (Zg2 c b).bind fun d=>
  some (d,({ a with f_i:=(IntKind.wrap .i64 (a.f_i + (1:Int))) }:Zg))
def Zdm (a:Int):Option Int:=
 ((if (a == (0:Int))=true then
  some (a == (0:Int))
 else
  some (a == (1:Int))).bind fun b=>
  if b=true then
   some (.inr (4294967295:Int))
  else
   if (a == (2:Int))=true then
    some (.inr (255:Int))
   else
    (if (a == (3:Int))=true then
     some (a == (3:Int))
    else
     some (a == (4:Int))).bind fun c=>
     if c=true then
      some (.inr (65535:Int))
     else
      some (.inl ())).bind fun(d:(Unit ⊕ Int))=>
 match d with
 | .inl ()=>
   some (0:Int)
 | .inr f=>
   some f
def Zgw:Nat→ZB→Int→Option ZB
 | 0,_,_=>none
 | c+1,b,a=>
  if (decide (a<(5:Int)))=true then
   (Zdm a).bind fun d=>
   if 0≤a∧a<5 then
   Zgw c (Arr5.set b a ({ (Arr5.get b a) with Hi:=d }:Zb)) (IntKind.wrap .i64 (a + (1:Int)))
   else none
  else
   some b
def Zh5:Option ZB:=
 (Zgw fuel Zv (0:Int)).bind fun a=>
  some a
def Zfc (a:Int):Option Zbd:=
 (Zg2 a (6:Int)).bind fun b=>
 (idx [(Zbd.mk (167772160:Int) (24:Int)),(Zbd.mk (167772416:Int) (24:Int)),(Zbd.mk (167772672:Int) (25:Int)),(Zbd.mk (167772800:Int) (26:Int)),(Zbd.mk (2886729728:Int) (16:Int)),(Zbd.mk (3232237321:Int) (32:Int))] b).bind fun c=>
 some c
def Zh6 (a:Int):Option Int:=
 if 0≤(IntKind.wrap .u64 (IntKind.wrap .i64 ((32:Int) - a))) then
 some (bShl .u64 (1:Int) (IntKind.wrap .u64 (IntKind.wrap .i64 ((32:Int) - a))))
 else none
def Zi8 (a:Zbd):Option Bool:=
 (some (decide (a.Bits ≥ (0:Int)))).bind fun b1=>
 (some (b1 && (decide (a.Bits≤(32:Int))))).bind fun c=>
 (if c=true then
  (Zh6 a.Bits).bind fun b=>
  if b ≠ 0 then
  some ((Int.tmod (IntKind.wrap .u64 a.Addr) b) == (0:Int))
  else none
  else some false).bind fun d=>
 some d
def Zho (a:Zbd):Option (Zb × Bool):=
 (Zi8 a).bind fun b=>
 if (!b)=true then
  some ((Zb.mk (0:Int) (0:Int)),false)
 else
  (Zh6 a.Bits).bind fun c=>
  some ((Zb.mk a.Addr (IntKind.wrap .u32 (IntKind.wrap .u64 ((IntKind.wrap .u64 ((IntKind.wrap .u64 a.Addr) + c)) - (1:Int))))),true)
def Zb8 (g:Zg):Option (Int × Zg):=
 (Zu g (5:Int)).bind fun b=>
 if (b.1 == (4:Int))=true then
  (Zu b.2 (6:Int)).bind fun c=>
  (idx [(0:Int),(4294967295:Int),(3405803781:Int),(3325256705:Int),(168296448:Int),(2130706433:Int)] c.1).bind fun i=>
  some (i,c.2)
 else
  (Zu b.2 (6:Int)).bind fun d=>
  (Zfc d.1).bind fun j=>
  (Zho j).bind fun a=>
  (Zu d.2 (5:Int)).bind fun f=>
  (idx [a.1.Lo,a.1.Hi,(IntKind.wrap .u32 (a.1.Lo + (5:Int))),(IntKind.wrap .u32 (a.1.Hi + (1:Int))),(IntKind.wrap .u32 (a.1.Lo - (1:Int)))] f.1).bind fun k=>
  some (k,f.2)
def Zc0 (g:Zg):Option (Zb × Zg):=
 (Zu g (4:Int)).bind fun a=>
 if (a.1 == (0:Int))=true then
  (Zu a.2 (6:Int)).bind fun f=>
  (Zfc f.1).bind fun i=>
  (Zho i).bind fun j=>
  some (j.1,f.2)
 else
  if (a.1 == (1:Int))=true then
   (Zb8 a.2).bind fun b=>
   (Zb8 b.2).bind fun c=>
   some ((Zb.mk (iMin b.1 c.1) (iMax b.1 c.1)),c.2)
  else
   if (a.1 == (2:Int))=true then
    (Zb8 a.2).bind fun d=>
    some ((Zb.mk d.1 d.1),d.2)
   else
    some ((Zb.mk (0:Int) (4294967295:Int)),a.2)
def Zb9 (c:Zg) (a:Int):Option (Int × Zg):=
 (Zu c (17:Int)).bind fun b=>
 (idx [(0:Int),(1:Int),(2:Int),(5:Int),(7:Int),(8:Int),(9:Int),(15:Int),(16:Int),(80:Int),(255:Int),(256:Int),(1024:Int),(65535:Int),(IntKind.wrap .u32 (Int.tdiv a (2:Int))),(IntKind.wrap .u32 (a - (1:Int))),a] b.1).bind fun d=>
 some ((iMin d a),b.2)
def Zdz (d:Zg) (c:Int):Option (Zb × Zg):=
 (Zb9 d c).bind fun a=>
 (Zb9 a.2 c).bind fun b=>
 some ((Zb.mk (iMin a.1 b.1) (iMax a.1 b.1)),b.2)
def Zca:Nat→Zg→ZB→Int→Option (Zg × ZB)
 | 0,_,_,_=>none
 | m+1,c,b,d=>
  if (decide (d > (0:Int)))=true then
   ((Zu c (5:Int)).bind fun a=>
   if (a.1 == (0:Int))=true then
    (Zc0 a.2).bind fun f=>
    some (f.2,({ b with x0:=f.1 }:ZB))
   else
    if (a.1 == (1:Int))=true then
     (Zc0 a.2).bind fun g=>
     some (g.2,({ b with x1:=g.1 }:ZB))
    else
     if (a.1 == (2:Int))=true then
      (Zu a.2 (6:Int)).bind fun i=>
      (idx [(6:Int),(17:Int),(1:Int),(0:Int),(7:Int),(255:Int)] i.1).bind fun j=>
      some (i.2,({ b with x2:=(Zb.mk j j) }:ZB))
     else
      if (a.1 == (3:Int))=true then
       (Zdz a.2 (65535:Int)).bind fun k=>
       some (k.2,({ b with x3:=k.1 }:ZB))
      else
       (Zdz a.2 (65535:Int)).bind fun l=>
       some (l.2,({ b with x4:=l.1 }:ZB))).bind fun n=>
   match n with
   | (o,p)=>
    Zca m o p (IntKind.wrap .i64 (d - (1:Int)))
  else
   some (c,b)
def Zfp (b:Zg):Option (ZB × Zg):=
 (Zh5).bind fun c=>
 (Zu b (3:Int)).bind fun a=>
 (Zca fuel a.2 c (IntKind.wrap .i64 ((1:Int) + a.1))).bind fun d=>
 match d with
 | (f,g)=>
  some (g,f)
def Zd4 (d:Zg) (b:ZB):Option (ZB × Zg):=
 (Zu d (5:Int)).bind fun a=>
 ((Zu a.2 (3:Int)).bind fun c=>
 if (c.1 == (0:Int))=true then
  if 0≤a.1∧a.1<5 then
  if 0≤a.1∧a.1<5 then
  if 0≤a.1∧a.1<5 then
  if 0≤a.1∧a.1<5 then
  some (c.2,(Arr5.set (Arr5.set b a.1 ({ (Arr5.get b a.1) with Lo:=(Arr5.get b a.1).Hi }:Zb)) a.1 ({ (Arr5.get (Arr5.set b a.1 ({ (Arr5.get b a.1) with Lo:=(Arr5.get b a.1).Hi }:Zb)) a.1) with Hi:=(Arr5.get b a.1).Lo }:Zb)))
  else none
  else none
  else none
  else none
 else
  if (c.1 == (1:Int))=true then
   if 0≤a.1∧a.1<5 then
   some (c.2,(Arr5.set b a.1 ({ (Arr5.get b a.1) with Hi:=(4294967295:Int) }:Zb)))
   else none
  else
   if 0≤a.1∧a.1<5 then
   some (c.2,(Arr5.set b a.1 (Zb.mk (1:Int) (0:Int))))
   else none).bind fun f=>
 match f with
 | (g,i)=>
  some (i,g)
def Zbu (d:Bool):Nat→Zg→ZL→Int→Option (Zg × ZL)
 | 0,_,_,_=>none
 | l+1,f,b,g=>
  if (decide (g > (0:Int)))=true then
   ((Zfp f).bind fun a=>
   ((some d).bind fun m=>
   (if m=true then
    (Zu a.2 (8:Int)).bind fun i=>
    some ((i.1 == (7:Int)),i.2)
    else some (false,a.2)).bind fun c=>
   if c.1=true then
    (Zd4 c.2 a.1).bind fun j=>
    some (j.2,j.1)
   else
    some (c.2,a.1)).bind fun n=>
   match n with
   | (o,k)=>
    if List.length b + List.length [k]≤lim then
    some (o,(b++[k]))
    else none).bind fun p=>
   match p with
   | (q,r)=>
    Zbu d l q r (IntKind.wrap .i64 (g - (1:Int)))
  else
   some (f,b)
def Zd0 (b:Zg) (c:Int) (d:Bool):Option (ZL × Zg):=
 (Zu b (IntKind.wrap .i64 (c + (1:Int)))).bind fun a=>
 (Zbu d fuel a.2 ([]:ZL) a.1).bind fun f=>
 match f with
 | (g,i)=>
  some (i,g)
def Zab (b:ZB):Nat→Int→Option (Unit ⊕ Bool)
 | 0,_=>none
 | c+1,a=>
  if (decide (a<(5:Int)))=true then
   if 0≤a∧a<5 then
   if 0≤a∧a<5 then
   (some (decide ((Arr5.get b a).Lo > (Arr5.get b a).Hi))).bind fun d=>
   (if d=true then some true else
    if 0≤a∧a<5 then
    (Zdm a).bind fun f=>
    some (decide ((Arr5.get b a).Hi > f))
    else none
    ).bind fun g=>
   if g=true then
    some (.inr false)
   else
    Zab b c (IntKind.wrap .i64 (a + (1:Int)))
   else none
   else none
  else
   some (.inl ())
def Zfd (a:ZB):Option Bool:=
 (Zab a fuel (0:Int)).bind fun(b:(Unit ⊕ Bool))=>
 match b with
 | .inl ()=>
   some true
 | .inr c=>
   some c
def Zgh (c:Int) (a:Bool) (b:Bool):Option Bool:=
 if (c == (0:Int))=true then
  (some a).bind fun b1=>
  some (b1 || b)
 else
  if (c == (1:Int))=true then
   (some a).bind fun d=>
   some (d && b)
  else
   if (c == (2:Int))=true then
    (some a).bind fun f=>
    some (f && (!b))
   else
    some (!(a == b))
def Zg3 (b:Int) (a:Bool) (c:Bool):Option Bool:=
 if (b == (1:Int))=true then
  (some (!a)).bind fun b1=>
  some (b1 || (!c))
 else
  if (b == (2:Int))=true then
   some (!a)
  else
   (some (!a)).bind fun d=>
   some (d && (!c))
def Zc7 (b:ZL) (a:Int):Nat→(List Zb)→Int→Option (List Zb)
 | 0,_,_=>none
 | g+1,c,d=>
  if (decide (d<(List.length b:Int)))=true then
   (idx b d).bind fun f=>
   if 0≤a∧a<5 then
   if List.length c + List.length [(Arr5.get f a)]≤lim then
   Zc7 b a g (c++[(Arr5.get f a)]) (IntKind.wrap .i64 (d + (1:Int)))
   else none
   else none
  else
   some c
def Zc8 (b:ZL) (a:Int):Nat→(List Zb)→Int→Option (List Zb)
 | 0,_,_=>none
 | g+1,c,d=>
  if (decide (d<(List.length b:Int)))=true then
   (idx b d).bind fun f=>
   if 0≤a∧a<5 then
   if List.length c + List.length [(Arr5.get f a)]≤lim then
   Zc8 b a g (c++[(Arr5.get f a)]) (IntKind.wrap .i64 (d + (1:Int)))
   else none
   else none
  else
   some c
def Zfz (b:ZL) (c:ZL) (a:Int):Option (List Zb):=
 (Zc7 b a fuel ([]:(List Zb)) (0:Int)).bind fun d=>
  (Zc8 c a fuel d (0:Int)).bind fun f=>
   some f
def Zc9 (b:(List Int)) (c:Int):Nat→Int→Option Int
 | 0,_=>none
 | d+1,a=>
  (some (decide (a<(List.length b:Int)))).bind fun f=>
  (if f=true then
   (idx b a).bind fun g=>
   some (decide (g<c))
   else some false).bind fun i=>
  if i=true then
   Zc9 b c d (IntKind.wrap .i64 (a + (1:Int)))
  else
   some a
def Ze3 (a:(List Int)) (c:Int) (d:Int):Option (List Int):=
 if (decide (c > (IntKind.wrap .u64 d)))=true then
  some a
 else
  (Zc9 a c fuel (0:Int)).bind fun b=>
   (some (decide (b<(List.length a:Int)))).bind fun f=>
   (if f=true then
    (idx a b).bind fun g=>
    some (g == c)
    else some false).bind fun i=>
   if i=true then
    some a
   else
    if 0≤(0:Int)∧(0:Int)≤b∧b≤(List.length a:Int) then
    if List.length ([]:(List Int)) + List.length (List.drop (Int.toNat (0:Int)) (List.take (Int.toNat b) a))≤lim then
    if List.length (([]:(List Int))++(List.drop (Int.toNat (0:Int)) (List.take (Int.toNat b) a))) + List.length [c]≤lim then
    if 0≤b∧b≤(List.length a:Int)∧(List.length a:Int)≤(List.length a:Int) then
    if List.length ((([]:(List Int))++(List.drop (Int.toNat (0:Int)) (List.take (Int.toNat b) a)))++[c]) + List.length (List.drop (Int.toNat b) (List.take (Int.toNat (List.length a:Int)) a))≤lim then
    some (((([]:(List Int))++(List.drop (Int.toNat (0:Int)) (List.take (Int.toNat b) a)))++[c])++(List.drop (Int.toNat b) (List.take (Int.toNat (List.length a:Int)) a)))
    else none
    else none
    else none
    else none
    else none
def Zda (a:(List Zb)) (c:Int):Nat→(List Int)→Int→Option (List Int)
 | 0,_,_=>none
 | f+1,d,b=>
  if (decide (b<(List.length a:Int)))=true then
   ((idx a b).bind fun g=>
   (idx a b).bind fun i=>
   if (decide (g.Lo≤i.Hi))=true then
    (idx a b).bind fun j=>
    (Ze3 d (IntKind.wrap .u64 j.Lo) c).bind fun k=>
    (idx a b).bind fun l=>
    (Ze3 k (IntKind.wrap .u64 ((IntKind.wrap .u64 l.Hi) + (1:Int))) c).bind fun m=>
    some m
   else
    some d).bind fun n=>
    Zda a c f n (IntKind.wrap .i64 (b + (1:Int)))
  else
   some d
def Zf0 (a:(List Zb)) (b:Int):Option (List Int):=
 (Zda a b fuel [(0:Int)] (0:Int)).bind fun c=>
  some c
def Zel (b:ZL) (a:Int) (f:Int):Nat→ZL→Int→Option ZL
 | 0,_,_=>none
 | i+1,d,c=>
  if (decide (c<(List.length b:Int)))=true then
   ((idx b c).bind fun j=>
   if 0≤a∧a<5 then
   (some (decide ((IntKind.wrap .u64 (Arr5.get j a).Lo)≤f))).bind fun k=>
   (if k=true then
    (idx b c).bind fun l=>
    if 0≤a∧a<5 then
    some (decide (f≤(IntKind.wrap .u64 (Arr5.get l a).Hi)))
    else none
    else some false).bind fun m=>
   if m=true then
    (idx b c).bind fun g=>
    if List.length d + List.length [g]≤lim then
    some (d++[g])
    else none
   else
    some d
   else none).bind fun n=>
    Zel b a f i n (IntKind.wrap .i64 (c + (1:Int)))
  else
   some d
def Zg4 (a:ZL) (b:Int) (c:Int):Option ZL:=
 (Zel a b c fuel ([]:ZL) (0:Int)).bind fun d=>
  some d
def Zdt (b:ZL) (c:ZL):Nat→Int→Option (Unit ⊕ Bool)
 | 0,_=>none
 | d+1,a=>
  if (decide (a<(List.length b:Int)))=true then
   (idx b a).bind fun f=>
   (idx c a).bind fun g=>
   if (!(Zfb f g))=true then
    some (.inr false)
   else
    Zdt b c d (IntKind.wrap .i64 (a + (1:Int)))
  else
   some (.inl ())
def Zfv (a:ZL) (b:ZL):Option Bool:=
 if ((List.length a:Int) != (List.length b:Int))=true then
  some false
 else
  (Zdt a b fuel (0:Int)).bind fun(c:(Unit ⊕ Bool))=>
  match c with
  | .inl ()=>
    some true
  | .inr d=>
    some d
def Zdd (a:Int) (d:Int):Nat→ZL→Int→Option ZL
 | 0,_,_=>none
 | g+1,b,c=>
  if (decide (c<(List.length b:Int)))=true then
   (idx b c).bind fun f=>
   if 0≤a∧a<5 then
   Zdd a d g (List.set b (Int.toNat c) (Arr5.set f a ({ (Arr5.get f a) with Hi:=(IntKind.wrap .u32 d) }:Zb))) (IntKind.wrap .i64 (c + (1:Int)))
   else none
  else
   some b
def Zcv (a:Int) (g:(List Int)) (i:Int) (b:Int) (c:ZL):Nat→ZL→Int→Option ZL
 | 0,_,_=>none
 | l+1,d,f=>
  if (decide (f<(List.length c:Int)))=true then
   (idx c f).bind fun j=>
   (idx g i).bind fun k=>
   if 0≤a∧a<5 then
   if List.length d + List.length [(Arr5.set j a (Zb.mk (IntKind.wrap .u32 k) (IntKind.wrap .u32 b)))]≤lim then
   Zcv a g i b c l (d++[(Arr5.set j a (Zb.mk (IntKind.wrap .u32 k) (IntKind.wrap .u32 b)))]) (IntKind.wrap .i64 (f + (1:Int)))
   else none
   else none
  else
   some d
def Zde (g:ZL) (i:ZL) (j:Int) (b:Int) (k:ZL→ZL→Int→Int→Option ZL) (c:(List Int)):Nat→ZL→ZL→Int→Option ZL
 | 0,_,_,_=>none
 | n+1,f,l,a=>
  if (decide (a<(List.length c:Int)))=true then
   ((Zdm b).bind fun o=>
   (if (decide ((IntKind.wrap .i64 (a + (1:Int)))<(List.length c:Int)))=true then
    (idx c (IntKind.wrap .i64 (a + (1:Int)))).bind fun p=>
    some (IntKind.wrap .u64 (p - (1:Int)))
   else
    some (IntKind.wrap .u64 o)).bind fun m=>
    (idx c a).bind fun q=>
    (Zg4 g b q).bind fun r=>
    (idx c a).bind fun s=>
    (Zg4 i b s).bind fun t=>
    (k r t j (IntKind.wrap .i64 (b + (1:Int)))).bind fun d=>
    (some (decide (a > (0:Int)))).bind fun u=>
    (some (u && (decide ((List.length d:Int) > (0:Int))))).bind fun v=>
    (if v=true then
     (Zfv d l).bind fun w=>
     some w
     else some false).bind fun x=>
    if x=true then
     (Zdd b m fuel f (IntKind.wrap .i64 ((List.length f:Int) - (List.length d:Int)))).bind fun y=>
      some (y,l)
    else
     (Zcv b c a m d fuel f (0:Int)).bind fun z=>
      some (z,d)).bind fun a0=>
   match a0 with
   | (a1,a2)=>
    Zde g i j b k c n a1 a2 (IntKind.wrap .i64 (a + (1:Int)))
  else
   some f
def Zbp:Nat→ZL→ZL→Int→Int→Option ZL
 | 0,_,_,_,_=>none
 | nr+1,a,b,d,c=>
  if (c == (5:Int))=true then
   (Zgh d (decide ((List.length a:Int) > (0:Int))) (decide ((List.length b:Int) > (0:Int)))).bind fun f=>
   if f=true then
    some [(Arr5.mk Z3 Z3 Z3 Z3 Z3)]
   else
    some ([]:ZL)
  else
   (Zg3 d (decide ((List.length a:Int) > (0:Int))) (decide ((List.length b:Int) > (0:Int)))).bind fun g=>
   if g=true then
    some ([]:ZL)
   else
    (Zfz a b c).bind fun i=>
    (Zdm c).bind fun j=>
    (Zf0 i j).bind fun k=>
    (Zde a b d c (Zbp nr) k fuel ([]:ZL) ([]:ZL) (0:Int)).bind fun l=>
     some l
def Zeu (a:ZL):Option (ZL × Int):=
 if (decide ((List.length a:Int) > (4096:Int)))=true then
  some (([]:ZL),(3:Int))
 else
  some (a,(0:Int))
def Zdu (b:ZL):Nat→ZL→Int→Option (ZL ⊕ (ZL × Int))
 | 0,_,_=>none
 | f+1,c,a=>
  if (decide (a<(List.length b:Int)))=true then
   ((idx b a).bind fun g=>
   (Zfd g).bind fun i=>
   if (!i)=true then
    some (.inl c)
   else
    if 0≤a∧a≤(IntKind.wrap .i64 (a + (1:Int)))∧(IntKind.wrap .i64 (a + (1:Int)))≤(List.length b:Int) then
    (Zbp fuel c (List.drop (Int.toNat a) (List.take (Int.toNat (IntKind.wrap .i64 (a + (1:Int)))) b)) (0:Int) (0:Int)).bind fun j=>
    (Zeu j).bind fun d=>
    if (d.2 != (0:Int))=true then
     some (.inr (([]:ZL),d.2))
    else
     some (.inl d.1)
    else none).bind fun(k:(ZL ⊕ (ZL × Int)))=>
   match k with
   | .inl l=>
     Zdu b f l (IntKind.wrap .i64 (a + (1:Int)))
   | .inr m=>
     some (.inr m)
  else
   some (.inl c)
def Zfw (a:ZL):Option (ZL × Int):=
 (Zdu a fuel ([]:ZL) (0:Int)).bind fun(b:(ZL ⊕ (ZL × Int)))=>
 match b with
 | .inl c=>
   some (c,(0:Int))
 | .inr d=>
   some d
def Zfq (b:Zg) (c:Int):Option (ZL × Zg):=
 (Zd0 b c false).bind fun a=>
 (Zfw a.1).bind fun d=>
 some (d.1,a.2)
def Zdf (a:ZL):Nat→ZL→Int→Option ZL
 | 0,_,_=>none
 | f+1,b,c=>
  if (decide (c<(List.length a:Int)))=true then
   ((idx a c).bind fun g=>
   (Zfd g).bind fun i=>
   if i=true then
    (idx a c).bind fun d=>
    if List.length b + List.length [d]≤lim then
    some (b++[d])
    else none
   else
    some b).bind fun j=>
    Zdf a f j (IntKind.wrap .i64 (c + (1:Int)))
  else
   some b
def Zgi (a:ZL):Option ZL:=
 (Zdf a fuel ([]:ZL) (0:Int)).bind fun b=>
  some b
def Zdg (c:ZL) (d:ZL) (b:Int):Nat→Int→Option (Unit ⊕ Bool)
 | 0,_=>none
 | f+1,a=>
  if (decide (a<(5:Int)))=true then
   (idx c b).bind fun g=>
   if 0≤a∧a<5 then
   (idx d b).bind fun i=>
   if 0≤a∧a<5 then
   if (!(Zcs (Arr5.get g a) (Arr5.get i a)))=true then
    some (.inr false)
   else
    Zdg c d b f (IntKind.wrap .i64 (a + (1:Int)))
   else none
   else none
  else
   some (.inl ())
def Zdh (a:ZL) (c:ZL) (d:Int):Nat→Int→Option (Unit ⊕ Bool)
 | 0,_=>none
 | f+1,b=>
  if (decide (b<(List.length a:Int)))=true then
   (Zdg a c b fuel d).bind fun(g:(Unit ⊕ Bool))=>
   match g with
   | .inl ()=>
     Zdh a c d f (IntKind.wrap .i64 (b + (1:Int)))
   | .inr i=>
     some (.inr i)
  else
   some (.inl ())
def Zfe (a:ZL) (b:ZL) (c:Int):Option Bool:=
 if ((List.length a:Int) != (List.length b:Int))=true then
  some false
 else
  (Zdh a b c fuel (0:Int)).bind fun(d:(Unit ⊕ Bool))=>
  match d with
  | .inl ()=>
    some true
  | .inr f=>
    some f
def Zcf (b:ZL) (a:Int) (d:Int):Nat→Int→Option Int
 | 0,_=>none
 | f+1,c=>
  (some (decide (c<(List.length b:Int)))).bind fun g=>
  (if g=true then
   (idx b c).bind fun i=>
   if 0≤a∧a<5 then
   (idx b d).bind fun j=>
   if 0≤a∧a<5 then
   some (Zcs (Arr5.get i a) (Arr5.get j a))
   else none
   else none
   else some false).bind fun k=>
  if k=true then
   Zcf b a d f (IntKind.wrap .i64 (c + (1:Int)))
  else
   some c
def Zbv (c:ZL) (a:Int) (f:ZL→Int→Option Bool):Nat→ZL→Int→Option (Unit ⊕ Bool)
 | 0,_,_=>none
 | k+1,l,b=>
  if (decide (b<(List.length c:Int)))=true then
   ((Zcf c a b fuel b).bind fun d=>
    if 0≤b∧b≤d∧d≤(List.length c:Int) then
    (if (decide (b > (0:Int)))=true then
     (idx c (IntKind.wrap .i64 (b - (1:Int)))).bind fun g=>
     if 0≤a∧a<5 then
     (idx c b).bind fun i=>
     if 0≤a∧a<5 then
     (some (decide ((Arr5.get i a).Lo≤(Arr5.get g a).Hi))).bind fun m=>
     (if m=true then some true else
      (some ((Arr5.get i a).Lo == (IntKind.wrap .u32 ((Arr5.get g a).Hi + (1:Int))))).bind fun n=>
      (if n=true then
       (Zfe l (List.drop (Int.toNat b) (List.take (Int.toNat d) c)) (IntKind.wrap .i64 (a + (1:Int)))).bind fun o=>
       some o
       else some false).bind fun p=>
      some p
      ).bind fun q=>
     if q=true then
      some (.inr false)
     else
      some (.inl ())
     else none
     else none
    else
     some (.inl ())).bind fun(r:(Unit ⊕ Bool))=>
    match r with
    | .inl ()=>
      (f (List.drop (Int.toNat b) (List.take (Int.toNat d) c)) (IntKind.wrap .i64 (a + (1:Int)))).bind fun s=>
      if (!s)=true then
       some (.inr false)
      else
       some (.inl (List.drop (Int.toNat b) (List.take (Int.toNat d) c)))
    | .inr t=>
      some (.inr t)
    else none).bind fun(u:(ZL ⊕ Bool))=>
   match u with
   | .inl j=>
     Zbv c a f k j (IntKind.wrap .i64 (b + (List.length j:Int)))
   | .inr v=>
     some (.inr v)
  else
   some (.inl ())
def Zbh:Nat→ZL→Int→Option Bool
 | 0,_,_=>none
 | nr+1,a,b=>
  if (b == (5:Int))=true then
   some ((List.length a:Int) == (1:Int))
  else
   (Zbv a b (Zbh nr) fuel ([]:ZL) (0:Int)).bind fun(c:(Unit ⊕ Bool))=>
   match c with
   | .inl ()=>
     some true
   | .inr d=>
     some d
def Zff (a:ZL):Option Bool:=
 (some (decide ((List.length a:Int)≤(4096:Int)))).bind fun b1=>
 (if b1=true then
  (Zgi a).bind fun b=>
  some ((List.length b:Int) == (List.length a:Int))
  else some false).bind fun c=>
 (some c).bind fun d=>
 (if d=true then
  (Zbh fuel a (0:Int)).bind fun f=>
  some f
  else some false).bind fun g=>
 some g
def Zfg (a:ZL):Option (ZL × Int):=
 (Zff a).bind fun c=>
 if c=true then
  some (a,(0:Int))
 else
  (Zfw a).bind fun b=>
  some (b.1,b.2)
def Zfr (d:ZL) (f:ZL) (g:Int):Option (ZL × Int):=
 (Zfg d).bind fun a=>
 if (a.2 != (0:Int))=true then
  some (([]:ZL),a.2)
 else
  (Zfg f).bind fun b=>
  if (b.2 != (0:Int))=true then
   some (([]:ZL),b.2)
  else
   (Zbp fuel a.1 b.1 g (0:Int)).bind fun i=>
   (Zeu i).bind fun c=>
   some (c.1,c.2)
def Zgj (b:ZL) (c:ZL):Option (ZL × Int):=
 (Zfr b c (0:Int)).bind fun a=>
 some (a.1,a.2)
def Zat (b:ZB):Nat→Int→Option (Unit ⊕ Bool)
 | 0,_=>none
 | c+1,a=>
  if (decide (a<(5:Int)))=true then
   if 0≤a∧a<5 then
   (some (decide ((Arr5.get b a).Lo > (Arr5.get b a).Hi))).bind fun d=>
   (if d=true then some true else
    if 0≤a∧a<5 then
    some (decide ((Arr5.get b a).Hi > (Arr5.get Zd6 a)))
    else none
    ).bind fun f=>
   if f=true then
    some (.inr false)
   else
    Zat b c (IntKind.wrap .i64 (a + (1:Int)))
   else none
  else
   some (.inl ())
def Zih (a:ZB):Option Bool:=
 (Zat a fuel (0:Int)).bind fun(b:(Unit ⊕ Bool))=>
 match b with
 | .inl ()=>
   some true
 | .inr c=>
   some c
def Zck (a:ZB):Option Bool:=
 (Zih a).bind fun b=>
 some (!b)
def Z4 (b:Nat) (c:ZL):Nat→Int→Option (Unit ⊕ Int)
 | 0,_=>none
 | d+1,a=>
  if (decide (a<(b:Int)))=true then
   (idxn b c a).bind fun f=>
   (Zck f).bind fun g=>
   if g=true then
    some (.inr a)
   else
    Z4 b c d (IntKind.wrap .i64 (a + (1:Int)))
  else
   some (.inl ())
def Zbj (a:Nat) (b:ZL):Option Int:=
 (Z4 a b fuel (0:Int)).bind fun(c:(Unit ⊕ Int))=>
 match c with
 | .inl ()=>
   some (-1:Int)
 | .inr d=>
   some d
def Z1 (c:Nat):Nat→ZL→Int→Int→Option (ZL × Int)
 | 0,_,_,_=>none
 | g+1,a,b,d=>
  if (decide (d<(c:Int)))=true then
   ((idxn c a d).bind fun f=>
   (Zck f).bind fun i=>
   if (!i)=true then
    (idxn c a b).bind fun _=>
    some ((List.set a (Int.toNat b) f),(IntKind.wrap .i64 (b + (1:Int))))
   else
    some (a,b)).bind fun j=>
   match j with
   | (k,l)=>
    Z1 c g k l (IntKind.wrap .i64 (d + (1:Int)))
  else
   some (a,b)
def Zax (b:Nat) (c:ZL):Option (Nat × ZL):=
 (Zbj b c).bind fun d=>
 if (d == (-1:Int))=true then
  some (b,c)
 else
  (Z1 b fuel c d (IntKind.wrap .i64 (d + (1:Int)))).bind fun g=>
  match g with
  | (f,a)=>
   if 0≤a∧a≤(b:Int)∧(b:Int)≤(b:Int) then
   if Int.toNat a + (Int.toNat (b:Int) - Int.toNat a)≤List.length f then
   if 0≤(0:Int)∧(0:Int)≤a∧a≤(b:Int) then
   some ((Int.toNat a),(List.take (Int.toNat a) f++List.replicate (Int.toNat (b:Int) - Int.toNat a) Zv++List.drop (Int.toNat a + (Int.toNat (b:Int) - Int.toNat a)) f))
   else none
   else none
   else none
def Za6 (b:ZL):Nat→Int→Option (Unit ⊕ Int)
 | 0,_=>none
 | c+1,a=>
  if (decide (a<(List.length b:Int)))=true then
   (idx b a).bind fun d=>
   (Zck d).bind fun f=>
   if f=true then
    some (.inr a)
   else
    Za6 b c (IntKind.wrap .i64 (a + (1:Int)))
  else
   some (.inl ())
def Zb3 (a:ZL):Option Int:=
 (Za6 a fuel (0:Int)).bind fun(b:(Unit ⊕ Int))=>
 match b with
 | .inl ()=>
   some (-1:Int)
 | .inr c=>
   some c
def Zay:Nat→Int→Int→Option Int
 | 0,_,_=>none
 | c+1,b,a=>
  if (decide (a<(List.length ([]:ZL):Int)))=true then
   ((idx ([]:ZL) a).bind fun d=>
   (Zck d).bind fun f=>
   if (!f)=true then
    none
   else
    some ()).bind fun g=>
   match g with
   | ()=>
    Zay c b (IntKind.wrap .i64 (a + (1:Int)))
  else
   some b
def Zbq:Option ZL:=
 (Zb3 ([]:ZL)).bind fun a=>
 if (a == (-1:Int))=true then
  some ([]:ZL)
 else
  (Zay fuel a (IntKind.wrap .i64 (a + (1:Int)))).bind fun _=>
   none
def Zev (a:ZL):Option ZL:=
 if List.length a≤lim then
 (handB a (Zax (List.length a) a) (Zbq)).bind fun b=>
 some (List.take b.1 b.2)
 else none
def Zbl (d:Int) (b:Int):Nat→ZL→Int→Option ZL
 | 0,_,_=>none
 | f+1,c,a=>
  if (decide (a≤d))=true then
   (idx c b).bind fun g=>
   if 0≤a∧a<5 then
   Zbl d b f (List.set c (Int.toNat b) (Arr5.set g a (Zb.mk (0:Int) (0:Int)))) (IntKind.wrap .i64 (a + (1:Int)))
   else none
  else
   some c
def Zc2 (b:Int) (c:ZL):Nat→ZL→Int→Option ZL
 | 0,_,_=>none
 | f+1,d,a=>
  if (decide (a<(List.length c:Int)))=true then
   (Zbl b a fuel d (0:Int)).bind fun g=>
    Zc2 b c f g (IntKind.wrap .i64 (a + (1:Int)))
  else
   some d
def Zfs (b:Int) (a:ZL):Option ZL:=
 if List.length a≤lim then
 (Zc2 b a fuel a (0:Int)).bind fun c=>
  some c
 else none
def Za1 (b:ZL) (c:ZL):Nat→Int→Option (Unit ⊕ Bool)
 | 0,_=>none
 | d+1,a=>
  if (decide (a<(List.length b:Int)))=true then
   (idx b a).bind fun f=>
   (idx c a).bind fun g=>
   if (!(Zfb f g))=true then
    some (.inr false)
   else
    Za1 b c d (IntKind.wrap .i64 (a + (1:Int)))
  else
   some (.inl ())
def Zbe (a:ZL) (b:ZL):Option Bool:=
 if ((List.length a:Int) != (List.length b:Int))=true then
  some false
 else
  (Za1 a b fuel (0:Int)).bind fun(c:(Unit ⊕ Bool))=>
  match c with
  | .inl ()=>
    some true
  | .inr d=>
    some d
def Zcg (a:Int) (b:ZL):Nat→Int→Option Int
 | 0,_=>none
 | d+1,c=>
  (some (decide (c<(List.length b:Int)))).bind fun f=>
  (if f=true then
   (idx b c).bind fun g=>
   if 0≤a∧a<5 then
   (idx b (0:Int)).bind fun i=>
   if 0≤a∧a<5 then
   some (Zcs (Arr5.get g a) (Arr5.get i a))
   else none
   else none
   else some false).bind fun j=>
  if j=true then
   Zcg a b d (IntKind.wrap .i64 (c + (1:Int)))
  else
   some c
def Zbw (b:Int) (g:Int→ZL→Option Bool):Nat→Zm→ZL→Option (Zm ⊕ Bool)
 | 0,_,_=>none
 | j+1,d,a=>
  if (decide ((List.length a:Int) > (0:Int)))=true then
   (Zcg b a fuel (1:Int)).bind fun c=>
    (idx a (0:Int)).bind fun f=>
    if 0≤b∧b<5 then
    if 0≤(0:Int)∧(0:Int)≤c∧c≤(List.length a:Int) then
    (Zfs b (List.drop (Int.toNat (0:Int)) (List.take (Int.toNat c) a))).bind fun i=>
    if 0≤(0:Int)∧(0:Int)≤c∧c≤(List.length a:Int) then
    (g (IntKind.wrap .i64 (b + (1:Int))) (List.drop (Int.toNat (0:Int)) (List.take (Int.toNat c) a))).bind fun k=>
    if (!k)=true then
     some (.inr false)
    else
     (if (decide ((List.length d.f_rest:Int) > (0:Int)))=true then
      (some (decide ((Arr5.get f b).Lo≤d.f_values.Hi))).bind fun l=>
      (if l=true then some true else
       (some ((Arr5.get f b).Lo == (IntKind.wrap .u32 (d.f_values.Hi + (1:Int))))).bind fun m=>
       (if m=true then
        (Zbe i d.f_rest).bind fun n=>
        some n
        else some false).bind fun o=>
       some o
       ).bind fun p=>
      if p=true then
       some (.inr false)
      else
       some (.inl ())
     else
      some (.inl ())).bind fun(q:(Unit ⊕ Bool))=>
     match q with
     | .inl ()=>
       if 0≤c∧c≤(List.length a:Int)∧(List.length a:Int)≤(List.length a:Int) then
       Zbw b g j (Zm.mk (Arr5.get f b) i) (List.drop (Int.toNat c) (List.take (Int.toNat (List.length a:Int)) a))
       else none
     | .inr r=>
       some (.inr r)
    else none
    else none
    else none
  else
   some (.inl d)
def Zbi:Nat→Int→ZL→Option Bool
 | 0,_,_=>none
 | nr+1,a,b=>
  if (a == (5:Int))=true then
   some (decide ((List.length b:Int)≤(1:Int)))
  else
   (Zbw a (Zbi nr) fuel Zfo b).bind fun(c:(Zm ⊕ Bool))=>
   match c with
   | .inl _=>
     some true
   | .inr d=>
     some d
def Zew (a:ZL):Option Bool:=
 (some (decide ((List.length a:Int)≤(4096:Int)))).bind fun b1=>
 (if b1=true then
  (Zev a).bind fun b=>
  some ((List.length b:Int) == (List.length a:Int))
  else some false).bind fun c=>
 (some c).bind fun d=>
 (if d=true then
  (Zbi fuel (0:Int) a).bind fun f=>
  some f
  else some false).bind fun g=>
 some g
def Zec (a:Bool) (b:Bool):Option Bool:=
 (some a).bind fun b1=>
 some (b1 || b)
def Zk9 (a:Int):Option Int:=
 (some (decide (a<(0:Int)))).bind fun b1=>
 if (b1 || (decide (a ≥ (5:Int))))=true then
  some (0:Int)
 else
  if 0≤a∧a<5 then
  some (Arr5.get Zd6 a)
  else none
def Zgx (a:Int):Option Int:=
 (if (decide (a ≥ (4294967296:Int)))=true then
  some ((bShr .u64 a (32:Int)),(32:Int))
 else
  some (a,(0:Int))).bind fun g=>
 match g with
 | (b,d)=>
  (if (decide (b ≥ (65536:Int)))=true then
   some ((bShr .u64 b (16:Int)),(IntKind.wrap .i64 (d + (16:Int))))
  else
   some (b,d)).bind fun i=>
  match i with
  | (c,f)=>
   (if (decide (c ≥ (256:Int)))=true then
    some ((bShr .u64 c (8:Int)),(IntKind.wrap .i64 (f + (8:Int))))
   else
    some (c,f)).bind fun j=>
   match j with
   | (k,l)=>
    (sidx ⟨#[0,1,2,2,3,3,3,3,4,4,4,4,4,4,4,4,5,5,5,5,5,5,5,5,5,5,5,5,5,5,5,5,6,6,6,6,6,6,6,6,6,6,6,6,6,6,6,6,6,6,6,6,6,6,6,6,6,6,6,6,6,6,6,6,7,7,7,7,7,7,7,7,7,7,7,7,7,7,7,7,7,7,7,7,7,7,7,7,7,7,7,7,7,7,7,7,7,7,7,7,7,7,7,7,7,7,7,7,7,7,7,7,7,7,7,7,7,7,7,7,7,7,7,7,7,7,7,7,8,8,8,8,8,8,8,8,8,8,8,8,8,8,8,8,8,8,8,8,8,8,8,8,8,8,8,8,8,8,8,8,8,8,8,8,8,8,8,8,8,8,8,8,8,8,8,8,8,8,8,8,8,8,8,8,8,8,8,8,8,8,8,8,8,8,8,8,8,8,8,8,8,8,8,8,8,8,8,8,8,8,8,8,8,8,8,8,8,8,8,8,8,8,8,8,8,8,8,8,8,8,8,8,8,8,8,8,8,8,8,8,8,8,8,8,8,8,8,8,8,8,8,8,8,8,8,8]⟩ (IntKind.wrap .u8 k)).bind fun m=>
    some (IntKind.wrap .i64 (l + (IntKind.wrap .i64 m)))
def Zfh (a:Int):Option Int:=
 (Zgx a).bind fun b=>
 some b
def Zcw (a:Int):Option Bool:=
 some (a != a)
def Zac (a:Int) (b:Int):Option Bool:=
 (Zcw a).bind fun c=>
 (some c).bind fun d=>
 (if d=true then
  (Zcw b).bind fun f=>
  some (!f)
  else some false).bind fun g=>
 (some g).bind fun i=>
 some (i || (decide (a<b)))
def Zaj (c:Nat) (d:Int):Nat→(List Int)→Int→Option (List Int)
 | 0,_,_=>none
 | g+1,b,a=>
  (some (decide (a > d))).bind fun i=>
  (if i=true then
   (idxn c b a).bind fun j=>
   (idxn c b (IntKind.wrap .i64 (a - (1:Int)))).bind fun k=>
   (Zac j k).bind fun l=>
   some l
   else some false).bind fun m=>
  if m=true then
   (idxn c b (IntKind.wrap .i64 (a - (1:Int)))).bind fun f=>
   (idxn c b a).bind fun n=>
   (idxn c b a).bind fun _=>
   (idxn c (List.set b (Int.toNat a) f) (IntKind.wrap .i64 (a - (1:Int)))).bind fun _=>
   Zaj c d g (List.set (List.set b (Int.toNat a) f) (Int.toNat (IntKind.wrap .i64 (a - (1:Int)))) n) (IntKind.wrap .i64 (a - (1:Int)))
  else
   some b
def Zak (b:Nat) (c:Int) (d:Int):Nat→(List Int)→Int→Option (List Int)
 | 0,_,_=>none
 | g+1,f,a=>
  if (decide (a<d))=true then
   (Zaj b c fuel f a).bind fun i=>
    Zak b c d g i (IntKind.wrap .i64 (a + (1:Int)))
  else
   some f
def Zbo (b:Nat) (c:(List Int)) (a:Int) (d:Int):Option (List Int):=
 (Zak b a d fuel c (IntKind.wrap .i64 (a + (1:Int)))).bind fun f=>
  some f
def Zag (d:Nat) (g:Int) (a:Int):Nat→(List Int)→Int→Option ((List Int) ⊕ (List Int))
 | 0,_,_=>none
 | j+1,b,c=>
  if (decide ((IntKind.wrap .i64 ((IntKind.wrap .i64 ((2:Int) * c)) + (1:Int))) ≥ g))=true then
   some (.inl b)
  else
   ((some (decide ((IntKind.wrap .i64 ((IntKind.wrap .i64 ((IntKind.wrap .i64 ((2:Int) * c)) + (1:Int))) + (1:Int)))<g))).bind fun k=>
   (if k=true then
    (idxn d b (IntKind.wrap .i64 (a + (IntKind.wrap .i64 ((IntKind.wrap .i64 ((2:Int) * c)) + (1:Int)))))).bind fun l=>
    (idxn d b (IntKind.wrap .i64 ((IntKind.wrap .i64 (a + (IntKind.wrap .i64 ((IntKind.wrap .i64 ((2:Int) * c)) + (1:Int))))) + (1:Int)))).bind fun m=>
    (Zac l m).bind fun n=>
    some n
    else some false).bind fun o=>
   if o=true then
    some (IntKind.wrap .i64 ((IntKind.wrap .i64 ((IntKind.wrap .i64 ((2:Int) * c)) + (1:Int))) + (1:Int)))
   else
    some (IntKind.wrap .i64 ((IntKind.wrap .i64 ((2:Int) * c)) + (1:Int)))).bind fun f=>
    (idxn d b (IntKind.wrap .i64 (a + c))).bind fun p=>
    (idxn d b (IntKind.wrap .i64 (a + f))).bind fun q=>
    (Zac p q).bind fun r=>
    if (!r)=true then
     some (.inr b)
    else
     (idxn d b (IntKind.wrap .i64 (a + f))).bind fun i=>
     (idxn d b (IntKind.wrap .i64 (a + c))).bind fun s=>
     (idxn d b (IntKind.wrap .i64 (a + c))).bind fun _=>
     (idxn d (List.set b (Int.toNat (IntKind.wrap .i64 (a + c))) i) (IntKind.wrap .i64 (a + f))).bind fun _=>
     Zag d g a j (List.set (List.set b (Int.toNat (IntKind.wrap .i64 (a + c))) i) (Int.toNat (IntKind.wrap .i64 (a + f))) s) f
def Zbn (a:Nat) (b:(List Int)) (c:Int) (d:Int) (f:Int):Option (List Int):=
 (Zag a d f fuel b c).bind fun(g:((List Int) ⊕ (List Int)))=>
 match g with
 | .inl i=>
   some i
 | .inr j=>
   some j
def Zaz (c:Nat) (a:Int) (d:Int):Nat→(List Int)→Int→Option (List Int)
 | 0,_,_=>none
 | g+1,f,b=>
  if (decide (b ≥ (0:Int)))=true then
   (Zbn c f b (IntKind.wrap .i64 (d - a)) a).bind fun i=>
   Zaz c a d g i (IntKind.wrap .i64 (b - (1:Int)))
  else
   some f
def Za0 (b:Nat) (a:Int):Nat→(List Int)→Int→Option (List Int)
 | 0,_,_=>none
 | g+1,c,d=>
  if (decide (d ≥ (0:Int)))=true then
   (idxn b c (IntKind.wrap .i64 (a + d))).bind fun f=>
   (idxn b c a).bind fun i=>
   (idxn b c a).bind fun _=>
   (idxn b (List.set c (Int.toNat a) f) (IntKind.wrap .i64 (a + d))).bind fun _=>
   (Zbn b (List.set (List.set c (Int.toNat a) f) (Int.toNat (IntKind.wrap .i64 (a + d))) i) (0:Int) d a).bind fun j=>
   Za0 b a g j (IntKind.wrap .i64 (d - (1:Int)))
  else
   some c
def Zb5 (c:Nat) (d:(List Int)) (a:Int) (b:Int):Option (List Int):=
 (Zaz c a b fuel d (IntKind.wrap .i64 (Int.tdiv (IntKind.wrap .i64 ((IntKind.wrap .i64 (b - a)) - (1:Int))) (2:Int)))).bind fun f=>
  (Za0 c a fuel f (IntKind.wrap .i64 ((IntKind.wrap .i64 (b - a)) - (1:Int)))).bind fun g=>
   some g
def Ze2 (b:Int):Option Int:=
 (Zfh (IntKind.wrap .u64 b)).bind fun a=>
 if 0≤a then
 some (bShl .u64 (1:Int) a)
 else none
def Zd5 (a:Int):Option (Int × Int):=
 some ((bXor .u64 (bXor .u64 (bXor .u64 a (bShl .u64 a (13:Int))) (bShr .u64 (bXor .u64 a (bShl .u64 a (13:Int))) (7:Int))) (bShl .u64 (bXor .u64 (bXor .u64 a (bShl .u64 a (13:Int))) (bShr .u64 (bXor .u64 a (bShl .u64 a (13:Int))) (7:Int))) (17:Int))),(bXor .u64 (bXor .u64 (bXor .u64 a (bShl .u64 a (13:Int))) (bShr .u64 (bXor .u64 a (bShl .u64 a (13:Int))) (7:Int))) (bShl .u64 (bXor .u64 (bXor .u64 a (bShl .u64 a (13:Int))) (bShr .u64 (bXor .u64 a (bShl .u64 a (13:Int))) (7:Int))) (17:Int))))
def Zr (d:Nat) (a:Int) (f:Int) (g:Int):Nat→(List Int)→Int→Int→Option ((List Int) × Int)
 | 0,_,_,_=>none
 | m+1,b,k,c=>
  if (decide (c≤(IntKind.wrap .i64 ((IntKind.wrap .i64 (a + (IntKind.wrap .i64 ((IntKind.wrap .i64 (Int.tdiv (IntKind.wrap .i64 (f - a)) (4:Int))) * (2:Int))))) + (1:Int)))))=true then
   ((Zd5 k).bind fun i=>
   (if (decide ((IntKind.wrap .i64 (bAnd .u64 i.1 (IntKind.wrap .u64 (g - (1:Int))))) ≥ (IntKind.wrap .i64 (f - a))))=true then
    some (IntKind.wrap .i64 ((IntKind.wrap .i64 (bAnd .u64 i.1 (IntKind.wrap .u64 (g - (1:Int))))) - (IntKind.wrap .i64 (f - a))))
   else
    some (IntKind.wrap .i64 (bAnd .u64 i.1 (IntKind.wrap .u64 (g - (1:Int)))))).bind fun j=>
    (idxn d b (IntKind.wrap .i64 (a + j))).bind fun l=>
    (idxn d b c).bind fun n=>
    (idxn d b c).bind fun _=>
    (idxn d (List.set b (Int.toNat c) l) (IntKind.wrap .i64 (a + j))).bind fun _=>
    some ((List.set (List.set b (Int.toNat c) l) (Int.toNat (IntKind.wrap .i64 (a + j))) n),i.2)).bind fun o=>
   match o with
   | (p,q)=>
    Zr d a f g m p q (IntKind.wrap .i64 (c + (1:Int)))
  else
   some (b,k)
def Za5 (d:Nat) (c:(List Int)) (a:Int) (b:Int):Option (List Int):=
 if (decide ((IntKind.wrap .i64 (b - a)) ≥ (8:Int)))=true then
  (Ze2 (IntKind.wrap .i64 (b - a))).bind fun f=>
  (Zr d a b f fuel c (IntKind.wrap .u64 (IntKind.wrap .i64 (b - a))) (IntKind.wrap .i64 ((IntKind.wrap .i64 (a + (IntKind.wrap .i64 ((IntKind.wrap .i64 (Int.tdiv (IntKind.wrap .i64 (b - a)) (4:Int))) * (2:Int))))) - (1:Int)))).bind fun g=>
  match g with
  | (i,_)=>
   some i
 else
  some c
def Zbf (c:Nat) (d:(List Int)) (a:Int) (b:Int) (f:Int):Option (Int × Int × Int):=
 (idxn c d b).bind fun g=>
 (idxn c d a).bind fun i=>
 (Zac g i).bind fun j=>
 if j=true then
  some (b,a,(IntKind.wrap .i64 (f + (1:Int))))
 else
  some (a,b,f)
def Zbs (a:Nat) (b:(List Int)) (g:Int) (i:Int) (j:Int) (k:Int):Option (Int × Int):=
 (Zbf a b g i k).bind fun c=>
 (Zbf a b c.2.1 j c.2.2).bind fun d=>
 (Zbf a b c.1 d.1 d.2.2).bind fun f=>
 some (f.2.1,f.2.2)
def Zar (c:Nat) (d:(List Int)) (a:Int) (f:Int):Option (Int × Int):=
 (Zbs c d (IntKind.wrap .i64 (a - (1:Int))) a (IntKind.wrap .i64 (a + (1:Int))) f).bind fun b=>
 some (b.1,b.2)
def Zbr (c:Nat) (d:(List Int)) (a:Int) (b:Int):Option (Int × Int):=
 (if (decide ((IntKind.wrap .i64 (b - a)) ≥ (8:Int)))=true then
  (if (decide ((IntKind.wrap .i64 (b - a)) ≥ (50:Int)))=true then
   (Zar c d (IntKind.wrap .i64 (a + (IntKind.wrap .i64 ((IntKind.wrap .i64 (Int.tdiv (IntKind.wrap .i64 (b - a)) (4:Int))) * (1:Int))))) (0:Int)).bind fun g=>
   (Zar c d (IntKind.wrap .i64 (a + (IntKind.wrap .i64 ((IntKind.wrap .i64 (Int.tdiv (IntKind.wrap .i64 (b - a)) (4:Int))) * (2:Int))))) g.2).bind fun i=>
   (Zar c d (IntKind.wrap .i64 (a + (IntKind.wrap .i64 ((IntKind.wrap .i64 (Int.tdiv (IntKind.wrap .i64 (b - a)) (4:Int))) * (3:Int))))) i.2).bind fun j=>
   some (j.2,g.1,i.1,j.1)
  else
   some ((0:Int),(IntKind.wrap .i64 (a + (IntKind.wrap .i64 ((IntKind.wrap .i64 (Int.tdiv (IntKind.wrap .i64 (b - a)) (4:Int))) * (1:Int))))),(IntKind.wrap .i64 (a + (IntKind.wrap .i64 ((IntKind.wrap .i64 (Int.tdiv (IntKind.wrap .i64 (b - a)) (4:Int))) * (2:Int))))),(IntKind.wrap .i64 (a + (IntKind.wrap .i64 ((IntKind.wrap .i64 (Int.tdiv (IntKind.wrap .i64 (b - a)) (4:Int))) * (3:Int))))))).bind fun m=>
  match m with
  | (n,o,p,q)=>
   (Zbs c d o p q n).bind fun k=>
   some (k.2,k.1)
 else
  some ((0:Int),(IntKind.wrap .i64 (a + (IntKind.wrap .i64 ((IntKind.wrap .i64 (Int.tdiv (IntKind.wrap .i64 (b - a)) (4:Int))) * (2:Int))))))).bind fun r=>
 match r with
 | (l,f)=>
  if (l == (0:Int))=true then
   some (f,(1:Int))
  else
   if (l == (12:Int))=true then
    some (f,(2:Int))
   else
    some (f,(0:Int))
def Zao (c:Nat):Nat→(List Int)→Int→Int→Option (List Int)
 | 0,_,_,_=>none
 | g+1,a,b,d=>
  if (decide (b<d))=true then
   (idxn c a d).bind fun f=>
   (idxn c a b).bind fun i=>
   (idxn c a b).bind fun _=>
   (idxn c (List.set a (Int.toNat b) f) d).bind fun _=>
   Zao c g (List.set (List.set a (Int.toNat b) f) (Int.toNat d) i) (IntKind.wrap .i64 (b + (1:Int))) (IntKind.wrap .i64 (d - (1:Int)))
  else
   some a
def Za7 (a:Nat) (b:(List Int)) (c:Int) (d:Int):Option (List Int):=
 (Zao a fuel b c (IntKind.wrap .i64 (d - (1:Int)))).bind fun f=>
  some f
def Z7 (b:Nat) (d:Int) (c:(List Int)):Nat→Int→Option Int
 | 0,_=>none
 | f+1,a=>
  (some (decide (a<d))).bind fun g=>
  (if g=true then
   (idxn b c a).bind fun i=>
   (idxn b c (IntKind.wrap .i64 (a - (1:Int)))).bind fun j=>
   (Zac i j).bind fun k=>
   some (!k)
   else some false).bind fun l=>
  if l=true then
   Z7 b d c f (IntKind.wrap .i64 (a + (1:Int)))
  else
   some a
def Zy (c:Nat):Nat→(List Int)→Int→Option (List Int)
 | 0,_,_=>none
 | f+1,b,a=>
  if (decide (a ≥ (1:Int)))=true then
   (idxn c b a).bind fun g=>
   (idxn c b (IntKind.wrap .i64 (a - (1:Int)))).bind fun i=>
   (Zac g i).bind fun j=>
   if (!j)=true then
    some b
   else
    (idxn c b (IntKind.wrap .i64 (a - (1:Int)))).bind fun d=>
    (idxn c b a).bind fun k=>
    (idxn c b a).bind fun _=>
    (idxn c (List.set b (Int.toNat a) d) (IntKind.wrap .i64 (a - (1:Int)))).bind fun _=>
    Zy c f (List.set (List.set b (Int.toNat a) d) (Int.toNat (IntKind.wrap .i64 (a - (1:Int)))) k) (IntKind.wrap .i64 (a - (1:Int)))
  else
   some b
def Z8 (c:Nat) (d:Int):Nat→(List Int)→Int→Option (List Int)
 | 0,_,_=>none
 | g+1,b,a=>
  if (decide (a<d))=true then
   (idxn c b a).bind fun i=>
   (idxn c b (IntKind.wrap .i64 (a - (1:Int)))).bind fun j=>
   (Zac i j).bind fun k=>
   if (!k)=true then
    some b
   else
    (idxn c b (IntKind.wrap .i64 (a - (1:Int)))).bind fun f=>
    (idxn c b a).bind fun l=>
    (idxn c b a).bind fun _=>
    (idxn c (List.set b (Int.toNat a) f) (IntKind.wrap .i64 (a - (1:Int)))).bind fun _=>
    Z8 c d g (List.set (List.set b (Int.toNat a) f) (Int.toNat (IntKind.wrap .i64 (a - (1:Int)))) l) (IntKind.wrap .i64 (a + (1:Int)))
  else
   some b
def Z9 (c:Nat) (f:Int) (d:Int):Nat→(List Int)→Int→Int→Option ((List Int) ⊕ (Bool × (List Int)))
 | 0,_,_,_=>none
 | l+1,b,m,i=>
  if (decide (i<(5:Int)))=true then
   ((Z7 c d b fuel m).bind fun a=>
    if (a == d)=true then
     some (.inr (true,b))
    else
     if (decide ((IntKind.wrap .i64 (d - f))<(50:Int)))=true then
      some (.inr (false,b))
     else
      (idxn c b (IntKind.wrap .i64 (a - (1:Int)))).bind fun g=>
      (idxn c b a).bind fun j=>
      (idxn c b a).bind fun _=>
      (idxn c (List.set b (Int.toNat a) g) (IntKind.wrap .i64 (a - (1:Int)))).bind fun _=>
      (if (decide ((IntKind.wrap .i64 (a - f)) ≥ (2:Int)))=true then
       (Zy c fuel (List.set (List.set b (Int.toNat a) g) (Int.toNat (IntKind.wrap .i64 (a - (1:Int)))) j) (IntKind.wrap .i64 (a - (1:Int)))).bind fun n=>
        some n
      else
       some (List.set (List.set b (Int.toNat a) g) (Int.toNat (IntKind.wrap .i64 (a - (1:Int)))) j)).bind fun k=>
       if (decide ((IntKind.wrap .i64 (d - a)) ≥ (2:Int)))=true then
        (Z8 c d fuel k (IntKind.wrap .i64 (a + (1:Int)))).bind fun o=>
         some (.inl (o,a))
       else
        some (.inl (k,a))).bind fun(p:(((List Int) × Int) ⊕ (Bool × (List Int))))=>
   match p with
   | .inl (q,r)=>
     Z9 c f d l q r (IntKind.wrap .i64 (i + (1:Int)))
   | .inr s=>
     some (.inr s)
  else
   some (.inl b)
def Zap (b:Nat) (c:(List Int)) (a:Int) (d:Int):Option (Bool × (List Int)):=
 (Z9 b a d fuel c (IntKind.wrap .i64 (a + (1:Int))) (0:Int)).bind fun(f:((List Int) ⊕ (Bool × (List Int))))=>
 match f with
 | .inl g=>
   some (false,g)
 | .inr i=>
   some i
def Zau (b:Nat) (d:Int) (c:(List Int)) (f:Int):Nat→Int→Option Int
 | 0,_=>none
 | g+1,a=>
  (some (decide (a≤f))).bind fun i=>
  (if i=true then
   (idxn b c d).bind fun j=>
   (idxn b c a).bind fun k=>
   (Zac j k).bind fun l=>
   some (!l)
   else some false).bind fun m=>
  if m=true then
   Zau b d c f g (IntKind.wrap .i64 (a + (1:Int)))
  else
   some a
def Zav (b:Nat) (d:Int) (c:(List Int)) (f:Int):Nat→Int→Option Int
 | 0,_=>none
 | g+1,a=>
  (some (decide (f≤a))).bind fun i=>
  (if i=true then
   (idxn b c d).bind fun j=>
   (idxn b c a).bind fun k=>
   (Zac j k).bind fun l=>
   some l
   else some false).bind fun m=>
  if m=true then
   Zav b d c f g (IntKind.wrap .i64 (a - (1:Int)))
  else
   some a
def Zai (c:Nat) (f:Int):Nat→(List Int)→Int→Int→Option ((List Int) × Int)
 | 0,_,_,_=>none
 | j+1,a,k,g=>
  (Zau c f a g fuel k).bind fun b=>
   (Zav c f a b fuel g).bind fun d=>
    if (decide (b > d))=true then
     some (a,b)
    else
     (idxn c a d).bind fun i=>
     (idxn c a b).bind fun l=>
     (idxn c a b).bind fun _=>
     (idxn c (List.set a (Int.toNat b) i) d).bind fun _=>
     Zai c f j (List.set (List.set a (Int.toNat b) i) (Int.toNat d) l) (IntKind.wrap .i64 (b + (1:Int))) (IntKind.wrap .i64 (d - (1:Int)))
def Zbk (b:Nat) (c:(List Int)) (a:Int) (g:Int) (d:Int):Option (Int × (List Int)):=
 (idxn b c d).bind fun f=>
 (idxn b c a).bind fun i=>
 (idxn b c a).bind fun _=>
 (idxn b (List.set c (Int.toNat a) f) d).bind fun _=>
 (Zai b a fuel (List.set (List.set c (Int.toNat a) f) (Int.toNat d) i) (IntKind.wrap .i64 (a + (1:Int))) (IntKind.wrap .i64 (g - (1:Int)))).bind fun j=>
 match j with
 | (k,l)=>
  some (l,k)
def Za8 (c:Nat) (d:(List Int)) (a:Int) (j:Int) (f:Int) (g:Int) (i:Int):Nat→Int→Option Int
 | 0,_=>none
 | k+1,b=>
  (some (decide (b≤(IntKind.wrap .i64 (j - (1:Int)))))).bind fun l=>
  (if l=true then
   (idxn c (List.set (List.set d (Int.toNat a) g) (Int.toNat f) i) b).bind fun m=>
   (idxn c (List.set (List.set d (Int.toNat a) g) (Int.toNat f) i) a).bind fun n=>
   (Zac m n).bind fun o=>
   some o
   else some false).bind fun p=>
  if p=true then
   Za8 c d a j f g i k (IntKind.wrap .i64 (b + (1:Int)))
  else
   some b
def Za9 (c:Nat) (d:(List Int)) (a:Int) (f:Int) (g:Int) (i:Int) (j:Int):Nat→Int→Option Int
 | 0,_=>none
 | k+1,b=>
  (some (decide (j≤b))).bind fun l=>
  (if l=true then
   (idxn c (List.set (List.set d (Int.toNat a) g) (Int.toNat f) i) b).bind fun m=>
   (idxn c (List.set (List.set d (Int.toNat a) g) (Int.toNat f) i) a).bind fun n=>
   (Zac m n).bind fun o=>
   some (!o)
   else some false).bind fun p=>
  if p=true then
   Za9 c d a f g i j k (IntKind.wrap .i64 (b - (1:Int)))
  else
   some b
def Zba (b:Nat) (d:Int) (c:(List Int)) (f:Int):Nat→Int→Option Int
 | 0,_=>none
 | g+1,a=>
  (some (decide (a≤f))).bind fun i=>
  (if i=true then
   (idxn b c a).bind fun j=>
   (idxn b c d).bind fun k=>
   (Zac j k).bind fun l=>
   some l
   else some false).bind fun m=>
  if m=true then
   Zba b d c f g (IntKind.wrap .i64 (a + (1:Int)))
  else
   some a
def Zbb (b:Nat) (d:Int) (c:(List Int)) (f:Int):Nat→Int→Option Int
 | 0,_=>none
 | g+1,a=>
  (some (decide (f≤a))).bind fun i=>
  (if i=true then
   (idxn b c a).bind fun j=>
   (idxn b c d).bind fun k=>
   (Zac j k).bind fun l=>
   some (!l)
   else some false).bind fun m=>
  if m=true then
   Zbb b d c f g (IntKind.wrap .i64 (a - (1:Int)))
  else
   some a
def Zaw (b:Nat) (f:Int):Nat→(List Int)→Int→Int→Option ((List Int) × Int)
 | 0,_,_,_=>none
 | j+1,a,k,g=>
  (Zba b f a g fuel k).bind fun c=>
   (Zbb b f a c fuel g).bind fun d=>
    if (decide (c > d))=true then
     some (a,d)
    else
     (idxn b a d).bind fun i=>
     (idxn b a c).bind fun l=>
     (idxn b a c).bind fun _=>
     (idxn b (List.set a (Int.toNat c) i) d).bind fun _=>
     Zaw b f j (List.set (List.set a (Int.toNat c) i) (Int.toNat d) l) (IntKind.wrap .i64 (c + (1:Int))) (IntKind.wrap .i64 (d - (1:Int)))
def Zbz (b:Nat) (c:(List Int)) (a:Int) (m:Int) (d:Int):Option (Int × Bool × (List Int)):=
 (idxn b c d).bind fun f=>
 (idxn b c a).bind fun g=>
 (idxn b c a).bind fun _=>
 (idxn b (List.set c (Int.toNat a) f) d).bind fun _=>
 (Za8 b c a m d f g fuel (IntKind.wrap .i64 (a + (1:Int)))).bind fun j=>
  (Za9 b c a d f g j fuel (IntKind.wrap .i64 (m - (1:Int)))).bind fun i=>
   if (decide (j > i))=true then
    (idxn b (List.set (List.set c (Int.toNat a) f) (Int.toNat d) g) a).bind fun n=>
    (idxn b (List.set (List.set c (Int.toNat a) f) (Int.toNat d) g) i).bind fun q=>
    (idxn b (List.set (List.set c (Int.toNat a) f) (Int.toNat d) g) i).bind fun _=>
    (idxn b (List.set (List.set (List.set c (Int.toNat a) f) (Int.toNat d) g) (Int.toNat i) n) a).bind fun _=>
    some (i,true,(List.set (List.set (List.set (List.set c (Int.toNat a) f) (Int.toNat d) g) (Int.toNat i) n) (Int.toNat a) q))
   else
    (idxn b (List.set (List.set c (Int.toNat a) f) (Int.toNat d) g) i).bind fun o=>
    (idxn b (List.set (List.set c (Int.toNat a) f) (Int.toNat d) g) j).bind fun r=>
    (idxn b (List.set (List.set c (Int.toNat a) f) (Int.toNat d) g) j).bind fun _=>
    (idxn b (List.set (List.set (List.set c (Int.toNat a) f) (Int.toNat d) g) (Int.toNat j) o) i).bind fun _=>
    (Zaw b a fuel (List.set (List.set (List.set (List.set c (Int.toNat a) f) (Int.toNat d) g) (Int.toNat j) o) (Int.toNat i) r) (IntKind.wrap .i64 (j + (1:Int))) (IntKind.wrap .i64 (i - (1:Int)))).bind fun s=>
    match s with
    | (k,l)=>
     (idxn b k a).bind fun p=>
     (idxn b k l).bind fun t=>
     (idxn b k l).bind fun _=>
     (idxn b (List.set k (Int.toNat l) p) a).bind fun _=>
     some (l,false,(List.set (List.set k (Int.toNat l) p) (Int.toNat a) t))
def Zaq (c:Nat) (f:Nat→(List Int)→Int→Int→Int→Option (List Int)):Nat→(List Int)→Int→Int→Int→Bool→Bool→Option (List Int)
 | 0,_,_,_,_,_,_=>none
 | l+1,i,a,b,m,n,r=>
  if (decide ((IntKind.wrap .i64 (b - a))≤(12:Int)))=true then
   (Zbo c i a b).bind fun u=>
   some u
  else
   if (m == (0:Int))=true then
    (Zb5 c i a b).bind fun v=>
    some v
   else
    (if (!n)=true then
     (Za5 c i a b).bind fun w=>
     some (w,(IntKind.wrap .i64 (m - (1:Int))))
    else
     some (i,m)).bind fun x=>
    match x with
    | (o,g)=>
     (Zbr c o a b).bind fun j=>
     (if (j.2 == (2:Int))=true then
      (Za7 c o a b).bind fun y=>
      some (y,(IntKind.wrap .i64 ((IntKind.wrap .i64 (b - (1:Int))) - (IntKind.wrap .i64 (j.1 - a)))),(1:Int))
     else
      some (o,j.1,j.2)).bind fun z=>
     match z with
     | (s,p,a0)=>
      ((some n).bind fun a1=>
      (some (a1 && r)).bind fun a2=>
      if (a2 && (a0 == (1:Int)))=true then
       (Zap c s a b).bind fun q=>
       if q.1=true then
        some (.inr q.2)
       else
        some (.inl q.2)
      else
       some (.inl s)).bind fun(a3:((List Int) ⊕ (List Int)))=>
      match a3 with
      | .inl k=>
        (some (decide (a > (0:Int)))).bind fun a4=>
        (if a4=true then
         (idxn c k (IntKind.wrap .i64 (a - (1:Int)))).bind fun a5=>
         (idxn c k p).bind fun a6=>
         (Zac a5 a6).bind fun a7=>
         some (!a7)
         else some false).bind fun a8=>
        if a8=true then
         (Zbk c k a b p).bind fun t=>
         Zaq c f l t.2 t.1 b g n r
        else
         (Zbz c k a b p).bind fun d=>
         if (decide ((IntKind.wrap .i64 (d.1 - a))<(IntKind.wrap .i64 (b - d.1))))=true then
          (f c d.2.2 a d.1 g).bind fun a9=>
          Zaq c f l a9 (IntKind.wrap .i64 (d.1 + (1:Int))) b g (decide ((IntKind.wrap .i64 (d.1 - a)) ≥ (IntKind.wrap .i64 (Int.tdiv (IntKind.wrap .i64 (b - a)) (8:Int))))) d.2.1
         else
          (f c d.2.2 (IntKind.wrap .i64 (d.1 + (1:Int))) b g).bind fun b0=>
          Zaq c f l b0 a d.1 g (decide ((IntKind.wrap .i64 (b - d.1)) ≥ (IntKind.wrap .i64 (Int.tdiv (IntKind.wrap .i64 (b - a)) (8:Int))))) d.2.1
      | .inr b1=>
        some b1
def Zw:Nat→Nat→(List Int)→Int→Int→Int→Option (List Int)
 | 0,_,_,_,_,_=>none
 | nr+1,a,b,c,d,f=>
  (Zaq a (Zw nr) fuel b c d f true true).bind fun g=>
  match g with
  | i=>
   some i
def Zcx (a:Nat) (b:(List Int)):Option (List Int):=
 (Zfh (IntKind.wrap .u64 (a:Int))).bind fun c=>
 (Zw fuel a b (0:Int) (a:Int) c).bind fun d=>
 some d
def Za2 (c:Nat) (a:Int):Nat→(List Int)→Int→Int→Option ((List Int) × Int)
 | 0,_,_,_=>none
 | g+1,b,d,f=>
  if (decide (f<(((Int.toNat (c:Int) - Int.toNat a):Nat):Int)))=true then
   ((idxv (Int.toNat (c:Int) - Int.toNat a) b a f).bind fun i=>
   (idxv (Int.toNat (c:Int) - Int.toNat a) b a (IntKind.wrap .i64 (f - (1:Int)))).bind fun j=>
   if (i != j)=true then
    (idxv (Int.toNat (c:Int) - Int.toNat a) b a f).bind fun k=>
    (idxn c b d).bind fun _=>
    some ((List.set b (Int.toNat d) k),(IntKind.wrap .i64 (d + (1:Int))))
   else
    some (b,d)).bind fun l=>
   match l with
   | (m,n)=>
    Za2 c a g m n (IntKind.wrap .i64 (f + (1:Int)))
  else
   some (b,d)
def Za3 (a:Nat) (d:(List Int)):Nat→Int→Option (Unit ⊕ (Nat × (List Int)))
 | 0,_=>none
 | g+1,c=>
  if (decide (c<(a:Int)))=true then
   (idxn a d c).bind fun i=>
   (idxn a d (IntKind.wrap .i64 (c - (1:Int)))).bind fun j=>
   if (i == j)=true then
    if 0≤c∧c≤(a:Int)∧(a:Int)≤(a:Int) then
    (Za2 a c fuel d c (1:Int)).bind fun k=>
    match k with
    | (f,b)=>
     if 0≤b∧b≤(a:Int)∧(a:Int)≤(a:Int) then
     if Int.toNat b + (Int.toNat (a:Int) - Int.toNat b)≤List.length f then
     if 0≤(0:Int)∧(0:Int)≤b∧b≤(a:Int) then
     some (.inr ((Int.toNat b),(List.take (Int.toNat b) f++List.replicate (Int.toNat (a:Int) - Int.toNat b) (0:Int)++List.drop (Int.toNat b + (Int.toNat (a:Int) - Int.toNat b)) f)))
     else none
     else none
     else none
    else none
   else
    Za3 a d g (IntKind.wrap .i64 (c + (1:Int)))
  else
   some (.inl ())
def Zcb (a:Nat) (b:(List Int)):Option (Nat × (List Int)):=
 if (decide ((a:Int)<(2:Int)))=true then
  some (a,b)
 else
  (Za3 a b fuel (1:Int)).bind fun(c:(Unit ⊕ (Nat × (List Int))))=>
  match c with
  | .inl ()=>
    some (a,b)
  | .inr d=>
    some d
def Zbx (a:Int):Nat→Int→Int→Option Int
 | 0,_,_=>none
 | d+1,c,b=>
  if (decide (b<(List.length (List.drop (Int.toNat a) (List.take (Int.toNat (List.length ([]:(List Int)):Int)) ([]:(List Int)))):Int)))=true then
   ((idx (List.drop (Int.toNat a) (List.take (Int.toNat (List.length ([]:(List Int)):Int)) ([]:(List Int)))) b).bind fun f=>
   (idx (List.drop (Int.toNat a) (List.take (Int.toNat (List.length ([]:(List Int)):Int)) ([]:(List Int)))) (IntKind.wrap .i64 (b - (1:Int)))).bind fun g=>
   if (f != g)=true then
    none
   else
    some ()).bind fun i=>
   match i with
   | ()=>
    Zbx a d c (IntKind.wrap .i64 (b + (1:Int)))
  else
   some c
def Zby:Nat→Int→Option (Unit ⊕ (List Int))
 | 0,_=>none
 | b+1,a=>
  if (decide (a<(List.length ([]:(List Int)):Int)))=true then
   (idx ([]:(List Int)) a).bind fun c=>
   (idx ([]:(List Int)) (IntKind.wrap .i64 (a - (1:Int)))).bind fun d=>
   if (c == d)=true then
    if 0≤a∧a≤(List.length ([]:(List Int)):Int)∧(List.length ([]:(List Int)):Int)≤(List.length ([]:(List Int)):Int) then
    (Zbx a fuel a (1:Int)).bind fun _=>
     none
    else none
   else
    Zby b (IntKind.wrap .i64 (a + (1:Int)))
  else
   some (.inl ())
def Zcc:Option (List Int):=
 if (decide ((List.length ([]:(List Int)):Int)<(2:Int)))=true then
  some ([]:(List Int))
 else
  (Zby fuel (1:Int)).bind fun(a:(Unit ⊕ (List Int)))=>
  match a with
  | .inl ()=>
    some ([]:(List Int))
  | .inr b=>
    some b
def Zcl (a:Int) (c:ZL):Nat→(List Int)→Int→Option (List Int)
 | 0,_,_=>none
 | g+1,d,f=>
  if (decide (f<(List.length c:Int)))=true then
   (idx c f).bind fun b=>
   if 0≤a∧a<5 then
   if 0≤a∧a<5 then
   if List.length d + List.length [(IntKind.wrap .u64 (Arr5.get b a).Lo),(IntKind.wrap .u64 ((IntKind.wrap .u64 (Arr5.get b a).Hi) + (1:Int)))]≤lim then
   Zcl a c g (d++[(IntKind.wrap .u64 (Arr5.get b a).Lo),(IntKind.wrap .u64 ((IntKind.wrap .u64 (Arr5.get b a).Hi) + (1:Int)))]) (IntKind.wrap .i64 (f + (1:Int)))
   else none
   else none
   else none
  else
   some d
def Zcm (c:Int) (a:(List ZL)):Nat→(List Int)→Int→Option (List Int)
 | 0,_,_=>none
 | f+1,d,b=>
  if (decide (b<(List.length a:Int)))=true then
   (idx a b).bind fun g=>
   (Zcl c g fuel d (0:Int)).bind fun i=>
    Zcm c a f i (IntKind.wrap .i64 (b + (1:Int)))
  else
   some d
def Ze4 (c:Int) (f:(List ZL)):Option (List Int):=
 (Zk9 c).bind fun g=>
 (Zcm c f fuel [(0:Int),(IntKind.wrap .u64 ((IntKind.wrap .u64 g) + (1:Int)))] (0:Int)).bind fun a=>
  if a ≠ [] then
  (Zcx (List.length a) a).bind fun b=>
  if List.length b=List.length a then
  (handB b (Zcb (List.length b) b) (Zcc)).bind fun d=>
  some (List.take d.1 d.2)
  else none
  else none
def Zb6 (d:ZL) (a:Int) (f:Int):Nat→ZL→Int→Option ZL
 | 0,_,_=>none
 | i+1,b,g=>
  if (decide (g<(List.length d:Int)))=true then
   ((idx d g).bind fun c=>
   if 0≤a∧a<5 then
   (some (decide ((Arr5.get c a).Lo≤f))).bind fun j=>
   (if j=true then
    if 0≤a∧a<5 then
    some (decide (f≤(Arr5.get c a).Hi))
    else none
    else some false).bind fun k=>
   if k=true then
    if List.length b + List.length [c]≤lim then
    some (b++[c])
    else none
   else
    some b
   else none).bind fun l=>
    Zb6 d a f i l (IntKind.wrap .i64 (g + (1:Int)))
  else
   some b
def Zdo (a:ZL) (b:Int) (c:Int):Option ZL:=
 (Zb6 a b c fuel ([]:ZL) (0:Int)).bind fun d=>
  some d
def Zam (f:Int) (l:ZL) (m:ZL) (j:Int) (n:Int→ZL→ZL→Int→Option (ZL × Bool)) (g:(List Int)):Nat→(List Zm)→Int→Int→Option (((List Zm) × Int) ⊕ (ZL × Bool))
 | 0,_,_,_=>none
 | p+1,a,c,i=>
  if (decide ((IntKind.wrap .i64 (i + (1:Int)))<(List.length g:Int)))=true then
   ((idx g i).bind fun d=>
   (idx g (IntKind.wrap .i64 (i + (1:Int)))).bind fun k=>
   (Zdo l f (IntKind.wrap .u32 d)).bind fun q=>
   (Zdo m f (IntKind.wrap .u32 d)).bind fun r=>
   (n (IntKind.wrap .i64 (f + (1:Int))) q r j).bind fun b=>
   if (!b.2)=true then
    some (.inr (([]:ZL),false))
   else
    if ((List.length b.1:Int) == (0:Int))=true then
     some (.inl (a,c))
    else
     (some (decide ((List.length a:Int) > (0:Int)))).bind fun s=>
     (if s=true then
      (idx a (IntKind.wrap .i64 ((List.length a:Int) - (1:Int)))).bind fun t=>
      some ((IntKind.wrap .u32 (t.f_values.Hi + (1:Int))) == (IntKind.wrap .u32 d))
      else some false).bind fun u=>
     (some u).bind fun v=>
     (if v=true then
      (idx a (IntKind.wrap .i64 ((List.length a:Int) - (1:Int)))).bind fun w=>
      (Zbe w.f_rest b.1).bind fun x=>
      some x
      else some false).bind fun y=>
     if y=true then
      (idx a (IntKind.wrap .i64 ((List.length a:Int) - (1:Int)))).bind fun o=>
      some (.inl ((List.set a (Int.toNat (IntKind.wrap .i64 ((List.length a:Int) - (1:Int)))) ({ o with f_values:=({ o.f_values with Hi:=(IntKind.wrap .u32 (IntKind.wrap .u64 (k - (1:Int)))) }:Zb) }:Zm)),c))
     else
      if List.length a + List.length [(Zm.mk (Zb.mk (IntKind.wrap .u32 d) (IntKind.wrap .u32 (IntKind.wrap .u64 (k - (1:Int))))) b.1)]≤lim then
      if (decide ((IntKind.wrap .i64 (c + (List.length b.1:Int))) > j))=true then
       some (.inr (([]:ZL),false))
      else
       some (.inl ((a++[(Zm.mk (Zb.mk (IntKind.wrap .u32 d) (IntKind.wrap .u32 (IntKind.wrap .u64 (k - (1:Int))))) b.1)]),(IntKind.wrap .i64 (c + (List.length b.1:Int)))))
      else none).bind fun(z:(((List Zm) × Int) ⊕ (ZL × Bool)))=>
   match z with
   | .inl (a0,a1)=>
     Zam f l m j n g p a0 a1 (IntKind.wrap .i64 (i + (1:Int)))
   | .inr a2=>
     some (.inr a2)
  else
   some (.inl (a,c))
def Zan (a:Int) (b:Zm):Nat→ZL→Int→Option ZL
 | 0,_,_=>none
 | g+1,c,d=>
  if (decide (d<(List.length b.f_rest:Int)))=true then
   (idx b.f_rest d).bind fun f=>
   if 0≤a∧a<5 then
   if List.length c + List.length [(Arr5.set f a b.f_values)]≤lim then
   Zan a b g (c++[(Arr5.set f a b.f_values)]) (IntKind.wrap .i64 (d + (1:Int)))
   else none
   else none
  else
   some c
def Zah (c:Int) (a:(List Zm)):Nat→ZL→Int→Option ZL
 | 0,_,_=>none
 | f+1,d,b=>
  if (decide (b<(List.length a:Int)))=true then
   (idx a b).bind fun g=>
   (Zan c g fuel d (0:Int)).bind fun i=>
    Zah c a f i (IntKind.wrap .i64 (b + (1:Int)))
  else
   some d
def Zaf:Nat→Int→ZL→ZL→Int→Option (ZL × Bool)
 | 0,_,_,_,_=>none
 | nr+1,a,b,c,f=>
  if (a == (5:Int))=true then
   (Zec (decide ((List.length b:Int) > (0:Int))) (decide ((List.length c:Int) > (0:Int)))).bind fun g=>
   if g=true then
    some ([(Arr5.mk Z3 Z3 Z3 Z3 Z3)],true)
   else
    some (([]:ZL),true)
  else
   (some ((IntKind.wrap .i64 ((List.length b:Int) + (List.length c:Int))) == (0:Int))).bind fun i=>
   (if i=true then
    (Zec false false).bind fun j=>
    some (!j)
    else some false).bind fun k=>
   if k=true then
    some (([]:ZL),true)
   else
    (Ze4 a [b,c]).bind fun l=>
    (Zam a b c f (Zaf nr) l fuel ([]:(List Zm)) (0:Int) (0:Int)).bind fun(m:(((List Zm) × Int) ⊕ (ZL × Bool)))=>
    match m with
    | .inl (n,d)=>
      if 0≤d∧d≤(lim:Int) then
      (Zah a n fuel ([]:ZL) (0:Int)).bind fun o=>
       some (o,true)
      else none
    | .inr p=>
      some p
def Zbt (b:ZL) (c:ZL):Option (ZL × Int):=
 (Zaf fuel (0:Int) b c (4096:Int)).bind fun a=>
 if (!a.2)=true then
  some (([]:ZL),(3:Int))
 else
  some (a.1,(0:Int))
def Zdb (a:ZL):Nat→ZL→Int→Option (ZL ⊕ (ZL × Int))
 | 0,_,_=>none
 | f+1,d,b=>
  if (decide (b<(List.length a:Int)))=true then
   (idx a b).bind fun g=>
   (Zbt d [g]).bind fun c=>
   if (c.2 != (0:Int))=true then
    some (.inr (([]:ZL),c.2))
   else
    Zdb a f c.1 (IntKind.wrap .i64 (b + (1:Int)))
  else
   some (.inl d)
def Zf1 (a:ZL):Option (ZL × Int):=
 (Zev a).bind fun b=>
 (Zdb b fuel ([]:ZL) (0:Int)).bind fun(c:(ZL ⊕ (ZL × Int)))=>
 match c with
 | .inl d=>
   some (d,(0:Int))
 | .inr f=>
   some f
def Ze5 (a:ZL):Option (ZL × Int):=
 (Zew a).bind fun c=>
 if c=true then
  some (a,(0:Int))
 else
  (Zf1 a).bind fun b=>
  some (b.1,b.2)
def Zgy (a:Int):Option Zf:=
 some (Zf.mk (0:Int) a)
def Zcr (a:Zb):Option Int:=
 some (IntKind.wrap .u64 ((IntKind.wrap .u64 ((IntKind.wrap .u64 a.Hi) - (IntKind.wrap .u64 a.Lo))) + (1:Int)))
def Zex (a:Int) (b:Int):Option (Int × Int):=
 some ((IntKind.wrap .u64 ((IntKind.wrap .u64 ((IntKind.wrap .u64 ((bShr .u64 a (32:Int)) * (bShr .u64 b (32:Int)))) + (bShr .u64 (IntKind.wrap .u64 ((IntKind.wrap .u64 ((bShr .u64 a (32:Int)) * (bAnd .u64 b (4294967295:Int)))) + (bShr .u64 (IntKind.wrap .u64 ((bAnd .u64 a (4294967295:Int)) * (bAnd .u64 b (4294967295:Int)))) (32:Int)))) (32:Int)))) + (bShr .u64 (IntKind.wrap .u64 ((bAnd .u64 (IntKind.wrap .u64 ((IntKind.wrap .u64 ((bShr .u64 a (32:Int)) * (bAnd .u64 b (4294967295:Int)))) + (bShr .u64 (IntKind.wrap .u64 ((bAnd .u64 a (4294967295:Int)) * (bAnd .u64 b (4294967295:Int)))) (32:Int)))) (4294967295:Int)) + (IntKind.wrap .u64 ((bAnd .u64 a (4294967295:Int)) * (bShr .u64 b (32:Int)))))) (32:Int)))),(IntKind.wrap .u64 (a * b)))
def Zch (c:Zf) (d:Int):Option (Zf × Bool):=
 (Zex c.Lo d).bind fun a=>
 (Zex c.Hi d).bind fun b=>
 if 0≤b.2∧0≤a.1∧0≤(0:Int)∧(0:Int)≤1 then
 (some (b.1 == (0:Int))).bind fun f=>
 some ((Zf.mk ((b.2 + a.1 + (0:Int)) % 18446744073709551616) a.2),(f && (((b.2 + a.1 + (0:Int)) / 18446744073709551616) == (0:Int))))
 else none
def Zc3 (c:ZB) (b:Int):Nat→Zf→Int→Option Zf
 | 0,_,_=>none
 | f+1,d,a=>
  if (decide (a<(((Int.toNat (5:Int) - Int.toNat b):Nat):Int)))=true then
   if 0≤a∧a<(((Int.toNat (5:Int) - Int.toNat b):Nat):Int) then
   if 0≤(b + a)∧(b + a)<5 then
   (Zcr (Arr5.get c (b + a))).bind fun g=>
   (Zch d g).bind fun i=>
   Zc3 c b f i.1 (IntKind.wrap .i64 (a + (1:Int)))
   else none
   else none
  else
   some d
def Zdv (b:ZB) (a:Int):Option Zf:=
 (Zgy (1:Int)).bind fun c=>
 if 0≤a∧a≤(5:Int)∧(5:Int)≤(5:Int) then
 (Zc3 b a fuel c (0:Int)).bind fun d=>
  some d
 else none
def Zed (a:Zf) (b:Zf):Option Zf:=
 if 0≤a.Lo∧0≤b.Lo∧0≤(0:Int)∧(0:Int)≤1 then
 if 0≤a.Hi∧0≤b.Hi∧0≤((a.Lo + b.Lo + (0:Int)) / 18446744073709551616)∧((a.Lo + b.Lo + (0:Int)) / 18446744073709551616)≤1 then
 some (Zf.mk ((a.Hi + b.Hi + ((a.Lo + b.Lo + (0:Int)) / 18446744073709551616)) % 18446744073709551616) ((a.Lo + b.Lo + (0:Int)) % 18446744073709551616))
 else none
 else none
def Zcn (a:ZL) (c:Int):Nat→Zf→Int→Option Zf
 | 0,_,_=>none
 | f+1,d,b=>
  if (decide (b<(List.length a:Int)))=true then
   (idx a b).bind fun g=>
   (Zdv g c).bind fun i=>
   (Zed d i).bind fun j=>
   Zcn a c f j (IntKind.wrap .i64 (b + (1:Int)))
  else
   some d
def Zb0 (a:ZL) (b:Int):Option Zf:=
 (Zcn a b fuel Zk (0:Int)).bind fun c=>
  some c
def Zhb (b:ZL):Option (Zf × Int):=
 (Ze5 b).bind fun a=>
 if (a.2 != (0:Int))=true then
  some ((Zf.mk (0:Int) (0:Int)),a.2)
 else
  (Zb0 a.1 (0:Int)).bind fun c=>
  some (c,(0:Int))
def Zdp (g:Zg):Option (Zj × Zg):=
 (Zb8 g).bind fun a=>
 (Zb8 a.2).bind fun b=>
 (Zu b.2 (6:Int)).bind fun c=>
 (idx [(6:Int),(17:Int),(1:Int),(0:Int),(7:Int),(255:Int)] c.1).bind fun i=>
 (Zb9 c.2 (65535:Int)).bind fun d=>
 (Zb9 d.2 (65535:Int)).bind fun f=>
 some ((Zj.mk a.1 b.1 i (IntKind.wrap .u16 d.1) (IntKind.wrap .u16 f.1)),f.2)
def Ze6 (a:(Arr5 Int)):Option Zj:=
 some (Zj.mk a.x0 a.x1 (IntKind.wrap .u8 a.x2) (IntKind.wrap .u16 a.x3) (IntKind.wrap .u16 a.x4))
def Zbg (b:ZB):Nat→Zg→(Arr5 Int)→Int→Option (Zg × (Arr5 Int))
 | 0,_,_,_=>none
 | i+1,d,c,a=>
  if (decide (a<(5:Int)))=true then
   if 0≤a∧a<5 then
   if 0≤a∧a<5 then
   if 0≤a∧a<5 then
   if 0≤a∧a<5 then
   if 0≤a∧a<5 then
   if 0≤a∧a<5 then
   if 0≤a∧a<5 then
   (Zu d (5:Int)).bind fun f=>
   (idx [(Arr5.get b a).Lo,(Arr5.get b a).Hi,(IntKind.wrap .u32 ((Arr5.get b a).Lo - (1:Int))),(IntKind.wrap .u32 ((Arr5.get b a).Hi + (1:Int))),(IntKind.wrap .u32 ((Arr5.get b a).Lo + (IntKind.wrap .u32 (Int.tdiv (IntKind.wrap .u32 ((Arr5.get b a).Hi - (Arr5.get b a).Lo)) (2:Int)))))] f.1).bind fun g=>
   if 0≤a∧a<5 then
   if 0≤a∧a<5 then
   (Zdm a).bind fun j=>
   if 0≤a∧a<5 then
   Zbg b i f.2 (Arr5.set (Arr5.set c a g) a (iMin (Arr5.get (Arr5.set c a g) a) j)) (IntKind.wrap .i64 (a + (1:Int)))
   else none
   else none
   else none
   else none
   else none
   else none
   else none
   else none
   else none
   else none
  else
   some (d,c)
def Ze8 (c:Zg) (a:ZL):Option (Zj × Zg):=
 (some ((List.length a:Int) == (0:Int))).bind fun b1=>
 (if b1=true then some (true,c) else
  (Zu c (4:Int)).bind fun d=>
  some ((d.1 == (3:Int)),d.2)
  ).bind fun b=>
 if b.1=true then
  (Zdp b.2).bind fun f=>
  some (f.1,f.2)
 else
  (Zu b.2 (List.length a:Int)).bind fun g=>
  (idx a g.1).bind fun i=>
  (Zbg i fuel g.2 Zil (0:Int)).bind fun j=>
  match j with
  | (k,l)=>
   (Ze6 l).bind fun m=>
   some (m,k)
def Zem (b:ZL):Option (ZL × Int):=
 (Zgj b ([]:ZL)).bind fun a=>
 some (a.1,a.2)
def Zfi (a:Zj):Option (Arr5 Int):=
 some (Arr5.mk a.Src a.Dst (IntKind.wrap .u32 a.Proto) (IntKind.wrap .u32 a.SrcPort) (IntKind.wrap .u32 a.DstPort))
def Ze7 (a:Int):Option Zf:=
 some (Zf.mk (0:Int) a)
def Zen (a:Zb):Option Int:=
 some (IntKind.wrap .u64 ((IntKind.wrap .u64 ((IntKind.wrap .u64 a.Hi) - (IntKind.wrap .u64 a.Lo))) + (1:Int)))
def Zci (a:Zf):Option (Arr4 Int):=
 some (Arr4.mk (Int.tmod a.Lo (4294967296:Int)) (IntKind.wrap .u64 (Int.tdiv a.Lo (4294967296:Int))) (Int.tmod a.Hi (4294967296:Int)) (IntKind.wrap .u64 (Int.tdiv a.Hi (4294967296:Int))))
def Zeo (a:(Arr4 Int)):Option Zf:=
 some (Zf.mk (IntKind.wrap .u64 ((IntKind.wrap .u64 (a.x3 * (4294967296:Int))) + a.x2)) (IntKind.wrap .u64 ((IntKind.wrap .u64 (a.x1 * (4294967296:Int))) + a.x0)))
def Z0 (c:Int):Nat→(Arr4 Int)→Int→Int→Option (Arr4 Int)
 | 0,_,_,_=>none
 | f+1,b,d,a=>
  if (decide (a<(4:Int)))=true then
   if 0≤a∧a<4 then
   if 0≤a∧a<4 then
   Z0 c f (Arr4.set b a (Int.tmod (IntKind.wrap .u64 ((IntKind.wrap .u64 ((Arr4.get b a) * c)) + d)) (4294967296:Int))) (IntKind.wrap .u64 (Int.tdiv (IntKind.wrap .u64 ((IntKind.wrap .u64 ((Arr4.get b a) * c)) + d)) (4294967296:Int))) (IntKind.wrap .i64 (a + (1:Int)))
   else none
   else none
  else
   some b
def Zep (b:Zf) (c:Int):Option Zf:=
 if (c == (4294967296:Int))=true then
  (Zci b).bind fun a=>
  (Zeo (Arr4.mk (0:Int) a.x0 a.x1 a.x2)).bind fun d=>
  some d
 else
  (Zci b).bind fun f=>
  (Z0 c fuel f (0:Int) (0:Int)).bind fun g=>
   (Zeo g).bind fun i=>
   some i
def Zdw (b:ZB):Nat→Zf→Int→Option Zf
 | 0,_,_=>none
 | d+1,c,a=>
  if (decide (a<(5:Int)))=true then
   if 0≤a∧a<5 then
   (Zen (Arr5.get b a)).bind fun f=>
   (Zep c f).bind fun g=>
   Zdw b d g (IntKind.wrap .i64 (a + (1:Int)))
   else none
  else
   some c
def Zee (a:ZB) (b:Int):Option Zf:=
 (Ze7 (1:Int)).bind fun c=>
 (Zdw a fuel c b).bind fun d=>
  some d
def Zad (c:(Arr4 Int)):Nat→(Arr4 Int)→Int→Int→Option (Arr4 Int)
 | 0,_,_,_=>none
 | f+1,b,d,a=>
  if (decide (a<(4:Int)))=true then
   if 0≤a∧a<4 then
   if 0≤a∧a<4 then
   if 0≤a∧a<4 then
   Zad c f (Arr4.set b a (Int.tmod (IntKind.wrap .u64 ((IntKind.wrap .u64 ((Arr4.get b a) + (Arr4.get c a))) + d)) (4294967296:Int))) (IntKind.wrap .u64 (Int.tdiv (IntKind.wrap .u64 ((IntKind.wrap .u64 ((Arr4.get b a) + (Arr4.get c a))) + d)) (4294967296:Int))) (IntKind.wrap .i64 (a + (1:Int)))
   else none
   else none
   else none
  else
   some b
def Zd7 (a:Zf) (b:Zf):Option Zf:=
 (Zci a).bind fun c=>
 (Zci b).bind fun d=>
 (Zad d fuel c (0:Int) (0:Int)).bind fun f=>
  (Zeo f).bind fun g=>
  some g
def Zcy (b:ZB) (c:(Arr5 Int)):Nat→Zf→Int→Option (Zf ⊕ Zf)
 | 0,_,_=>none
 | g+1,d,a=>
  if (decide (a<(5:Int)))=true then
   ((if 0≤a∧a<5 then
   if 0≤a∧a<5 then
   if (decide ((Arr5.get c a) > (Arr5.get b a).Lo))=true then
    if 0≤a∧a<5 then
    if 0≤a∧a<5 then
    if 0≤a∧a<5 then
    (Zee b (IntKind.wrap .i64 (a + (1:Int)))).bind fun i=>
    (Zen (Zb.mk ((Arr5.get b a).Lo) (iMin ((Arr5.get b a).Hi) (IntKind.wrap .u32 ((Arr5.get c a) - (1:Int)))))).bind fun j=>
    (Zep i j).bind fun k=>
    (Zd7 d k).bind fun l=>
    some l
    else none
    else none
    else none
   else
    some d
   else none
   else none).bind fun f=>
    if 0≤a∧a<5 then
    if 0≤a∧a<5 then
    (some (decide ((Arr5.get c a)<(Arr5.get b a).Lo))).bind fun m=>
    (if m=true then some true else
     if 0≤a∧a<5 then
     if 0≤a∧a<5 then
     some (decide ((Arr5.get c a) > (Arr5.get b a).Hi))
     else none
     else none
     ).bind fun n=>
    if n=true then
     some (.inr f)
    else
     some (.inl f)
    else none
    else none).bind fun(o:(Zf ⊕ Zf))=>
   match o with
   | .inl p=>
     Zcy b c g p (IntKind.wrap .i64 (a + (1:Int)))
   | .inr q=>
     some (.inr q)
  else
   some (.inl d)
def Zfj (a:ZB) (b:Zj):Option Zf:=
 (Zfi b).bind fun c=>
 (Zcy a c fuel Zk (0:Int)).bind fun(d:(Zf ⊕ Zf))=>
 match d with
 | .inl f=>
   some f
 | .inr g=>
   some g
def Zb4 (c:Zj) (a:(ZL × Int)):Nat→Zf→Int→Option Zf
 | 0,_,_=>none
 | f+1,d,b=>
  (some (a.2 == (0:Int))).bind fun g=>
  if (g && (decide (b<(List.length a.1:Int))))=true then
   (idx a.1 b).bind fun i=>
   (Zfj i c).bind fun j=>
   (Zd7 d j).bind fun k=>
   Zb4 c a f k (IntKind.wrap .i64 (b + (1:Int)))
  else
   some d
def Zfx (b:ZL) (c:Zj):Option (Zf × Int):=
 (Zem b).bind fun a=>
 (Zb4 c a fuel Zk (0:Int)).bind fun d=>
  some (d,a.2)
def Zcu (a:(ZL × Int)):Nat→Zf→Int→Option Zf
 | 0,_,_=>none
 | d+1,c,b=>
  (some (a.2 == (0:Int))).bind fun f=>
  if (f && (decide (b<(List.length a.1:Int))))=true then
   (idx a.1 b).bind fun g=>
   (Zee g (0:Int)).bind fun i=>
   (Zd7 c i).bind fun j=>
   Zcu a d j (IntKind.wrap .i64 (b + (1:Int)))
  else
   some c
def Zf2 (b:ZL):Option (Zf × Int):=
 (Zem b).bind fun a=>
 (Zcu a fuel Zk (0:Int)).bind fun c=>
  some (c,a.2)
def Zhp (a:Zj):Option (Arr5 Int):=
 some (Arr5.mk a.Src a.Dst (IntKind.wrap .u32 a.Proto) (IntKind.wrap .u32 a.SrcPort) (IntKind.wrap .u32 a.DstPort))
def Zii (b:Zj) (a:Int):Option Int:=
 (some (decide (a<(0:Int)))).bind fun b1=>
 if (b1 || (decide (a ≥ (5:Int))))=true then
  some (0:Int)
 else
  (Zhp b).bind fun c=>
  if 0≤a∧a<5 then
  some (Arr5.get c a)
  else none
def Zco (b:ZB) (f:Zj):Nat→Zf→Int→Option Zf
 | 0,_,_=>none
 | i+1,d,a=>
  if (decide (a<(5:Int)))=true then
   (if 0≤a∧a<5 then
   (Zii f a).bind fun c=>
   (if (decide (c > (Arr5.get b a).Lo))=true then
    (Zcr (Arr5.get b a)).bind fun j=>
    (Zdv b (IntKind.wrap .i64 (a + (1:Int)))).bind fun k=>
    (Zch k (iMin (IntKind.wrap .u64 ((IntKind.wrap .u64 c) - (IntKind.wrap .u64 (Arr5.get b a).Lo))) j)).bind fun l=>
    (Zed d l.1).bind fun m=>
    some m
   else
    some d).bind fun g=>
    (some (decide (c<(Arr5.get b a).Lo))).bind fun n=>
    if (n || (decide (c > (Arr5.get b a).Hi)))=true then
     some (.inr g)
    else
     some (.inl g)
   else none).bind fun(o:(Zf ⊕ Zf))=>
   match o with
   | .inl p=>
     Zco b f i p (IntKind.wrap .i64 (a + (1:Int)))
   | .inr q=>
     some q
  else
   some d
def Zf3 (a:ZB) (b:Zj):Option Zf:=
 (Zco a b fuel Zk (0:Int)).bind fun c=>
  some c
def Zcz (c:Zj) (a:(ZL × Int)):Nat→Zf→Int→Option Zf
 | 0,_,_=>none
 | f+1,d,b=>
  if (decide (b<(List.length a.1:Int)))=true then
   (idx a.1 b).bind fun g=>
   (Zf3 g c).bind fun i=>
   (Zed d i).bind fun j=>
   Zcz c a f j (IntKind.wrap .i64 (b + (1:Int)))
  else
   some d
def Zgk (b:ZL) (c:Zj):Option (Zf × Int):=
 (Ze5 b).bind fun a=>
 if (a.2 != (0:Int))=true then
  some ((Zf.mk (0:Int) (0:Int)),a.2)
 else
  (Zcz c a fuel Zk (0:Int)).bind fun d=>
   some (d,(0:Int))
def Zdq (a:Int) (b:Int):Option Int:=
 (Zcw a).bind fun d=>
 (Zcw b).bind fun c=>
 if d=true then
  if c=true then
   some (0:Int)
  else
   some (-1:Int)
 else
  if c=true then
   some (1:Int)
  else
   if (decide (a<b))=true then
    some (-1:Int)
   else
    if (decide (a > b))=true then
     some (1:Int)
    else
     some (0:Int)
def Zeq (a:(List Int)):Nat→Int→Option (Unit ⊕ Int)
 | 0,_=>none
 | d+1,b=>
  if (decide (b<(List.length a:Int)))=true then
   (idx a b).bind fun c=>
   if (c != (0:Int))=true then
    some (.inr c)
   else
    Zeq a d (IntKind.wrap .i64 (b + (1:Int)))
  else
   some (.inl ())
def Zhq (a:(List Int)):Option Int:=
 (Zeq a fuel (0:Int)).bind fun(b:(Unit ⊕ Int))=>
 match b with
 | .inl ()=>
   some (0:Int)
 | .inr c=>
   some c
def Zdi (a:Zf) (b:Zf):Option Int:=
 (Zdq a.Hi b.Hi).bind fun c=>
 (Zdq a.Lo b.Lo).bind fun d=>
 (Zhq [c,d]).bind fun f=>
 some f
def Zd1 (b:Zf) (a:Zf):Option Zf:=
 if 0≤b.Lo∧0≤a.Lo∧a.Lo≤18446744073709551615∧0≤(0:Int)∧(0:Int)≤1 then
 if 0≤b.Hi∧0≤a.Hi∧a.Hi≤18446744073709551615∧0≤(if b.Lo<a.Lo + (0:Int) then (1:Int) else (0:Int))∧(if b.Lo<a.Lo + (0:Int) then (1:Int) else (0:Int))≤1 then
 some (Zf.mk ((b.Hi + 18446744073709551616 - a.Hi - (if b.Lo<a.Lo + (0:Int) then (1:Int) else (0:Int))) % 18446744073709551616) ((b.Lo + 18446744073709551616 - a.Lo - (0:Int)) % 18446744073709551616))
 else none
 else none
def Zb1 (c:Zf) (d:Zf):Nat→Int→Int→Option Int
 | 0,_,_=>none
 | f+1,a,b=>
  if (decide (a<b))=true then
   (Zch d (IntKind.wrap .u64 (Int.tdiv (IntKind.wrap .u64 ((IntKind.wrap .u64 (a + b)) + (1:Int))) (2:Int)))).bind fun g=>
   (Zdi g.1 c).bind fun i=>
   if (decide (i≤(0:Int)))=true then
    Zb1 c d f (IntKind.wrap .u64 (Int.tdiv (IntKind.wrap .u64 ((IntKind.wrap .u64 (a + b)) + (1:Int))) (2:Int))) b
   else
    Zb1 c d f a (IntKind.wrap .u64 ((IntKind.wrap .u64 (Int.tdiv (IntKind.wrap .u64 ((IntKind.wrap .u64 (a + b)) + (1:Int))) (2:Int))) - (1:Int)))
  else
   some a
def Zf4 (a:Zf) (b:Zf) (c:Int):Option Int:=
 (Zb1 a b fuel (0:Int) c).bind fun d=>
  some d
def Zhr (a:(Arr5 Int)):Option Zj:=
 some (Zj.mk a.x0 a.x1 (IntKind.wrap .u8 a.x2) (IntKind.wrap .u16 a.x3) (IntKind.wrap .u16 a.x4))
def Zh7 (b:Zj) (a:Int) (c:Int):Option Zj:=
 (some (decide (a<(0:Int)))).bind fun b1=>
 (some (b1 || (decide (a ≥ (5:Int))))).bind fun d=>
 (if d=true then some true else
  if 0≤a∧a<5 then
  some (decide (c > (Arr5.get Zd6 a)))
  else none
  ).bind fun f=>
 if f=true then
  some b
 else
  (Zhp b).bind fun g=>
  if 0≤a∧a<5 then
  (Zhr (Arr5.set g a c)).bind fun i=>
  some i
  else none
def Zcd (a:Int) (c:ZL) (d:ZB):Nat→Int→Option Int
 | 0,_=>none
 | f+1,b=>
  (some (decide (b<(List.length c:Int)))).bind fun g=>
  (if g=true then
   (idx c b).bind fun i=>
   if 0≤a∧a<5 then
   some (Zcs (Arr5.get i a) (Arr5.get d a))
   else none
   else some false).bind fun j=>
  if j=true then
   Zcd a c d f (IntKind.wrap .i64 (b + (1:Int)))
  else
   some b
def Zdr (g:Zj) (b:Int):Nat→Zf→ZL→Option (Zf × Zj × ZL)
 | 0,_,_=>none
 | l+1,d,a=>
  if (decide ((List.length a:Int) > (0:Int)))=true then
   (idx a (0:Int)).bind fun f=>
   if 0≤b∧b<5 then
   (Zcd b a f fuel (1:Int)).bind fun c=>
    if 0≤(0:Int)∧(0:Int)≤c∧c≤(List.length a:Int) then
    (Zb0 (List.drop (Int.toNat (0:Int)) (List.take (Int.toNat c) a)) (IntKind.wrap .i64 (b + (1:Int)))).bind fun i=>
    (Zcr (Arr5.get f b)).bind fun m=>
    (Zch i m).bind fun j=>
    (Zdi d j.1).bind fun n=>
    if (decide (n ≥ (0:Int)))=true then
     (Zd1 d j.1).bind fun o=>
     if 0≤c∧c≤(List.length a:Int)∧(List.length a:Int)≤(List.length a:Int) then
     Zdr g b l o (List.drop (Int.toNat c) (List.take (Int.toNat (List.length a:Int)) a))
     else none
    else
     (Zcr (Arr5.get f b)).bind fun p=>
     (Zf4 d i (IntKind.wrap .u64 (p - (1:Int)))).bind fun k=>
     (Zch i k).bind fun q=>
     (Zd1 d q.1).bind fun r=>
     if 0≤(0:Int)∧(0:Int)≤c∧c≤(List.length a:Int) then
     (Zh7 g b (IntKind.wrap .u32 ((Arr5.get f b).Lo + (IntKind.wrap .u32 k)))).bind fun s=>
     some (r,s,(List.drop (Int.toNat (0:Int)) (List.take (Int.toNat c) a)))
     else none
    else none
   else none
  else
   some (d,g,a)
def Zce:Nat→Zf→Zj→ZL→Int→Option (Zf × Zj)
 | 0,_,_,_,_=>none
 | d+1,b,c,f,a=>
  if (decide (a<(5:Int)))=true then
   (Zdr c a fuel b f).bind fun g=>
   match g with
   | (i,j,k)=>
    Zce d i j k (IntKind.wrap .i64 (a + (1:Int)))
  else
   some (b,c)
def Zc4 (c:ZL) (b:Zf):Option (Zj × Bool):=
 (Ze5 c).bind fun a=>
 (some (a.2 != (0:Int))).bind fun d=>
 (if d=true then some true else
  (Zb0 a.1 (0:Int)).bind fun f=>
  (Zdi b f).bind fun g=>
  some (decide (g ≥ (0:Int)))
  ).bind fun i=>
 if i=true then
  some (Zo,false)
 else
  (Zce fuel b Zo a.1 (0:Int)).bind fun j=>
  match j with
  | (_,k)=>
   some (k,true)
def Zbm (b:(Arr4 Int)) (c:(Arr4 Int)):Nat→Int→Option (Unit ⊕ Int)
 | 0,_=>none
 | d+1,a=>
  if (decide (a ≥ (0:Int)))=true then
   if 0≤a∧a<4 then
   if 0≤a∧a<4 then
   if (decide ((Arr4.get b a)<(Arr4.get c a)))=true then
    some (.inr (-1:Int))
   else
    if 0≤a∧a<4 then
    if 0≤a∧a<4 then
    if (decide ((Arr4.get b a) > (Arr4.get c a)))=true then
     some (.inr (1:Int))
    else
     Zbm b c d (IntKind.wrap .i64 (a - (1:Int)))
    else none
    else none
   else none
   else none
  else
   some (.inl ())
def Zey (a:Zf) (b:Zf):Option Int:=
 (Zci a).bind fun c=>
 (Zci b).bind fun d=>
 (Zbm c d fuel (3:Int)).bind fun(f:(Unit ⊕ Int))=>
 match f with
 | .inl ()=>
   some (0:Int)
 | .inr g=>
   some g
def Zef (b:Zj) (a:Int) (c:Int):Option Zj:=
 (some (decide (a<(0:Int)))).bind fun b1=>
 (some (b1 || (decide (a ≥ (5:Int))))).bind fun d=>
 (if d=true then some true else
  (Zdm a).bind fun f=>
  some (decide (c > f))
  ).bind fun g=>
 if g=true then
  some b
 else
  (Zfi b).bind fun i=>
  if 0≤a∧a<5 then
  (Ze6 (Arr5.set i a c)).bind fun j=>
  some j
  else none
def Zcp (a:ZL) (c:Zj):Nat→Zf→Int→Option Zf
 | 0,_,_=>none
 | f+1,d,b=>
  if (decide (b<(List.length a:Int)))=true then
   (idx a b).bind fun g=>
   (Zfj g c).bind fun i=>
   (Zd7 d i).bind fun j=>
   Zcp a c f j (IntKind.wrap .i64 (b + (1:Int)))
  else
   some d
def Zea (a:ZL) (b:Zj):Option Zf:=
 (Zcp a b fuel Zk (0:Int)).bind fun c=>
  some c
def Zb2 (c:Zf) (d:(ZL × Int)) (f:Zj) (g:Int):Nat→Int→Int→Option Int
 | 0,_,_=>none
 | i+1,a,b=>
  if (decide (a<b))=true then
   (Zef f g (IntKind.wrap .u32 (IntKind.wrap .u64 (Int.tdiv (IntKind.wrap .u64 ((IntKind.wrap .u64 (a + b)) + (1:Int))) (2:Int))))).bind fun j=>
   (Zea d.1 j).bind fun k=>
   (Zey k c).bind fun l=>
   if (decide (l≤(0:Int)))=true then
    Zb2 c d f g i (IntKind.wrap .u64 (Int.tdiv (IntKind.wrap .u64 ((IntKind.wrap .u64 (a + b)) + (1:Int))) (2:Int))) b
   else
    Zb2 c d f g i a (IntKind.wrap .u64 ((IntKind.wrap .u64 (Int.tdiv (IntKind.wrap .u64 ((IntKind.wrap .u64 (a + b)) + (1:Int))) (2:Int))) - (1:Int)))
  else
   some a
def Zcq (c:Zf) (d:(ZL × Int)):Nat→Zj→Int→Option Zj
 | 0,_,_=>none
 | f+1,b,a=>
  if (decide (a<(5:Int)))=true then
   (Zdm a).bind fun g=>
   (Zb2 c d b a fuel (0:Int) (IntKind.wrap .u64 g)).bind fun i=>
    (Zef b a (IntKind.wrap .u32 i)).bind fun j=>
    Zcq c d f j (IntKind.wrap .i64 (a + (1:Int)))
  else
   some b
def Zf5 (c:ZL) (b:Zf):Option (Zj × Bool):=
 (Zem c).bind fun a=>
 (Zf2 a.1).bind fun d=>
 (some (a.2 != (0:Int))).bind fun f=>
 (if f=true then some true else
  (Zey b d.1).bind fun g=>
  some (decide (g ≥ (0:Int)))
  ).bind fun i=>
 if i=true then
  some ((Zj.mk (0:Int) (0:Int) (0:Int) (0:Int) (0:Int)),false)
 else
  (Zcq b a fuel Zo (0:Int)).bind fun j=>
   some (j,true)
def Zdj (a:ZL) (b:Zj) (c:Zf):Option Bool:=
 (Zhb a).bind fun d=>
 (Zf2 a).bind fun f=>
 (Zgk a b).bind fun g=>
 (Zfx a b).bind fun i=>
 (Zc4 a c).bind fun j=>
 (Zf5 a c).bind fun k=>
 (some (Zi6 d.1 f.1)).bind fun l=>
 (some (l && (d.2 == f.2))).bind fun m=>
 (some (m && (Zi6 g.1 i.1))).bind fun n=>
 (some (n && (g.2 == i.2))).bind fun o=>
 (some (o && (Zkc j.1 k.1))).bind fun p=>
 some (p && (j.2 == k.2))
def Zgl (a:ZL):Option Bool:=
 some (decide ((List.length a:Int) > (6:Int)))
def Zbc (d:Zf):Nat→Zg→Int→Option (Zg ⊕ Bool)
 | 0,_,_=>none
 | m+1,f,g=>
  if (decide (g<(3:Int)))=true then
   (Zd0 f (4:Int) true).bind fun a=>
   (Ze8 a.2 a.1).bind fun b=>
   (Zfx a.1 b.1).bind fun n=>
   (Zdj a.1 b.1 n.1).bind fun o=>
   (some (!o)).bind fun p=>
   (if p=true then some (true,b.2) else
    (Zdp b.2).bind fun i=>
    (Zu i.2 (1048576:Int)).bind fun j=>
    (Ze7 (IntKind.wrap .u64 j.1)).bind fun q=>
    (Zdj a.1 i.1 q).bind fun r=>
    some ((!r),j.2)
    ).bind fun c=>
   (some c.1).bind fun s=>
   (if s=true then some (true,c.2) else
    (Zfq c.2 (3:Int)).bind fun k=>
    (Zdj k.1 b.1 d).bind fun t=>
    some ((!t),k.2)
    ).bind fun l=>
   if l.1=true then
    some (.inr false)
   else
    Zbc d m l.2 (IntKind.wrap .i64 (g + (1:Int)))
  else
   some (.inl f)
def Zer (c:(List Int)) (a:ZL) (d:Zj) (b:Zf):Option Bool:=
 (Zi7 c).bind fun f=>
 (Zbc b fuel f (0:Int)).bind fun(g:(Zg ⊕ Bool))=>
 match g with
 | .inl _=>
   (Zgl a).bind fun i=>
   (some i).bind fun j=>
   (if j=true then some true else
    (Zdj a d b).bind fun k=>
    (some k).bind fun l=>
    (if l=true then
     (Zjx).bind fun m=>
     some m
     else some false).bind fun n=>
    some n
    ).bind fun o=>
   some o
 | .inr p=>
   some p
end Go.AM
set_option maxRecDepth 1000000
namespace Go.AM
open Go Go.Proofs
def glob:Glob:=[(0,Z5 Zd6)]
def T0:Tab:=[]
theorem T0_ok:T0.ok Tryz.prog glob:=Tab.nil
def T1:Tab:=(50,[.sc (.agg #[.int .u64 0,.int .u64 1]),.sc (.agg #[.int .u64 256,.int .u64 0]),.sc (.int .u64 4294967295)],.sc (.int .u64 0)) :: T0
theorem T1_ok:T1.ok Tryz.prog glob:=Tab.cons T0_ok 100000 (by kernel_rfl)
def T2:Tab:=(50,[.sc (.agg #[.int .u64 0,.int .u64 1]),.sc (.agg #[.int .u64 0,.int .u64 1099511627776]),.sc (.int .u64 4294967295)],.sc (.int .u64 0)) :: T1
theorem T2_ok:T2.ok Tryz.prog glob:=Tab.cons T1_ok 100000 (by kernel_rfl)
def T3:Tab:=(50,[.sc (.agg #[.int .u64 0,.int .u64 1]),.sc (.agg #[.int .u64 0,.int .u64 4294967296]),.sc (.int .u64 255)],.sc (.int .u64 0)) :: T2
theorem T3_ok:T3.ok Tryz.prog glob:=Tab.cons T2_ok 100000 (by kernel_rfl)
def T4:Tab:=(50,[.sc (.agg #[.int .u64 0,.int .u64 1]),.sc (.agg #[.int .u64 0,.int .u64 65536]),.sc (.int .u64 65535)],.sc (.int .u64 0)) :: T3
theorem T4_ok:T4.ok Tryz.prog glob:=Tab.cons T3_ok 100000 (by kernel_rfl)
def T5:Tab:=(50,[.sc (.agg #[.int .u64 0,.int .u64 1]),.sc (.agg #[.int .u64 0,.int .u64 1]),.sc (.int .u64 65535)],.sc (.int .u64 1)) :: T4
theorem T5_ok:T5.ok Tryz.prog glob:=Tab.cons T4_ok 100000 (by kernel_rfl)
def T6:Tab:=(23,[.sl 10 [[.sc (.int .u32 0),.sc (.int .u32 4294967295),.sc (.int .u32 0),.sc (.int .u32 4294967295),.sc (.int .u32 0),.sc (.int .u32 255),.sc (.int .u32 0),.sc (.int .u32 65535),.sc (.int .u32 0),.sc (.int .u32 65535)]],.sc (.agg #[.int .u64 0,.int .u64 1])],.tup [.sc (.agg #[.int .u32 0,.int .u32 0,.int .u8 0,.int .u16 0,.int .u16 1]),.sc (.bool true)]) :: T5
theorem T6_ok:T6.ok Tryz.prog glob:=Tab.cons T5_ok 100000 (by kernel_rfl)
def T7:Tab:=(25,[.sc (.agg #[.int .u64 1099511627776,.int .u64 0])],.sc (.string (ByteArray.mk #[50,48,50,56,50,52,48,57,54,48,51,54,53,49,54,55,48,52,50,51,57,52,55,50,53,49,50,56,54,48,49,54]))) :: T6
theorem T7_ok:T7.ok Tryz.prog glob:=Tab.cons T6_ok 100000 (by kernel_rfl)
def T8:Tab:=(9,[],.sc (.bool true)) :: T7
theorem T8_ok:T8.ok Tryz.prog glob:=Tab.cons T7_ok 100000 (by kernel_rfl)
end Go.AM

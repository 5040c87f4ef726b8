/- Parts of a proof, printed short. No condition. -/
import Derived.Calls
import Derived.Orders
import Derived.Laws.AppendOwn
import Derived.Laws.OwnMore
import Derived.Laws.CopyRow
import Derived.Below
import Derived.KernelRfl
import Derived.ChangeKeysEq
import Derived.Laws.StructEq
import Derived.Laws.Tables
set_option maxRecDepth 100000
set_option linter.all false
namespace Go.AM
noncomputable section
open Go
theorem om {p:Prop} (h:p:=by omega):p:=h
theorem sO {p:Prop} (h:p:=by simp;omega):p:=h
theorem sM {p:Prop} (h:p:=by simp):p:=h
theorem aS {p:Prop} (h:p:=by assumption):p:=h
theorem gD {p:Prop} (h:p:=by grind):p:=h
theorem dC {p:Prop} (h:p:=by decide):p:=h
theorem kR {p:Prop} (h:p:=by kernel_rfl):p:=h
theorem sA {p:Prop} (h:p:=by simp_all):p:=h
def okz (n:Nat) (fz:Nat×Nat):Prop:=fz.2≤fz.1∨n≤fz.1
def World.row (w:World) (b:Nat) (vs:Array Value) (t:TypeId):Prop:=∃ fz,w.heap[b]? = some (.cells vs t fz)∧okz vs.size fz
section
variable {w w':World} {b:Nat} {vs us:Array Value} {t t':TypeId}
def Ws:=@Nat.le_refl
def Zaki (h:w.heap[b]? = some (.cells vs t (0,0))):World.row w b vs t:=⟨_,h,.inl (Ws _)⟩
def Zyz (h:World.row w b vs t):b<w.heap.size:=by obtain⟨fz,h,_⟩:=h;grind
def Zgh (h:World.row w b vs t) (o:Nat):w.cell? ⟨b,o,none⟩=vs[o]?:=by obtain⟨fz,h,_⟩:=h;simp[World.cell?,h]
def Zp6 (h:World.row w b vs t) (hs:us.size=vs.size):World.row (w.setRow b us) b us t:=by
 obtain⟨fz,h,h1⟩:=h;exact⟨fz,setRow_heap w b vs us t fz h,gD⟩
def Zg7 (hh:w'.heap[b]? = w.heap[b]?) (h:World.row w b vs t):World.row w' b vs t:=by
 obtain⟨fz,h,h1⟩:=h;exact⟨fz,gD,h1⟩
def Z46 (h:World.row w b vs t) (k:World.row w b us t'):us=vs∧t'=t:=by
 obtain⟨fz,h,_⟩:=h;obtain⟨fz',k,_⟩:=k
 grind
def Wfo:=@heap_alloc_new
def Zy0 (w:World) (vs:Array Value) (t:TypeId):World.row (w.alloc (.cells vs t)) w.heap.size vs t:=Zaki (Wfo w _)
def Wht:=@decide_eq_false_iff_not
def Wbb:=@Sem.run_bind
def Wan:=@Result.andThen_ok
def Whu:=@Nat.add_assoc
def Zft (P:Program) (g o:Nat) (t:TypeId):∀ vs i cur w,World.row w g cur t→o+i+vs.length≤cur.size→(∀ v∈vs,v.oneCell'=true) →
  (storeCells ⟨g,o,none⟩ vs i).run P w=.ok () (w.setRow g (cur.toList.take (o+i)++vs++cur.toList.drop (o+i+vs.length)).toArray)
 |[],i,cur,w,hg,_,_=>by
  obtain⟨fz,hg,_⟩:=hg;simp;rw[setRow_self w g cur t fz hg];rfl
 |v::rest,i,cur,w,hg,hl,h1=>by
  have hi:o+i<cur.size:=gD
  have hadd:(⟨g,o,none⟩:Addr).add i=⟨g,o+i,none⟩:=by unfold Addr.add;grind
  have hset:=Zp6 (us:=cur.setIfInBounds (o+i) v) hg sM;obtain⟨fz,hg,hz⟩:=hg
  have hcell:w.cell? ⟨g,o+i,none⟩=some cur[o+i]:=by simp[World.cell?,hg]
  have hfro:w.frozen? ⟨g,o+i,none⟩=false:=by
   obtain⟨lo,hi'⟩:=fz;simp  [World.frozen?,hg,Bool.and_eq_false_iff,Wht]
   unfold okz at hz
   grind
  have hst:(store ((⟨g,o,none⟩:Addr).add i) v).run P w=.ok () (w.setRow g (cur.setIfInBounds (o+i) v)):=by
   rw[hadd,run_store P w _ v _ (h1 v sM),hcell];simp[hfro,setCell_eq_setRow w g (o+i) cur t fz v hg]
  simp only[storeCells,Wbb,hst,Wan,Zft P g o t rest (i+1) (cur.setIfInBounds (o+i) v) (w.setRow g (cur.setIfInBounds (o+i) v)) hset gD gD,setRow_setRow]
  congr 3
  simpa [Array.toList_setIfInBounds,Whu]using list_seg_step cur.toList (o+i) v rest gD
def Wu:=@run_underlying
def Zxn {P:Program} (w:World) (t ty e:TypeId) (i:TypeInfo) (ht:P.underlying t=some (.slice e)) (hi:P.info? e=some i)
  (g sLen sCap:Nat) (cur:Array Value) (hg:World.row w g cur e)
  (a:Addr) (m c:Nat) (news:List Value) (hl:news.length=m*i.size) (hnews:∀ j u,news[j]? = some u→w.cell? (a.add j)=some u) (h1:∀ u∈news,u.oneCell'=true)
  (hroom:sLen+m≤sCap) (hfit:sLen*i.size+news.length≤cur.size) :
  (Builtin.append_ #[t,t] ty #[.slice (some ⟨g,0,none⟩) sLen sCap,.slice (some a) m c]).run P w =
   .ok (.slice (some ⟨g,0,none⟩) (sLen+m) sCap) (w.setRow g (cur.toList.take (sLen*i.size)++news++cur.toList.drop (sLen*i.size+news.length)).toArray):=by
 simp[Builtin.append_,Wu ht,sizeOf,typeInfo,hi,Builtin.lenOf,hroom,run_firstCells_some (P:=P) w i.size m a m c news hl hnews,Addr.add_lit,Zft P g (sLen*i.size) e news 0 cur w hg gD h1]
def World.ownsM (w:World) (base:Nat) (e:TypeId) (size:Nat) (v:Value) (n:Nat) (xs:List Value):Prop:=
 xs.length=n*size ∧
 ((v=.slice none 0 0∧n=0) ∨
  ∃ g cap cur,v=.slice (some ⟨g,0,none⟩) n cap∧base≤g∧World.row w g cur e∧n≤cap∧cap≤maxLen∧cur.size=cap*size∧cur.toList.take (n*size)=xs)
def Z47 {w:World} {base:Nat} {e:TypeId} {size:Nat} {v:Value} {n:Nat} {xs:List Value} (h:World.ownsM w base e size v n xs):∀ k,v.ownBlock=some k→base≤k∧k<w.heap.size:=by
 intro k hk
 rcases h.2 with⟨rfl,_⟩|⟨g,cap,cur,rfl,hb,hg,_⟩
 simp[Value.ownBlock]at hk;cases hk;exact⟨hb,Zyz hg⟩
def Z48 {w:World} {base:Nat} {e:TypeId} {size:Nat} {v:Value} {n:Nat} {xs:List Value} (h:World.ownsM w base e size v n xs):∃ a cap,v=.slice a n cap:=by
 rcases h.2 with⟨rfl,rfl⟩|⟨g,cap,cur,rfl,_⟩
 exact⟨_,_,rfl⟩
 grind
def sl_one {u:Value} {n:Nat} (h:∃ a cap,u=.slice a n cap):u.oneCell'=true:=by obtain⟨_,_,rfl⟩:=h;rfl
def Zaf7 (w:World) (base:Nat) (e:TypeId) (size:Nat):World.ownsM w base e size (.slice none 0 0) 0 []:=⟨sM,.inl ⟨rfl,rfl⟩⟩
end
inductive PV where
 |sc (v:Value)
 |agg (cs:List PV)
 |tup (cs:List PV)
 |ptr (i off:Nat)
 |ro (cs:List PV) (off:Nat)
 |sl (s:Nat) (xs:List (List PV))
 |own (i n:Nat)
 |ept (i n k off:Nat)
 |mp (i:Nat)
 |z
 |ln (n:Nat)
 |vw (i off n:Nat)
 |ow (i n lo hi:Nat)
 |oc (i n h:Nat)
 |op (i n lo:Nat)
 |fn (f:Nat) (caps:List PV)
structure Bnd where
 b:Nat
 v:Value
 n:Nat
 s:Nat
 bs:List Nat
mutual
def VR (S:Nat→Nat→Prop) (β:List Bnd) (w:World):PV→Value→Prop
 |.sc v,u=>u=v
 |.agg cs,u=>∃ us,u=.agg us∧VRs S β w cs us.toList
 |.tup cs,u=>∃ us,u=.tuple us∧VRs S β w cs us.toList
 |.ptr i off,u=>∃ e,β[i]? = some e∧u=.pointer (some ⟨e.b,off,none⟩)
 |.ro cs off,u=>∃ b o,u=.pointer (some ⟨b,o+off,none⟩)∧S b (o+cs.length)∧VRow S [] w b o cs
 |.sl s xs,u=>∃ a cap,u=.slice a xs.length cap∧xs.length≤cap∧(xs=[]∨∃ b o,a=some ⟨b,o,none⟩∧S b (o+xs.length*s)∧VRows S [] w b s o xs)
 |.own i n,u=>(∃ a cap,u=.slice a n cap)∧∃ e,β[i]? = some e∧n≤e.n∧(n=e.n→u=e.v)
 |.ept i n k off,u=>u.oneCell'=true∧∃ e,β[i]? = some e∧n≤e.n∧(n=e.n→∃ g,e.v.ownBlock=some g∧u=.pointer (some ⟨g,k*e.s+off,none⟩))
 |.mp i,u=>∃ e,β[i]? = some e∧u=.map (some e.b)
 |.z,u=>∃ a,u=.slice a 0 0
 |.ln n,u=>∃ a cap,u=.slice a n cap
 |.vw i off n,u=>∃ e,β[i]? = some e∧∃ cap ad,n≤cap∧u=.slice ad n cap∧(n≠0→ad=some ⟨e.b,off,none⟩)
 |.ow i n lo hi,u=>u.oneCell'=true∧∃ e,β[i]? = some e∧n≤e.n∧(n=e.n→∃ g cap,e.v.ownBlock=some g∧hi-lo≤cap∧u=.slice (some ⟨g,lo*e.s,none⟩) (hi-lo) cap)
 |.oc i n h,u=>u.oneCell'=true∧∃ e,β[i]? = some e∧n≤e.n∧(n=e.n→(h=0∧u=.slice none 0 0∧e.v=.slice none 0 0)∨∃ g m cap,e.v=.slice (some ⟨g,0,none⟩) m cap∧u=.slice (some ⟨g,0,none⟩) h cap)
 |.op i n lo,u=>u.oneCell'=true∧∃ e,β[i]? = some e∧n≤e.n∧(n=e.n→∃ ad cap,n-lo≤cap∧u=.slice ad (n-lo) cap∧(lo<n→∃ g,e.v.ownBlock=some g∧ad=some ⟨g,lo*e.s,none⟩))
 |.fn f caps,u=>∃ us,u=.func (.func f) #[] us∧VRs S β w caps us.toList
def VRs (S:Nat→Nat→Prop) (β:List Bnd) (w:World):List PV→List Value→Prop
 |[],[]=>True
 |p::ps,u::us=>VR S β w p u∧VRs S β w ps us
 |_,_=>False
def VRow (S:Nat→Nat→Prop) (β:List Bnd) (w:World) (b:Nat):Nat→List PV→Prop
 |_,[]=>True
 |o,p::ps=>(∃ u,w.cell? ⟨b,o,none⟩=some u∧VR S β w p u)∧VRow S β w b (o+1) ps
def VRows (S:Nat→Nat→Prop) (β:List Bnd) (w:World) (b s:Nat):Nat→List (List PV)→Prop
 |_,[]=>True
 |o,x::xs=>(x.length=s∧VRow S β w b o x)∧VRows S β w b s (o+s) xs
end
mutual
def PV.ids (q:Nat→Bool):PV→Bool
 |.sc _|.ro _ _|.sl _ _|.z|.ln _=>true
 |.agg cs|.tup cs|.fn _ cs=>PV.idss q cs
 |.ptr i _|.own i _|.ept i _ _ _|.mp i|.vw i _ _|.ow i _ _ _|.oc i _ _|.op i _ _=>q i
def PV.idss (q:Nat→Bool):List PV→Bool
 |[]=>true
 |p::ps=>p.ids q&&PV.idss q ps
end
structure Ext (S:Nat→Nat→Prop) (w:World) (S':Nat→Nat→Prop) (w':World):Prop where
 stab:∀ b hi,S b hi→S' b hi
 cell:∀ b hi o v,S b hi→o<hi→w.cell? ⟨b,o,none⟩=some v→w'.cell? ⟨b,o,none⟩=some v
def BExt (q:Nat→Bool) (β β':List Bnd):Prop:=
 ∀(i:Nat) e,q i=true→β[i]? = some e→∃ e',β'[i]? = some e'∧e'.b=e.b∧e'.s=e.s∧e.n≤e'.n∧(e.n=e'.n→e'.v=e.v)
def BExt.refl (q:Nat→Bool) (β:List Bnd):BExt q β β:=λ_ e _ h=>⟨e,h,rfl,rfl,Ws _,λ_=>rfl⟩
def W3:=@BExt.refl
def track:Bool:=true
def dle (w w':World):Prop:=track=true→w.drawn≤w'.drawn
def dle.refl (w:World):dle w w:=λ_=>Ws _
def Wbj:=@Nat.le_trans
def dle.trans {w w1 w2:World} (h:dle w w1) (k:dle w1 w2):dle w w2:=λt=>Wbj (h t) (k t)
def Wgu:=@dle.trans
def dle.of {w w':World} (h:w.drawn≤w'.drawn):dle w w':=λ_=>h
def Ext.refl (S:Nat→Nat→Prop) (w:World):Ext S w S w:=⟨λ_ _ h=>h,λ_ _ _ _ _ _ h=>h⟩
def Wd3:=@Ext.refl
def Ext.trans {S S1 S2:Nat→Nat→Prop} {w w1 w2:World} (h:Ext S w S1 w1) (k:Ext S1 w1 S2 w2):Ext S w S2 w2:=
 ⟨λb hi x=>k.stab b hi (h.stab b hi x),λb hi o v x y z=>k.cell b hi o v (h.stab b hi x) y (h.cell b hi o v x y z)⟩
def Wd8:=@Ext.trans
mutual
theorem VR.ext {S S':Nat→Nat→Prop} {w w':World} (hx:Ext S w S' w') {q:Nat→Bool} {β β':List Bnd} (hb:BExt q β β') :
  ∀(p:PV) (u:Value),p.ids q=true→VR S β w p u→VR S' β' w' p u
 |.sc _,_,_,h=>by simpa only[VR]using h
 |.agg cs,u,hq,h=>by
  simp only[VR]at h⊢;obtain⟨us,e,h⟩:=h;exact⟨us,e,VRs.ext hx hb cs _ (by simpa only[PV.ids]using hq) h⟩
 |.tup cs,u,hq,h=>by
  simp only[VR]at h⊢;obtain⟨us,e,h⟩:=h;exact⟨us,e,VRs.ext hx hb cs _ (by simpa only[PV.ids]using hq) h⟩
 |.fn f cs,u,hq,h=>by
  simp only[VR]at h⊢;obtain⟨us,e,h⟩:=h;exact⟨us,e,VRs.ext hx hb cs _ (by simpa only[PV.ids]using hq) h⟩
 |.ptr i off,u,hq,h=>by
  simp only[VR]at h⊢;obtain⟨e,h1,rfl⟩:=h;obtain⟨e',h2,h3,_⟩:=hb i e (by simpa only[PV.ids]using hq) h1;exact⟨e',h2,by rw[h3]⟩
 |.mp i,u,hq,h=>by
  simp only[VR]at h⊢;obtain⟨e,h1,rfl⟩:=h;obtain⟨e',h2,h3,_⟩:=hb i e (by simpa only[PV.ids]using hq) h1;exact⟨e',h2,by rw[h3]⟩
 |.z,u,hq,h=>by
  simp only[VR]at h⊢;exact h
 |.ln n,u,hq,h=>by
  simp only[VR]at h⊢;exact h
 |.vw i off n,u,hq,h=>by
  simp only[VR]at h⊢;obtain⟨e,h1,cap,ad,hc,rfl,ha⟩:=h;obtain⟨e',h2,h3,_⟩:=hb i e (by simpa only[PV.ids]using hq) h1;exact⟨e',h2,cap,ad,hc,rfl,by rw[h3];exact ha⟩
 |.ow i n lo hi,u,hq,h=>by
  simp only[VR]at h⊢;obtain⟨h0,e,h1,h2,h3⟩:=h;obtain⟨e',k1,_,k4,k2,k3⟩:=hb i e (by simpa only[PV.ids]using hq) h1
  refine⟨h0,e',k1,om,λhn=>?_⟩
  have:e.n=e'.n:=om
  rw[k3 this,k4];exact h3 om
 |.op i n lo,u,hq,h=>by
  simp only[VR]at h⊢;obtain⟨h0,e,h1,h2,h3⟩:=h;obtain⟨e',k1,_,k4,k2,k3⟩:=hb i e (by simpa only[PV.ids]using hq) h1
  refine⟨h0,e',k1,om,λhn=>?_⟩
  have:e.n=e'.n:=om
  rw[k3 this,k4];exact h3 om
 |.oc i n h',u,hq,h=>by
  simp only[VR]at h⊢;obtain⟨h0,e,h1,h2,h3⟩:=h;obtain⟨e',k1,_,k4,k2,k3⟩:=hb i e (by simpa only[PV.ids]using hq) h1
  refine⟨h0,e',k1,om,λhn=>?_⟩
  have:e.n=e'.n:=om
  rw[k3 this];exact h3 om
 |.own i n,u,hq,h=>by
  simp only[VR]at h⊢;obtain⟨h0,e,h1,h2,h3⟩:=h;obtain⟨e',k1,_,_,k2,k3⟩:=hb i e (by simpa only[PV.ids]using hq) h1
  refine⟨h0,e',k1,om,λhn=>?_⟩
  have:e.n=e'.n:=om
  rw[k3 this];exact h3 om
 |.ept i n k off,u,hq,h=>by
  simp only[VR]at h⊢;obtain⟨h0,e,h1,h2,h3⟩:=h;obtain⟨e',k1,_,k4,k2,k3⟩:=hb i e (by simpa only[PV.ids]using hq) h1
  refine⟨h0,e',k1,om,λhn=>?_⟩
  have:e.n=e'.n:=om
  rw[k3 this,k4];exact h3 om
 |.ro cs off,u,hq,h=>by
  simp only[VR]at h⊢;obtain⟨b,o,e,h1,h2⟩:=h;exact⟨b,o,e,hx.stab _ _ h1,VRow.ext hx (BExt.refl _ _) b (o+cs.length) h1 cs o (Nat.le_refl _) (PV.idss_true cs) h2⟩
 |.sl s xs,u,hq,h=>by
  simp only[VR]at h⊢;obtain⟨a,cap,e,hcap,h⟩:=h
  refine⟨a,cap,e,hcap,?_⟩
  rcases h with h|⟨b,o,e1,h1,h2⟩
  ·exact .inl h
  ·exact .inr ⟨b,o,e1,hx.stab _ _ h1,VRows.ext hx b s (o+xs.length*s) h1 xs o (Nat.le_refl _) h2⟩
theorem VRs.ext {S S':Nat→Nat→Prop} {w w':World} (hx:Ext S w S' w') {q:Nat→Bool} {β β':List Bnd} (hb:BExt q β β') :
  ∀(ps:List PV) (us:List Value),PV.idss q ps=true→VRs S β w ps us→VRs S' β' w' ps us
 |[],[],_,_=>by simp only[VRs]
 |[],_::_,_,h=>by simp only[VRs]at h
 |_::_,[],_,h=>by simp only[VRs]at h
 |p::ps,u::us,hq,h=>by
  simp only[VRs]at h⊢;simp only[PV.idss,Bool.and_eq_true]at hq;exact⟨VR.ext hx hb p u hq.1 h.1,VRs.ext hx hb ps us hq.2 h.2⟩
theorem VRow.ext {S S':Nat→Nat→Prop} {w w':World} (hx:Ext S w S' w') {q:Nat→Bool} {β β':List Bnd} (hb:BExt q β β') (b hi:Nat) (hS:S b hi) :
  ∀(ps:List PV) (o:Nat),o+ps.length≤hi→PV.idss q ps=true→VRow S β w b o ps→VRow S' β' w' b o ps
 |[],_,_,_,_=>by simp only[VRow]
 |p::ps,o,hl,hq,h=>by
  simp only[VRow]at h⊢;simp only[PV.idss,Bool.and_eq_true]at hq;simp only[List.length_cons]at hl;obtain⟨⟨u,h1,h2⟩,h3⟩:=h;exact⟨⟨u,hx.cell b hi o u hS om h1,VR.ext hx hb p u hq.1 h2⟩,VRow.ext hx hb b hi hS ps (o+1) om hq.2 h3⟩
theorem VRows.ext {S S':Nat→Nat→Prop} {w w':World} (hx:Ext S w S' w') (b s hi:Nat) (hS:S b hi) :
  ∀(xs:List (List PV)) (o:Nat),o+xs.length*s≤hi→VRows S [] w b s o xs→VRows S' [] w' b s o xs
 |[],_,_,_=>by simp only[VRows]
 |x::xs,o,hl,h=>by
  simp only[VRows]at h⊢;simp only[List.length_cons,Nat.succ_mul]at hl;obtain⟨⟨h1,h2⟩,h3⟩:=h;exact⟨⟨h1,VRow.ext hx (BExt.refl (λ_=>true) []) b hi hS x o om (PV.idss_true x) h2⟩,VRows.ext hx b s hi hS xs (o+s) om h3⟩
theorem PV.ids_true:∀(p:PV),p.ids (λ_=>true)=true
 |.sc _|.ro _ _|.sl _ _|.ptr _ _|.own _ _|.ept _ _ _ _|.mp _|.z|.ln _|.vw _ _ _|.ow _ _ _ _|.oc _ _ _|.op _ _ _=>by simp only[PV.ids]
 |.agg cs|.tup cs|.fn _ cs=>by simp only[PV.ids];exact PV.idss_true cs
theorem PV.idss_true:∀(ps:List PV),PV.idss (λ_=>true) ps=true
 |[]=>by simp only[PV.idss]
 |p::ps=>by simp only[PV.idss,Bool.and_eq_true];exact⟨PV.ids_true p,PV.idss_true ps⟩
end
def Wgm:=@VR.ext
def Wdi:=@VRs.ext
def Wf1:=@VRow.ext
def Wcv:=@PV.idss_true
mutual
theorem PV.ids_mono {q q':Nat→Bool} (h:∀ i,q i=true→q' i=true):∀(p:PV),p.ids q=true→p.ids q'=true
 |.sc _,_|.ro _ _,_|.sl _ _,_|.z,_|.ln _,_=>by simp only[PV.ids]
 |.ptr _ _,hp|.own _ _,hp|.ept _ _ _ _,hp|.mp _,hp|.vw _ _ _,hp|.ow _ _ _ _,hp|.oc _ _ _,hp|.op _ _ _,hp=>by simp only[PV.ids]at hp⊢;exact h _ hp
 |.agg cs,hp|.tup cs,hp|.fn _ cs,hp=>by simp only[PV.ids]at hp⊢;exact PV.idss_mono h cs hp
theorem PV.idss_mono {q q':Nat→Bool} (h:∀ i,q i=true→q' i=true):∀(ps:List PV),PV.idss q ps=true→PV.idss q' ps=true
 |[],_=>by simp only[PV.idss]
 |p::ps,hp=>by
  simp only[PV.idss,Bool.and_eq_true]at hp⊢;exact⟨PV.ids_mono h p hp.1,PV.idss_mono h ps hp.2⟩
end
def Wfr:=@PV.ids_mono
def Wdf:=@PV.idss_mono
def VR.ext_all {S S':Nat→Nat→Prop} {w w':World} (hx:Ext S w S' w') {β β':List Bnd} (hb:BExt (λ_=>true) β β') {p:PV} {u:Value} (h:VR S β w p u):VR S' β' w' p u:=
 Wgm hx hb p u (PV.ids_true p) h
def Wci:=@VR.ext_all
def VRs.ext_all {S S':Nat→Nat→Prop} {w w':World} (hx:Ext S w S' w') {β β':List Bnd} (hb:BExt (λ_=>true) β β') {ps:List PV} {us:List Value} (h:VRs S β w ps us):VRs S' β' w' ps us:=
 Wdi hx hb ps us (Wcv ps) h
def Wal:=@VRs.ext_all
def Wak:=@List.length_cons
def VRs.length {S:Nat→Nat→Prop} {β:List Bnd} {w:World}:∀ ps us,VRs S β w ps us→us.length=ps.length
 |[],[],_=>rfl
 |[],_::_,h=>by simp  [VRs]at h
 |_::_,[],h=>by simp  [VRs]at h
 |p::ps,u::us,h=>by
  simp  [Wak,VRs.length ps us h.2]
def Wav:=@VRs.length
def VRs.get {S:Nat→Nat→Prop} {β:List Bnd} {w:World}:∀ ps us,VRs S β w ps us→∀(i:Nat) p,ps[i]? = some p→∃ u,us[i]? = some u∧VR S β w p u
 |[],[],_,i,p,hp=>gD
 |[],_::_,h,_,_,_=>gD
 |_::_,[],h,_,_,_=>by simp  [VRs]at h
 |q::ps,u::us,h,i,p,hp=>by
  simp  [VRs]at h
  cases i
  grind
  rename_i i;exact VRs.get ps us h.2 i p hp
def Whv:=@VRs.get
def VRs.append {S:Nat→Nat→Prop} {β:List Bnd} {w:World}:∀ ps us qs vs,VRs S β w ps us→VRs S β w qs vs→VRs S β w (ps++qs) (us++vs)
 |[],[],_,_,_,h=>gD
 |[],_::_,_,_,h,_=>by simp  [VRs]at h
 |_::_,[],_,_,h,_=>by simp  [VRs]at h
 |p::ps,u::us,qs,vs,h,k=>⟨h.1,VRs.append ps us qs vs h.2 k⟩
def VRs.take {S:Nat→Nat→Prop} {β:List Bnd} {w:World}:∀ n ps us,VRs S β w ps us→VRs S β w (ps.take n) (us.take n)
 |0,_,_,_=>by simp[VRs]
 |_+1,[],[],_=>by simp[VRs]
 |_+1,[],_::_,h=>by simp  [VRs]at h
 |_+1,_::_,[],h=>by simp  [VRs]at h
 |n+1,p::ps,u::us,h=>⟨h.1,VRs.take n ps us h.2⟩
def Wdj:=@VRs.take
def VRs.drop {S:Nat→Nat→Prop} {β:List Bnd} {w:World}:∀ n ps us,VRs S β w ps us→VRs S β w (ps.drop n) (us.drop n)
 |0,_,_,h=>gD
 |_+1,[],[],_=>gD
 |_+1,[],_::_,h=>by simp  [VRs]at h
 |_+1,_::_,[],h=>by simp  [VRs]at h
 |n+1,p::ps,u::us,h=>VRs.drop n ps us h.2
def Wdk:=@VRs.drop
def W0:=@List.map_cons
def VRs.scs {S:Nat→Nat→Prop} {β:List Bnd} {w:World}:∀ vs,VRs S β w (vs.map .sc) vs
 |[]=>by simp[VRs]
 |v::vs=>by simp only[W0,VRs,VR];exact⟨trivial,VRs.scs vs⟩
def VRs.scs_iff {S:Nat→Nat→Prop} {β:List Bnd} {w:World}:∀ vs us,VRs S β w (vs.map .sc) us→us=vs
 |[],[],_=>rfl
 |[],_::_,h=>by simp[VRs]at h
 |_::_,[],h=>by simp[VRs]at h
 |v::vs,u::us,h=>by
  rw[h.1,VRs.scs_iff vs us h.2]
def Wgv:=@VRs.scs_iff
def PV.idss_append (q:Nat→Bool):∀ ps qs,PV.idss q (ps++qs)=(PV.idss q ps&&PV.idss q qs)
 |[],qs=>by simp[PV.idss]
 |p::ps,qs=>by simp[PV.idss,PV.idss_append q ps qs,Bool.and_assoc]
def Wdv:=@PV.idss_append
def PV.idss_mem (q:Nat→Bool):∀ ps,PV.idss q ps=true↔∀ p∈ps,p.ids q=true
 |[]=>by simp[PV.idss]
 |p::ps=>by simp[PV.idss,PV.idss_mem q ps]
def Wfs:=@PV.idss_mem
inductive OV where
 |pv (p:PV)
 |own (t s n:Nat) (cs:List OV)
inductive Blk where
 |cells (cs:List PV)
 |buf (s t:Nat) (xs:List (List PV)) (sh:Bool)
 |map (es:List (Nat×Value×PV)) (clock:Nat)
 |far (cs:List PV)
 |fb (s t:Nat) (xs:List (List PV))
 |dead
 |fm (l:List (Value×Value))
 |iter (m:Option Nat) (since:Nat) (seen:List Nat) (last:Nat)
 |tr (t s n:Nat) (cs:List OV)
mutual
def OV.ids (q:Nat→Bool):OV→Bool
 |.pv p=>p.ids q
 |.own _ _ _ cs=>OV.idss q cs
def OV.idss (q:Nat→Bool):List OV→Bool
 |[]=>true
 |o::os=>o.ids q&&OV.idss q os
end
mutual
theorem OV.ids_mono {q q':Nat→Bool} (h:∀ j,q j=true→q' j=true):∀(o:OV),o.ids q=true→o.ids q'=true
 |.pv p,hp=>by simp only[OV.ids]at hp⊢;exact PV.ids_mono h p hp
 |.own t s n cs,hp=>by simp only[OV.ids]at hp⊢;exact OV.idss_mono h cs hp
theorem OV.idss_mono {q q':Nat→Bool} (h:∀ j,q j=true→q' j=true):∀(os:List OV),OV.idss q os=true→OV.idss q' os=true
 |[],_=>by simp only[OV.idss]
 |o::os,hp=>by
  simp only[OV.idss,Bool.and_eq_true]at hp⊢;exact⟨OV.ids_mono h o hp.1,OV.idss_mono h os hp.2⟩
end
def Weh:=@OV.idss_mono
abbrev St:=List (Nat×PV)
def St.get (st:St) (k:Nat):Option PV:=st.lookup k
def St.del (st:St) (k:Nat):St:=st.filter λx=>x.1 !=k
def St.put (st:St) (k:Nat) (p:PV):St:=(k,p)::st.del k
def St.putD (st:St) (d:Option Nat) (p:PV):St:=match d with|some k=>st.put k p|none=>st
structure Ctx where
 w0:World
 S0:Nat→Nat→Prop
 β0:List Bnd
 nt:Nat
 gh:List (PV×Value)
structure Ctx.fit (c:Ctx) (n0:Nat):Prop where
 len:c.β0.length≤n0
 gh:∀ x∈c.gh,x.1.ids (λj=>decide (j<n0))=true
def Blk.isCF:Blk→Bool|.cells _=>true|.far _=>true|_=>false
def Blk.isCells:Blk→Bool|.cells _=>true|.fm _=>true|.buf ..=>false|.map ..=>false|.iter ..=>false|.far _=>false|.tr ..=>false|.fb ..=>false|.dead=>false
def Blk.isIn:Blk→Bool|.cells _=>true|.far _=>true|.fm _=>true|.map ..=>true|_=>false
def Blk.at (e:Bnd):Blk→Nat→Prop
 |.cells _,b|.map _ _,b|.iter ..,b|.far _,b|.fm _,b=>e.b=b
 |.dead,_=>False
 |.buf ..,b=>e.v.ownBlock=some b
 |.fb ..,b=>e.v.ownBlock=some b
 |.tr ..,b=>b∈e.bs
def Blk.free (e:Bnd) (b hi:Nat):Blk→Prop
 |.cells _|.map _ _|.iter ..|.far _|.fm _=>e.b≠b
 |.dead=>True
 |.buf s _ xs sh=>e.v.ownBlock=some b→sh=true∧hi≤xs.length*s
 |.fb ..=>e.v.ownBlock≠some b
 |.tr ..=>b∉e.bs
def stab (c:Ctx) (β:List Bnd) (H:List Blk) (w:World) (b hi:Nat):Prop:=
 c.S0 b hi∨(c.w0.heap.size≤b∧b<w.heap.size∧∀(i:Nat) e k,β[i]? = some e→H[i]? = some k→k.free e b hi)
abbrev Glob:=List (Nat×List PV)
structure OkCtx (G:Glob) (c:Ctx):Prop where
 old:∀ b hi,c.S0 b hi→b<c.w0.heap.size∧∀ e∈c.β0,e.b≠b
 glob:∀ g cs,(g,cs)∈G→c.S0 g cs.length∧VRow c.S0 [] c.w0 g 0 cs
 low:∀ e∈c.β0,e.b<c.w0.heap.size
 down:∀ b hi hi',c.S0 b hi→hi'≤hi→c.S0 b hi'
def OkCtx.ghost {G:Glob} {c:Ctx} (h:OkCtx G c) {g:List (PV×Value)}:OkCtx G {c with gh:=g}:=⟨h.old,h.glob,h.low,h.down⟩
def OkCtx.unghost {G:Glob} {c:Ctx} {g:List (PV×Value)} (h:OkCtx G {c with gh:=g}):OkCtx G c:=⟨h.old,h.glob,h.low,h.down⟩
structure Frm (c:Ctx) (w:World):Prop where
 os:w.os=c.w0.os
 tape:w.tape=c.w0.tape
 output:w.output=c.w0.output
 size:c.w0.heap.size≤w.heap.size
 block:∀ b,b<c.w0.heap.size→(∀ e∈c.β0,e.b≠b)→w.heap[b]? = c.w0.heap[b]?
 typ:∀(b:Nat) vs t,World.row c.w0 b vs t→∃ vs',World.row w b vs' t
 drawn:dle c.w0 w
def FmR (w:World) (b:Nat) (l:List (Value×Value)):Prop:=∃ arr clock,w.heap[b]? = some (.map arr clock)∧(∀ x∈arr.toList,x.born<clock)∧(arr.toList.map (·.born)).Nodup∧(arr.toList.map λx=>(x.key,x.val)).Perm l∧(l.map (·.1)).Nodup
mutual
def OVR (S:Nat→Nat→Prop) (β:List Bnd) (w:World) (base:Nat):OV→Value→List Nat→Prop
 |.pv p,u,bs=>VR S β w p u∧bs=[]
 |.own t s n cs,u,bs=>∃ vals bs',World.ownsM w base t s u n vals∧OVRs S β w base cs vals bs'∧bs=u.ownBlock.toList++bs'
def OVRs (S:Nat→Nat→Prop) (β:List Bnd) (w:World) (base:Nat):List OV→List Value→List Nat→Prop
 |[],[],bs=>bs=[]
 |o::os,u::us,bs=>∃ b1 b2,OVR S β w base o u b1∧OVRs S β w base os us b2∧bs=b1++b2
 |_,_,_=>False
end
def BlkR (S:Nat→Nat→Prop) (β:List Bnd) (w:World) (base i:Nat) (e:Bnd):Blk→Prop
 |.cells cs=>PV.idss (λj=>decide (j<i)) cs=true∧∃ vs t,World.row w e.b vs t∧VRs S β w cs vs.toList
 |.buf s t xs _=>e.n=xs.length∧e.s=s∧(∀ x∈xs,x.length=s)∧∃ vals,World.ownsM w base t s e.v xs.length vals∧VRs S [] w xs.flatten vals
 |.fb s t xs=>e.n=xs.length∧e.s=s∧(∀ x∈xs,x.length=s)∧∃ vals,World.ownsM w base t s e.v xs.length vals∧VRs S β w xs.flatten vals
 |.dead=>True
 |.tr t s n cs=>e.n=n∧e.s=s∧e.bs.Nodup∧OVR S β w base (.own t s n cs) e.v e.bs
 |.fm l=>FmR w e.b l
 |.far cs=>∃ vs t,World.row w e.b vs t∧VRs S β w cs vs.toList
 |.map es clock=>∃ arr,w.heap[e.b]? = some (.map arr clock)∧arr.toList.map (λx=>(x.born,x.key))=es.map (λx=>(x.1,x.2.1))∧VRs S β w (es.map (·.2.2)) (arr.toList.map (·.val))
 |.iter m since seen last=>∃ mm,w.heap[e.b]? = some (.mapIter mm since seen.toArray last)∧(match m with|none=>mm=none|some k=>k<i∧∃ f,β[k]? = some f∧mm=some f.b)
def Blk.isCells_in {k:Blk} (h:k.isCells=true):k.isIn=true:=by cases k<;>first|rfl|cases h
def Wbn:=@Blk.isCells_in
def Blk.isIn_at {k:Blk} (h:k.isIn=true) (e:Bnd):k.at e e.b:=by cases k<;>first|rfl|cases h
def Wex:=@Blk.isIn_at
def Wcl:=@Iff.rfl
def Blk.isIn_atE {k:Blk} (h:k.isIn=true) (e:Bnd) (b:Nat):k.at e b↔e.b=b:=by cases k<;>first|exact Wcl|cases h
def Wcx:=@Blk.isIn_atE
def Blk.isIn_free {k:Blk} (h:k.isIn=true) (e:Bnd) (b hi:Nat):k.free e b hi↔e.b≠b:=by cases k<;>first|exact Wcl|cases h
def Wey:=@Blk.isIn_free
def FmR.congr {w w':World} {b:Nat} {l:List (Value×Value)} (hh:w'.heap[b]? = w.heap[b]?) (h:FmR w b l):FmR w' b l:=by
 obtain⟨arr,cl,h1,h2⟩:=h;exact⟨arr,cl,gD,h2⟩
def FmR.lt {w:World} {b:Nat} {l:List (Value×Value)} (h:FmR w b l):b<w.heap.size:=by
 obtain⟨arr,cl,h1,_⟩:=h
 grind
structure RelB (G:Glob) (c:Ctx) (β:List Bnd) (st:St) (H:List Blk) (a:Act) (w:World):Prop where
 ok:OkCtx G c
 len:β.length=H.length
 pre:∃ γ,β=c.β0++γ
 blk:∀(i:Nat) e k,β[i]? = some e→H[i]? = some k→BlkR (stab c β H w) β w c.w0.heap.size i e k
 inj:∀(i j:Nat) e f k l b,i≠j→β[i]? = some e→H[i]? = some k→β[j]? = some f→H[j]? = some l→k.at e b→l.at f b→False
 loc:∀(i:Nat) e k b,c.β0.length≤i→β[i]? = some e→H[i]? = some k→k.at e b→c.w0.heap.size≤b∧b<w.heap.size
 cel:∀(i:Nat),i<c.β0.length→∃ k,H[i]? = some k∧k.isIn=true
 slots:∀ x∈st,x.1<c.nt∧VR (stab c β H w) β w x.2 (a.tmps.getD x.1 undef)
 nt:a.tmps.size=c.nt
 dfr:a.defers=[]
 frm:Frm c w
 gh:∀ x∈c.gh,VR (stab c β H w) β w x.1 x.2
def Wcf:=@List.mem_cons_of_mem
def Zgi {α:Type}:∀(l:List (Nat×α)) k p,l.lookup k=some p→(k,p)∈l
 |[],_,_,h=>gD
 |(j,q)::l,k,p,h=>by
  simp  [List.lookup]at h
  split at h
  rename_i hk
  have:k=j:=gD
  subst this;cases h;simp;exact Wcf _ (Zgi l k p h)
section
variable {P:Program} {G:Glob} {c:Ctx} {β:List Bnd} {st:St} {H:List Blk} {a:Act} {w:World}
def Zk4 {w w':World} {b o:Nat} (h:w'.heap[b]? = w.heap[b]?):w'.cell? ⟨b,o,none⟩=w.cell? ⟨b,o,none⟩:=by simp[World.cell?,h]
def RelB.ext0 (h:RelB G c β st H a w):Ext c.S0 c.w0 (stab c β H w) w:=
 ⟨λ_ _ hs=>.inl hs,λb hi o v hs _ hv=>by
  obtain⟨h1,h2⟩:=h.ok.old b hi hs
  rw[Zk4 (h.frm.block b h1 h2)];omega⟩
def OkCtx.stab (h:OkCtx G c) {b hi hi':Nat} (hs:stab c β H w b hi) (hl:hi'≤hi):stab c β H w b hi':=by
 rcases hs with hs|⟨h1,h2,h3⟩
 exact .inl (h.down b hi hi' hs hl)
 refine .inr ⟨h1,h2,λi e k g1 g2=>?_⟩
 have:=h3 i e k g1 g2
 cases k with
 |cells cs=>exact this
 |map es cl=>exact this
 |far cs=>exact this
 |fb s t xs=>exact this
 |tr t s n cs=>exact this
 |dead=>trivial
 |fm l=>exact this
 |iter m since seen last=>exact this
 |buf s t xs sh=>exact λhb=>⟨(this hb).1,Wbj hl (this hb).2⟩
def opd (G:Glob) (st:St):Operand→Option PV
 |.tmp t=>st.get t
 |.const v=>some (.sc v)
 |.global g=>(G.lookup g).map λcs=>.ro cs 0
 |.func f=>some (.sc (.func (.func f) #[] #[]))
def Wg:=@Option.map_eq_some_iff
def RelB.opd (h:RelB G c β st H a w) {x:Operand} {p:PV} (hx:opd G st x=some p):VR (stab c β H w) β w p (a.eval x):=by
 cases x with
 |tmp t=>exact(h.slots (t,p) (Zgi st t p hx)).2
 |const v=>cases hx;simp  [VR,Act.eval]
 |func f=>cases hx;simp  [VR,Act.eval]
 |global g=>
  simp  [AM.opd,Wg]at hx
  obtain⟨cs,h1,rfl⟩:=hx;obtain⟨h2,h3⟩:=h.ok.glob g cs (Zgi G g cs h1);exact⟨g,0,rfl,.inl gD,Wf1 h.ext0 (W3 _ _) g cs.length h2 cs 0 om (Wcv cs) h3⟩
def wpv (P:Program) (o:Oper) (a:Act) (w:World) (K:Value→World→Prop):Prop:=
 match(execOp a.eval o).run P w with
 |.ok (.value v) w'=>K v w'
 |.ok .skip w'=>K undef w'
 |.ok (.enter f args) w'=>Calls P f args w' λe w''=>∃ v,e=.returned v∧K v w''
 |_=>False
def RelV (G:Glob) (c:Ctx) (β:List Bnd) (H:List Blk) (w:World) (st:St) (H':List Blk) (a:Act) (p:PV) (v:Value) (w':World):Prop:=
 ∃ β',RelB G c β' st H' a w'∧VR (stab c β' H' w') β' w' p v∧BExt (λ_=>true) β β'∧Ext (stab c β H w) w (stab c β' H' w') w'
def OpT (P:Program) (G:Glob) (n0:Nat) (o:Oper) (st:St) (H:List Blk) (p:PV) (H':List Blk):Prop:=
 ∀ c a w β,c.β0.length≤n0→RelB G c β st H a w→wpv P o a w (λv w'=>RelV G c β H w st H' a p v w')
def Zh4 {o:Oper} {K K':Value→World→Prop} (h:wpv P o a w K) (hk:∀ v w',K v w'→K' v w'):wpv P o a w K':=by
 unfold wpv at h⊢
 split at h
 exact hk _ _ h;exact hk _ _ h
 exact h.mono λ_ _ ⟨v,h1,h2⟩=>⟨v,h1,hk _ _ h2⟩
 omega
def OpW (P:Program) (G:Glob) (n0:Nat) (o:Oper) (st:St) (H:List Blk) (p:PV) (H':List Blk):Prop:=
 ∀ c a w β,c.β0.length≤n0→RelB G c β st H a w→wpv P o a w (λv w'=>∃ β',RelB G c β' st H' a w'∧VR (stab c β' H' w') β' w' p v)
def OpT.weak {n0:Nat} {o:Oper} {p:PV} {H':List Blk} (h:OpT P G n0 o st H p H'):OpW P G n0 o st H p H':=λc a w β h0 hr=>Zh4 (h c a w β h0 hr) λ_ _ ⟨β',h1,h2,_,_⟩=>⟨β',h1,h2⟩
def Wj:=@List.mem_append
def RelB.ghost (h:RelB G c β st H a w) {g:List (PV×Value)} (hg:∀ x∈g,VR (stab c β H w) β w x.1 x.2):RelB G {c with gh:=g++c.gh} β st H a w:=
 ⟨h.ok.ghost,h.len,h.pre,h.blk,h.inj,h.loc,h.cel,h.slots,h.nt,h.dfr,⟨h.frm.os,h.frm.tape,h.frm.output,h.frm.size,h.frm.block,h.frm.typ,h.frm.drawn⟩,λx hx=>by
  rcases Wj.1 hx with hx|hx
  exact hg x hx
  exact h.gh x hx⟩
def RelB.unghost {g:List (PV×Value)} (h:RelB G {c with gh:=g++c.gh} β st H a w):RelB G c β st H a w∧∀ x∈g,VR (stab c β H w) β w x.1 x.2:=
 ⟨⟨h.ok.unghost,h.len,h.pre,h.blk,h.inj,h.loc,h.cel,h.slots,h.nt,h.dfr,⟨h.frm.os,h.frm.tape,h.frm.output,h.frm.size,h.frm.block,h.frm.typ,h.frm.drawn⟩,λx hx=>h.gh x gD⟩,λx hx=>h.gh x gD⟩
def W9:=@List.mem_map
def Wcm:=@List.mem_map_of_mem
def OpW.at {n0:Nat} {o:Oper} {st':St} {p:PV} {H':List Blk} (h:OpW P G n0 o st H p H') (hs:∀ x∈st,x∈st'):OpW P G n0 o st' H p H':=by
 intro c a w β h0 hr;have hr':RelB G c β st H a w:=⟨hr.ok,hr.len,hr.pre,hr.blk,hr.inj,hr.loc,hr.cel,λx hx=>hr.slots x (hs x hx),hr.nt,hr.dfr,hr.frm,hr.gh⟩
 refine Zh4 (h {c with gh:=(st'.map λx=>(x.2,a.tmps.getD x.1 undef))++c.gh} a w β h0 (hr'.ghost (g:=st'.map λx=>(x.2,a.tmps.getD x.1 undef)) (λx hx=>by
  obtain⟨y,hy,rfl⟩:=W9.1 hx
  exact(hr.slots y hy).2))) λv w' ⟨β',h1,h2⟩=>?_
 obtain⟨h3,h4⟩:=h1.unghost;exact⟨β',⟨h3.ok,h3.len,h3.pre,h3.blk,h3.inj,h3.loc,h3.cel,λx hx=>⟨(hr.slots x hx).1,h4 _ (Wcm hx)⟩,h3.nt,h3.dfr,h3.frm,h3.gh⟩,h2⟩
def Wd9:=@Array.getD_eq_getD_getElem?
def Zahr {a:Act} {d:Nat} {v:Value} (k:Nat) (hd:d<a.tmps.size):(a.put (some d) v).tmps.getD k undef=if k=d then v else a.tmps.getD k undef:=by
 simp  [Act.put,Wd9]
 grind
def W1:=@List.mem_cons
def Wab:=@List.mem_filter
def RelB.put (h:RelB G c β st H a w) {p:PV} {v:Value} (hv:VR (stab c β H w) β w p v) (d:Option Nat) (hd:∀ k,d=some k→k<c.nt) :
  RelB G c β (st.putD d p) H (a.put d v) w:=by
 cases d;exact h;rename_i d
 have hlt:d<a.tmps.size:=by rw[h.nt];grind
 refine⟨h.ok,h.len,h.pre,h.blk,h.inj,h.loc,h.cel,?_,by simp[Act.put,h.nt],h.dfr,h.frm,h.gh⟩
 intro x hx;rw[Zahr _ hlt]
 simp  [St.putD,St.put,St.del,W1,Wab]at hx
 rcases hx with rfl|⟨hx,hne⟩
 exact⟨hd _ rfl,gD⟩
 have hne':=by simpa using hne
 rw[if_neg hne'];exact h.slots x hx
def RelB.sub (h:RelB G c β st H a w) {st':St} (hs:∀ x∈st',x∈st):RelB G c β st' H a w:=
 ⟨h.ok,h.len,h.pre,h.blk,h.inj,h.loc,h.cel,λx hx=>h.slots x (hs x hx),h.nt,h.dfr,h.frm,h.gh⟩
def VRow.cells {S:Nat→Nat→Prop} {β:List Bnd} {w:World} {b:Nat}:∀ ps o,VRow S β w b o ps →
  ∃ us,VRs S β w ps us∧∀ j u,us[j]? = some u→w.cell? ⟨b,o+j,none⟩=some u
 |[],o,_=>⟨[],by simp  [VRs],sM⟩
 |p::ps,o,h=>by
  obtain⟨⟨u,h1,h2⟩,h3⟩:=h;obtain⟨us,h4,h5⟩:=VRow.cells ps (o+1) h3
  refine⟨u::us,⟨h2,h4⟩,λj v hj=>?_⟩
  grind
def Wge:=@VRow.cells
def VRow.mk {S:Nat→Nat→Prop} {β:List Bnd} {w:World} {b:Nat}:∀ ps us o,VRs S β w ps us →
  (∀ j u,us[j]? = some u→w.cell? ⟨b,o+j,none⟩=some u)→VRow S β w b o ps
 |[],_,o,_,_=>by simp  [VRow]
 |_::_,[],_,h,_=>by simp  [VRs]at h
 |p::ps,u::us,o,h,hc=>by
  refine⟨⟨u,by simpa using hc 0 u rfl,h.1⟩,VRow.mk ps us (o+1) h.2 λj v hj=>?_⟩
  have:=hc (j+1) v gD
  grind
def VRow.drop {S:Nat→Nat→Prop} {β:List Bnd} {w:World} {b:Nat}:∀ ps o n,VRow S β w b o ps→VRow S β w b (o+n) (ps.drop n)
 |ps,o,0,h=>gD
 |[],o,n+1,h=>by simp[VRow]
 |p::ps,o,n+1,h=>by
  have:=VRow.drop ps (o+1) n h.2
  grind
def PV.vals:List PV→Option (List Value)
 |[]=>some []
 |.sc v::r=>(PV.vals r).map (v::·)
 |_::_=>none
def mkAgg (cs:List PV):PV:=match PV.vals cs with|some vs=>.sc (.agg vs.toArray)|none=>.agg cs
def PV.vals_eq:∀ cs vs,PV.vals cs=some vs→cs=vs.map .sc
 |[],vs,h=>by cases h;rfl
 |.sc v::r,vs,h=>by
  simp  [PV.vals,Wg]at h
  obtain⟨vs',h1,rfl⟩:=h;simp[PV.vals_eq r vs' h1]
 |.agg _::_,_,h|.tup _::_,_,h|.ptr _ _::_,_,h|.ro _ _::_,_,h|.sl _ _::_,_,h|.own _ _::_,_,h|.ept _ _ _ _::_,_,h|.mp _::_,_,h|.z::_,_,h|.ln _::_,_,h|.vw _ _ _::_,_,h|.ow _ _ _ _::_,_,h|.oc _ _ _::_,_,h|.op _ _ _::_,_,h|.fn _ _::_,_,h=>by simp[PV.vals]at h
def VR.mkAgg {S:Nat→Nat→Prop} {β:List Bnd} {w:World} {cs:List PV} {us:List Value} (h:VRs S β w cs us):VR S β w (mkAgg cs) (.agg us.toArray):=by
 unfold AM.mkAgg;cases hv:PV.vals cs;simp  [VR];grind;rename_i vs;simp  [VR];have:=PV.vals_eq cs vs hv;subst this;rw[Wgv vs us h]
def Whw:=@VR.mkAgg
def Zti {u:Value} (h:u.oneCell'=true):u.cells.toList=[u]:=by
 cases u<;>first|rfl|(simp[Value.oneCell']at h)
def PV.cells:PV→List PV
 |.agg cs=>cs
 |.sc v=>v.cells.toList.map .sc
 |p=>[p]
def VR.cells {S:Nat→Nat→Prop} {β:List Bnd} {w:World} {p:PV} {u:Value} (h:VR S β w p u):VRs S β w p.cells u.cells.toList:=by
 cases p with
 |sc v=>cases h;exact VRs.scs _
 |agg cs=>obtain⟨us,rfl,h⟩:=h;exact h
 |tup cs=>have h':=h;obtain⟨us,rfl,_⟩:=h;exact⟨h',trivial⟩
 |ptr i off=>have h':=h;obtain⟨us,_,rfl⟩:=h;exact⟨h',trivial⟩
 |ro cs off=>have h':=h;obtain⟨_,_,rfl,_⟩:=h;exact⟨h',trivial⟩
 |sl s xs=>have h':=h;obtain⟨_,_,rfl,_⟩:=h;exact⟨h',trivial⟩
 |mp i=>have h':=h;obtain⟨us,_,rfl⟩:=h;exact⟨h',trivial⟩
 |fn f cs=>have h':=h;obtain⟨us,rfl,_⟩:=h;exact⟨h',trivial⟩
 |own i n=>have h':=h;simp only[Zti (sl_one h.1)];exact⟨h',trivial⟩
 |op i n k=>have h':=h;simp only[PV.cells,Zti h.1,VRs];exact⟨h',trivial⟩
 |oc i n k=>have h':=h;simp only[PV.cells,Zti h.1,VRs];exact⟨h',trivial⟩
 |ow i n lo hi=>have h':=h;simp only[Zti h.1];exact⟨h',trivial⟩
 |z=>have h':=h;obtain⟨_,rfl⟩:=h;exact⟨h',trivial⟩
 |ln n=>have h':=h;obtain⟨_,_,rfl⟩:=h;exact⟨h',trivial⟩
 |vw i off n=>have h':=h;obtain⟨_,_,_,_,_,rfl,_⟩:=h;exact⟨h',trivial⟩
 |ept i n k off=>simp only[PV.cells,Zti h.1,VRs];grind
end
section
variable {P:Program} {G:Glob} {c:Ctx} {β:List Bnd} {st:St} {H:List Blk} {a:Act} {w:World}
def RelB.move (h:RelB G c β st H a w) {β':List Bnd} {H':List Blk} {w':World} (hx:Ext (stab c β H w) w (stab c β' H' w') w') (hb:BExt (λ_=>true) β β')
  (len:β'.length=H'.length) (pre:∃ γ,β'=c.β0++γ) (blk:∀ i e k,β'[i]? = some e→H'[i]? = some k→BlkR (stab c β' H' w') β' w' c.w0.heap.size i e k)
  (inj:∀(i j:Nat) e f k l b,i≠j→β'[i]? = some e→H'[i]? = some k→β'[j]? = some f→H'[j]? = some l→k.at e b→l.at f b→False)
  (loc:∀ i e k b,c.β0.length≤i→β'[i]? = some e→H'[i]? = some k→k.at e b→c.w0.heap.size≤b∧b<w'.heap.size)
  (cel:∀ i,i<c.β0.length→∃ k,H'[i]? = some k∧k.isIn=true) (frm:Frm c w'):RelB G c β' st H' a w':=
 ⟨h.ok,len,pre,blk,inj,loc,cel,λx hx'=>⟨(h.slots x hx').1,Wci hx hb (h.slots x hx').2⟩,h.nt,h.dfr,frm,λx hx'=>Wci hx hb (h.gh x hx')⟩
def Zae2 {w w':World} {base:Nat} {e:TypeId} {size:Nat} {v:Value} {n:Nat} {xs:List Value} (hs:∀ g,v.ownBlock=some g→w'.heap[g]? = w.heap[g]?) (h:World.ownsM w base e size v n xs):World.ownsM w' base e size v n xs:=by
 obtain⟨h6,h7⟩:=h
 refine⟨h6,?_⟩
 rcases h7 with h7|⟨g,cap,cur,e1,e2,e3,e4⟩
 exact .inl h7;exact .inr ⟨g,cap,cur,e1,e2,Zg7 (hs g (by simp[e1,Value.ownBlock])) e3,e4⟩
mutual
theorem OVR.ext {S S':Nat→Nat→Prop} {β β':List Bnd} {w:World} {base:Nat} (hx:Ext S w S' w) {q:Nat→Bool} (hb:BExt q β β') :
  ∀(o:OV) (u:Value) (bs:List Nat),o.ids q=true→OVR S β w base o u bs→OVR S' β' w base o u bs
 |.pv p,u,bs,hq,h=>by
  simp only[OVR]at h⊢;exact⟨VR.ext hx hb p u (by simpa only[OV.ids]using hq) h.1,h.2⟩
 |.own t s n cs,u,bs,hq,h=>by
  simp only[OVR]at h⊢;obtain⟨vals,bs',h1,h2,h3⟩:=h;exact⟨vals,bs',h1,OVRs.ext hx hb cs vals bs' (by simpa only[OV.ids]using hq) h2,h3⟩
theorem OVRs.ext {S S':Nat→Nat→Prop} {β β':List Bnd} {w:World} {base:Nat} (hx:Ext S w S' w) {q:Nat→Bool} (hb:BExt q β β') :
  ∀(os:List OV) (us:List Value) (bs:List Nat),OV.idss q os=true→OVRs S β w base os us bs→OVRs S' β' w base os us bs
 |[],[],_,_,h=>by simpa only[OVRs]using h
 |o::os,u::us,bs,hq,h=>by
  simp only[OV.idss,Bool.and_eq_true]at hq;simp only[OVRs]at h⊢;obtain⟨b1,b2,h1,h2,h3⟩:=h;exact⟨b1,b2,OVR.ext hx hb o u b1 hq.1 h1,OVRs.ext hx hb os us b2 hq.2 h2,h3⟩
 |[],_::_,_,_,h=>by simp only[OVRs]at h
 |_::_,[],_,_,h=>by simp only[OVRs]at h
end
mutual
theorem OVR.keep {S S':Nat→Nat→Prop} {β β':List Bnd} {w w':World} {base:Nat} (hx:Ext S w S' w') (hb:BExt (λ_=>true) β β') :
  ∀(o:OV) (u:Value) (bs:List Nat),(∀ b∈bs,w'.heap[b]? = w.heap[b]?)→OVR S β w base o u bs→OVR S' β' w' base o u bs
 |.pv p,u,bs,_,h=>by
  simp only[OVR]at h⊢;exact⟨VR.ext_all hx hb h.1,h.2⟩
 |.own t s n cs,u,bs,hs,h=>by
  simp only[OVR]at h⊢;obtain⟨vals,bs',h1,h2,rfl⟩:=h;exact⟨vals,bs',Zae2 (λg hg=>hs g (by simp[hg])) h1,OVRs.keep hx hb cs vals bs' (λb hb=>hs b (by simp[hb])) h2,rfl⟩
theorem OVRs.keep {S S':Nat→Nat→Prop} {β β':List Bnd} {w w':World} {base:Nat} (hx:Ext S w S' w') (hb:BExt (λ_=>true) β β') :
  ∀(os:List OV) (us:List Value) (bs:List Nat),(∀ b∈bs,w'.heap[b]? = w.heap[b]?)→OVRs S β w base os us bs→OVRs S' β' w' base os us bs
 |[],[],_,_,h=>by simpa only[OVRs]using h
 |o::os,u::us,bs,hs,h=>by
  simp only[OVRs]at h⊢;obtain⟨b1,b2,h1,h2,rfl⟩:=h;exact⟨b1,b2,OVR.keep hx hb o u b1 (λb hb=>hs b (by simp[hb])) h1,OVRs.keep hx hb os us b2 (λb hb=>hs b (by simp[hb])) h2,rfl⟩
 |[],_::_,_,_,h=>by simp only[OVRs]at h
 |_::_,[],_,_,h=>by simp only[OVRs]at h
end
def Wf2:=@OVR.keep
def Wcq:=@OVRs.keep
mutual
theorem OVR.lt {S:Nat→Nat→Prop} {β:List Bnd} {w:World} {base:Nat}:∀(o:OV) (u:Value) (bs:List Nat),OVR S β w base o u bs→∀ b∈bs,base≤b∧b<w.heap.size
 |.pv p,u,bs,h,b,hb=>by
  simp only[OVR]at h;rw[h.2]at hb;cases hb
 |.own t s n cs,u,bs,h,b,hb=>by
  simp only[OVR]at h;obtain⟨vals,bs',h1,h2,rfl⟩:=h
  rcases List.mem_append.1 hb with hb|hb
  ·exact Z47 h1 b (by simpa using hb)
  ·exact OVRs.lt cs vals bs' h2 b hb
theorem OVRs.lt {S:Nat→Nat→Prop} {β:List Bnd} {w:World} {base:Nat}:∀(os:List OV) (us:List Value) (bs:List Nat),OVRs S β w base os us bs→∀ b∈bs,base≤b∧b<w.heap.size
 |[],[],_,h,b,hb=>by
  simp only[OVRs]at h;rw[h]at hb;cases hb
 |o::os,u::us,bs,h,b,hb=>by
  simp only[OVRs]at h;obtain⟨b1,b2,h1,h2,rfl⟩:=h
  rcases List.mem_append.1 hb with hb|hb
  ·exact OVR.lt o u b1 h1 b hb
  ·exact OVRs.lt os us b2 h2 b hb
 |[],_::_,_,h,_,_=>by simp only[OVRs]at h
 |_::_,[],_,h,_,_=>by simp only[OVRs]at h
end
def BlkR.keep {S S':Nat→Nat→Prop} {β β':List Bnd} {w w':World} {base i:Nat} {e:Bnd} {k:Blk} (hx:Ext S w S' w') (hb:BExt (λ_=>true) β β')
  (hs:∀ b,k.at e b→w'.heap[b]? = w.heap[b]?) (h:BlkR S β w base i e k):BlkR S' β' w' base i e k:=by
 cases k with
 |cells cs=>
  obtain⟨h1,vs,t,h2,h3⟩:=h;exact⟨h1,vs,t,Zg7 (hs e.b rfl) h2,Wal hx hb h3⟩
 |map es cl=>
  obtain⟨arr,h2,h3,h4⟩:=h;exact⟨arr,by rw[hs e.b rfl];grind,h3,Wal hx hb h4⟩
 |far cs=>
  obtain⟨vs,t,h2,h3⟩:=h;exact⟨vs,t,Zg7 (hs e.b rfl) h2,Wal hx hb h3⟩
 |dead=>trivial
 |fm l=>exact FmR.congr (hs e.b rfl) h
 |iter m since seen last=>
  obtain⟨mm,h1,h2⟩:=h
  refine⟨mm,by rw[hs e.b rfl];omega,?_⟩
  cases m;exact h2;rename_i k;obtain⟨h3,f,h4,h5⟩:=h2;obtain⟨f',h6,h7,_⟩:=hb k f rfl h4
  grind
 |buf s t xs sh=>
  obtain⟨h1,h2,h3,vals,h4,h5⟩:=h
  refine⟨h1,h2,h3,vals,?_,Wal hx (W3 _ _) h5⟩
  obtain⟨h6,h7⟩:=h4
  refine⟨h6,?_⟩
  rcases h7 with h7|⟨g,cap,cur,e1,e2,e3,e4⟩
  exact .inl h7;exact .inr ⟨g,cap,cur,e1,e2,Zg7 (hs g (by simp[Blk.at,e1,Value.ownBlock])) e3,e4⟩
 |fb s t xs=>
  obtain⟨h1,h2,h3,vals,h4,h5⟩:=h
  refine⟨h1,h2,h3,vals,?_,Wal hx hb h5⟩
  obtain⟨h6,h7⟩:=h4
  refine⟨h6,?_⟩
  rcases h7 with h7|⟨g,cap,cur,e1,e2,e3,e4⟩
  exact .inl h7;exact .inr ⟨g,cap,cur,e1,e2,Zg7 (hs g (by simp[Blk.at,e1,Value.ownBlock])) e3,e4⟩
 |tr t s n cs=>exact⟨h.1,h.2.1,h.2.2.1,Wf2 hx hb _ _ _ hs h.2.2.2⟩
def Frm.alloc (h:Frm c w) (o:Obj):Frm c (w.alloc o):=
 ⟨h.os,h.tape,h.output,by have:=h.size;simp;omega,λb hb he=>by
  have:=h.size
  rw[heap_alloc_old w o b om];exact h.block b hb he,λb vs t hb=>by
  obtain⟨vs',h1⟩:=h.typ b vs t hb
  exact⟨vs',Zg7 (heap_alloc_old w o b (Zyz h1)) h1⟩,h.drawn⟩
def Wcr:=@Nat.le_add_right
def Frm.drew (h:Frm c w):Frm c w.drew:=⟨h.os,h.tape,h.output,h.size,h.block,h.typ,Wgu h.drawn (dle.of (Wcr _ _))⟩
def at_lt {S:Nat→Nat→Prop} {base i:Nat} {e:Bnd} {k:Blk} {b:Nat} (h:BlkR S β w base i e k) (hb:k.at e b):b<w.heap.size:=by
 cases k with
 |cells cs=>
  obtain⟨_,vs,t,h2,_⟩:=h;cases hb;exact Zyz h2
 |map es cl=>
  obtain⟨arr,h2,_⟩:=h
  simp  [Blk.at]at hb
  grind
 |far cs=>
  obtain⟨vs,t,h2,_⟩:=h;cases hb;exact Zyz h2
 |dead=>cases hb
 |fm l=>
  cases hb;exact FmR.lt h
 |iter m since seen last=>
  obtain⟨mm,h2,_⟩:=h
  simp  [Blk.at]at hb
  grind
 |buf s t xs sh=>
  obtain⟨_,_,_,vals,h4,_⟩:=h;exact((Z47 h4) b hb).2
 |fb s t xs=>
  obtain⟨_,_,_,vals,h4,_⟩:=h;exact((Z47 h4) b hb).2
 |tr t s n cs=>exact(OVR.lt _ _ _ h.2.2.2 b hb).2
def Blk.free_of_not_at {k:Blk} {e:Bnd} {b hi:Nat} (h:¬k.at e b):k.free e b hi:=by
 cases k with
 |dead=>trivial
 |buf s t xs sh=>exact λhb=>absurd hb h
 |cells cs=>exact h
 |map es cl=>exact h
 |far cs=>exact h
 |fb s t xs=>exact h
 |tr t s n cs=>exact h
 |fm l=>exact h
 |iter m since seen last=>exact h
def Wdl:=@Blk.free_of_not_at
def Zzx {w:World} {base base':Nat} {e:TypeId} {size:Nat} {v:Value} {n:Nat} {xs:List Value} (hb:base'≤base) (h:World.ownsM w base e size v n xs):World.ownsM w base' e size v n xs:=by
 obtain⟨h1,h2⟩:=h
 refine⟨h1,?_⟩
 rcases h2 with h2|⟨g,cap,cur,e1,e2,e3⟩
 exact .inl h2;exact .inr ⟨g,cap,cur,e1,Wbj hb e2,e3⟩
mutual
theorem OVR.base {S:Nat→Nat→Prop} {β:List Bnd} {w:World} {base base':Nat} (hb:base'≤base):∀(o:OV) (u:Value) (bs:List Nat),OVR S β w base o u bs→OVR S β w base' o u bs
 |.pv p,u,bs,h=>by simpa only[OVR]using h
 |.own t s n cs,u,bs,h=>by
  simp only[OVR]at h⊢;obtain⟨vals,bs',h1,h2,h3⟩:=h;exact⟨vals,bs',Zzx hb h1,OVRs.base hb cs vals bs' h2,h3⟩
theorem OVRs.base {S:Nat→Nat→Prop} {β:List Bnd} {w:World} {base base':Nat} (hb:base'≤base):∀(os:List OV) (us:List Value) (bs:List Nat),OVRs S β w base os us bs→OVRs S β w base' os us bs
 |[],[],_,h=>by simpa only[OVRs]using h
 |o::os,u::us,bs,h=>by
  simp only[OVRs]at h⊢;obtain⟨b1,b2,h1,h2,h3⟩:=h;exact⟨b1,b2,OVR.base hb o u b1 h1,OVRs.base hb os us b2 h2,h3⟩
 |[],_::_,_,h=>by simp only[OVRs]at h
 |_::_,[],_,h=>by simp only[OVRs]at h
end
def Z76 {e:Bnd} {t s n:Nat} {cs:List OV} {b hi:Nat} (h:¬(Blk.tr t s n cs).at e b):(Blk.tr t s n cs).free e b hi:=h
def Wcg:=@World.cell?_alloc_lt
def Wb8:=@World.block_lt_of_cell?
def RelB.anon (h:RelB G c β st H a w) (o:Obj):RelB G c β st H a (w.alloc o)∧Ext (stab c β H w) w (stab c β H (w.alloc o)) (w.alloc o)∧stab c β H (w.alloc o) w.heap.size=λ_=>True:=by
 have hx:Ext (stab c β H w) w (stab c β H (w.alloc o)) (w.alloc o):=by
  refine⟨λb hi hs=>?_,λb hi o' v hs _ hv=>?_⟩
  rcases hs with hs|⟨h1,h2,h3⟩
  exact .inl hs;exact .inr ⟨h1,sO,h3⟩;rw[Wcg];exact hv;exact Wb8 w _ hv
 refine⟨h.move hx (W3 _ _) h.len h.pre (λi e k h1 h2=>?_) h.inj (λi e k b h0 h1 h2 h3=>?_) h.cel (h.frm.alloc o),hx,?_⟩
 exact BlkR.keep hx (W3 _ _) (λb hb=>heap_alloc_old w o b (at_lt (h.blk i e k h1 h2) hb)) (h.blk i e k h1 h2);have:=h.loc i e k b h0 h1 h2 h3;simp;omega
 funext hi
 simp
 refine .inr ⟨h.frm.size,sM,λi e k h1 h2=>?_⟩
 have h3:=h.blk i e k h1 h2
 cases k with
 |cells cs=>exact λhb=>by have:=at_lt h3 (b:=w.heap.size) (by simp[Blk.at,hb]);omega
 |map es cl=>exact λhb=>by have:=at_lt h3 (b:=w.heap.size) (by simp[Blk.at,hb]);omega
 |far cs=>exact λhb=>by have:=at_lt h3 (b:=w.heap.size) (by simp[Blk.at,hb]);omega
 |dead=>trivial
 |fm l=>exact λhb=>by have:=at_lt h3 (b:=w.heap.size) (by simp[Blk.at,hb]);omega
 |iter m since seen last=>exact λhb=>by have:=at_lt h3 (b:=w.heap.size) (by simp[Blk.at,hb]);omega
 |buf s t xs sh=>exact λhb=>by have:=at_lt h3 (b:=w.heap.size) (by simp[Blk.at,hb]);omega
 |fb s t xs=>exact λhb=>by have:=at_lt h3 (b:=w.heap.size) (by simp[Blk.at,hb]);omega
 |tr t s n cs=>exact Z76 λhb=>by have:=at_lt h3 hb;omega
def Ext.drew {S:Nat→Nat→Prop} (w:World):Ext S w S w.drew:=⟨λ_ _ h=>h,λ_ _ _ _ _ _ h=>h⟩
def RelB.drew (h:RelB G c β st H a w):RelB G c β st H a w.drew:=by
 have hx:Ext (stab c β H w) w (stab c β H w.drew) w.drew:=Ext.drew w;exact h.move hx (W3 _ _) h.len h.pre (λi e k h1 h2=>BlkR.keep hx (W3 _ _) (λ_ _=>rfl) (h.blk i e k h1 h2)) h.inj h.loc h.cel h.frm.drew
def BExt.app (β γ:List Bnd):BExt (λ_=>true) β (β++γ):=λi e _ h=>
 ⟨e,gD,rfl,rfl,Ws _,λ_=>rfl⟩
def Wbz:=@BExt.app
def Zcj {α:Type} {l:List α} {x y:α} {i:Nat} (h:(l++[x])[i]? = some y):(l[i]? = some y∧i<l.length)∨(i=l.length∧y=x):=by
 grind
def Wap:=@List.append_assoc
def RelB.alloc (h:RelB G c β st H a w) {cs:List PV} {us:List Value} (hv:VRs (stab c β H w) β w cs us) (hi:PV.idss (λj=>decide (j<H.length)) cs=true) (t:TypeId) :
  RelB G c (β++[⟨w.heap.size,undef,0,0,[]⟩]) st (H++[.cells cs]) a (w.alloc (.cells us.toArray t)) ∧
  Ext (stab c β H w) w (stab c (β++[⟨w.heap.size,undef,0,0,[]⟩]) (H++[.cells cs]) (w.alloc (.cells us.toArray t))) (w.alloc (.cells us.toArray t)):=by
 have hx:Ext (stab c β H w) w (stab c (β++[⟨w.heap.size,undef,0,0,[]⟩]) (H++[.cells cs]) (w.alloc (.cells us.toArray t))) (w.alloc (.cells us.toArray t)):=by
  refine⟨λb hi hs=>?_,λb hi o' v hs _ hv=>?_⟩
  rcases hs with hs|⟨h1,h2,h3⟩
  exact .inl hs
  refine .inr ⟨h1,sO,λi e k g1 g2=>?_⟩
  rcases Zcj g1 with⟨g1,_⟩|⟨g1,rfl⟩
  rcases Zcj g2 with⟨g2,_⟩|⟨g2,rfl⟩
  exact h3 i e k g1 g2;have:=h.len;omega
  rcases Zcj g2 with⟨g2,_⟩|⟨g2,rfl⟩
  have:=h.len;omega;simp only[Blk.free];omega;rw[Wcg];exact hv;exact Wb8 w _ hv
 have hb:=Wbz β [⟨w.heap.size,undef,0,0,[]⟩]
 have both:∀ {i:Nat} {e:Bnd} {k:Blk},(β++[(⟨w.heap.size,undef,0,0,[]⟩:Bnd)])[i]? = some e→(H++[Blk.cells cs])[i]? = some k →
   (β[i]? = some e∧H[i]? = some k)∨(i=H.length∧e=⟨w.heap.size,undef,0,0,[]⟩∧k=.cells cs):=by
  intro i e k g1 g2
  rcases Zcj g1 with⟨g1,l1⟩|⟨l1,rfl⟩
  rcases Zcj g2 with⟨g2,_⟩|⟨g2,_⟩
  exact .inl ⟨g1,g2⟩;have:=h.len;omega
  rcases Zcj g2 with⟨_,g3⟩|⟨g3,g4⟩
  have:=h.len;omega;exact .inr ⟨g3,rfl,g4⟩
 refine⟨h.move hx hb (by simp[h.len]) ?_ (λi e k h1 h2=>?_) (λi j e f k l b hij h1 h2 h3 h4 h5 h6=>?_) (λi e k b h0 h1 h2 h3=>?_) (λi hi=>?_) (h.frm.alloc _),hx⟩
 obtain⟨γ,hγ⟩:=h.pre;exact⟨γ++[⟨w.heap.size,undef,0,0,[]⟩],by rw[hγ,Wap]⟩
 rcases both h1 h2 with⟨g1,g2⟩|⟨rfl,rfl,rfl⟩
 exact BlkR.keep hx hb (λb hb=>heap_alloc_old w _ b (at_lt (h.blk i e k g1 g2) hb)) (h.blk i e k g1 g2);exact⟨hi,us.toArray,t,Zy0 w _ _,Wal hx hb (by simpa using hv)⟩
 rcases both h1 h2 with⟨g1,g2⟩|⟨rfl,rfl,rfl⟩<;>rcases both h3 h4 with⟨g3,g4⟩|⟨rfl,rfl,rfl⟩
 exact h.inj i j e f k l b hij g1 g2 g3 g4 h5 h6;have:=at_lt (h.blk i e k g1 g2) h5;simp only[Blk.at]at h6;omega;have:=at_lt (h.blk j f l g3 g4) h6;simp only[Blk.at]at h5;omega;exact hij rfl
 rcases both h1 h2 with⟨g1,g2⟩|⟨rfl,rfl,rfl⟩
 have:=h.loc i e k b h0 g1 g2 h3;simp;omega;simp only[Blk.at]at h3;have:=h.frm.size;simp;omega;obtain⟨cs',hc,hcf⟩:=h.cel i hi
 grind
def We:=@List.getElem?_eq_some_iff
def Wea:=@size_setRow
def Wbt:=@Array.getElem?_modify
def Wcb:=@Ne.symm
def W6:=@List.getElem?_set_self
def RelB.write (h:RelB G c β st H a w) {i:Nat} {e:Bnd} {cs cs':List PV} (he:β[i]? = some e) (hk:H[i]? = some (.cells cs)) {us:Array Value}
  (hv:VRs (stab c β H w) β w cs' us.toList) (hi:PV.idss (λj=>decide (j<i)) cs'=true) (hl:cs'.length=cs.length) :
  RelB G c β st (H.set i (.cells cs')) a (w.setRow e.b us)∧Ext (stab c β H w) w (stab c β (H.set i (.cells cs')) (w.setRow e.b us)) (w.setRow e.b us):=by
 obtain⟨_,vs,t,hw,hvv⟩:=h.blk i e _ he hk
 have hus:us.size=vs.size:=by
  have h1:=Wav _ _ hv;have h2:=Wav _ _ hvv
  grind
 have hil:=(We.1 hk).1;have hsz:=Wea w e.b us
 have hother:∀ b,b≠e.b→(w.setRow e.b us).heap[b]? = w.heap[b]?:=λb hb=>by
  simp  [World.setRow,Wbt];grind
 have hget:∀(j:Nat) k,(H.set i (.cells cs'))[j]? = some k→(j≠i∧H[j]? = some k)∨(j=i∧k=.cells cs'):=λj k hj=>by
  grind
 have hfree:∀ b hi',stab c β H w b hi'→b≠e.b:=λb hi' hs=>by
  rcases hs with hs|⟨h1,_,h3⟩
  obtain⟨h4,h5⟩:=h.ok.old b hi' hs
  by_cases hl:i<c.β0.length
  obtain⟨γ,hγ⟩:=h.pre
  have:e∈c.β0:=by
   grind
  exact λhb=>h5 e this hb.symm
  have:=h.loc i e _ e.b om he hk rfl;omega
  exact λhb=>h3 i e _ he hk hb.symm
 have hx:Ext (stab c β H w) w (stab c β (H.set i (.cells cs')) (w.setRow e.b us)) (w.setRow e.b us):=by
  refine⟨λb hi' hs=>?_,λb hi' o v hs _ hv=>?_⟩
  have hne:=hfree b hi' hs
  rcases hs with hs|⟨h1,h2,h3⟩
  exact .inl hs
  refine .inr ⟨h1,om,λj f k g1 g2=>?_⟩
  rcases hget j k g2 with⟨_,g2⟩|⟨rfl,rfl⟩
  exact h3 j f k g1 g2;rw[he]at g1;cases g1;exact Wcb hne;rw[Zk4 (hother b (hfree b hi' hs))];omega
 refine⟨h.move hx (W3 _ _) (by simp[h.len]) h.pre (λj f k h1 h2=>?_) (λj j' f f' k l b hij h1 h2 h3 h4 h5 h6=>?_) (λj f k b h0 h1 h2 h3=>?_) (λj hj=>?_) ?_,hx⟩
 rcases hget j k h2 with⟨hne,g2⟩|⟨rfl,rfl⟩
 refine BlkR.keep hx (W3 _ _) (λb hb=>hother b λhbe=>?_) (h.blk j f k h1 g2)
 subst hbe;exact h.inj j i f e k _ _ hne h1 g2 he hk hb rfl;rw[he]at h1;cases h1;exact⟨hi,us,t,Zp6 hw hus,Wal hx (W3 _ _) hv⟩
 have key:∀(j:Nat) f k,β[j]? = some f→(H.set i (.cells cs'))[j]? = some k→∀ b,k.at f b→∃ k',H[j]? = some k'∧k'.at f b:=λj f k g1 g2 b g3=>by
  rcases hget j k g2 with⟨_,g2⟩|⟨rfl,rfl⟩
  exact⟨k,g2,g3⟩;exact⟨_,hk,g3⟩
 obtain⟨k',g1,g2⟩:=key j f k h1 h2 b h5;obtain⟨l',g3,g4⟩:=key j' f' l h3 h4 b h6;exact h.inj j j' f f' k' l' b hij h1 g1 h3 g3 g2 g4;rw[hsz]
 rcases hget j k h2 with⟨_,g2⟩|⟨rfl,rfl⟩
 exact h.loc j f k b h0 h1 g2 h3;exact h.loc j f _ b h0 h1 hk h3
 by_cases hji:j=i
 subst hji;exact⟨_,W6 hil,rfl⟩;obtain⟨cs0,hc,hcf⟩:=h.cel j hj;exact⟨cs0,gD,hcf⟩
 refine⟨h.frm.os,h.frm.tape,h.frm.output,by have:=h.frm.size;omega,λb hb hne=>?_,λb vs' t' hb=>?_,h.frm.drawn⟩
 have:b≠e.b:=by
  by_cases hl:i<c.β0.length
  obtain⟨γ,hγ⟩:=h.pre
  have hm:e∈c.β0:=by
   grind
  exact Wcb (hne e hm);have:=h.loc i e _ e.b om he hk rfl;omega
 rw[hother b this];exact h.frm.block b hb hne;obtain⟨vs1,h1⟩:=h.frm.typ b vs' t' hb
 by_cases hbe:b=e.b
 subst hbe;obtain⟨_,rfl⟩:=Z46 hw h1;exact⟨us,Zp6 hw hus⟩;exact⟨vs1,Zg7 (hother b hbe) h1⟩
def isAggT (P:Program) (t:TypeId):Option Bool:=match P.underlying t with|some (.struct _)|some (.array _ _)=>some true|some _=>some false|none=>none
def ldPV (P:Program) (t:TypeId) (cs:List PV):Option PV:=
 match isAggT P t with
 |some true=>if P.cellsOf t≤cs.length then some (mkAgg (cs.take (P.cellsOf t)))else none
 |some false=>cs.head?
 |none=>none
def Zyk {t:TypeId} {b:Bool} (h:isAggT P t=some b):∃ i,P.info? t=some i:=by
 unfold isAggT Program.underlying at h
 grind
def Ztj {t:TypeId} {b:Bool} (h:isAggT P t=some b) (w:World):(isAgg t).run P w=.ok b w:=by
 unfold isAggT at h
 cases hu:P.underlying t;simp[hu]at h;rename_i d;cases d<;>simp[hu]at h<;>subst h<;>simp[isAgg,Wu hu]
def Wf3:=@run_loadCells_list
def Wcj:=@run_sizeOf
def run_ld {S:Nat→Nat→Prop} {t:TypeId} {b o:Nat} {cs:List PV} {p:PV} (hr:VRow S β w b o cs) (hl:ldPV P t cs=some p) :
  ∃ v,(loadVar t ⟨b,o,none⟩).run P w=.ok v w∧VR S β w p v:=by
 obtain⟨us,h1,h2⟩:=Wge cs o hr;have hlen:=Wav cs us h1
 unfold ldPV at hl
 cases ht:isAggT P t;simp[ht]at hl;rename_i g;obtain⟨i,hi⟩:=Zyk ht
 have hadd:∀ j,(⟨b,o,none⟩:Addr).add j=⟨b,o+j,none⟩:=λj=>by unfold Addr.add;grind
 cases g with
 |true=>
  simp only[ht]at hl
  split at hl
  cases hl;have h3:=Wf3 (P:=P) w ⟨b,o,none⟩ (us.take (P.cellsOf t)) gD
  have h4:(us.take (P.cellsOf t)).length=P.cellsOf t:=gD
  rw[h4]at h3
  refine⟨.agg (us.take (P.cellsOf t)).toArray,?_,Whw (Wdj _ _ _ h1)⟩
  simp[loadVar,Ztj ht,Wcj w hi,h3]
  grind
 |false=>
  simp only[ht]at hl;cases cs
  simp at hl
  cases hl;cases us;simp only[VRs]at h1;rename_i u us
  refine⟨u,?_,h1.1⟩
  have:=h2 0 u rfl
  simp at this
  simp[loadVar,Ztj ht,this]
def Zzy {S:Nat→Nat→Prop} {b off:Nat} {cs:List PV} {vs:Array Value} {t:TypeId} (hw:World.row w b vs t) (h:VRs S β w cs vs.toList) :
  VRow S β w b off (cs.drop off):=by
 refine VRow.mk _ (vs.toList.drop off) _ (Wdk off _ _ h) λj u hj=>?_
 rw[Zgh hw]
 grind
end
def calm {α:Type} (P:Program):Sem α→Option α
 |.pure a=>some a
 |.program k=>calm P (k P)
 |.mark _ k=>calm P k
 |_=>none
def Z49 {α:Type} {P:Program}:∀ {s:Sem α} {a:α},calm P s=some a→∀ w,s.run P w=.ok a w
 |.pure a,b,h,w=>by cases h;rfl
 |.program k,b,h,w=>Z49 (s:=k P) h w
 |.mark m k,b,h,w=>Z49 (s:=k) h w
def ev (G:Glob) (st:St) (x:Operand):Value:=match opd G st x with|some (.sc v)=>v|_=>undef
def exact1 (G:Glob) (st:St) (x:Operand):Bool:=match opd G st x with|some (.sc _)=>true|_=>false
def notSelect:Op→Bool|.select ..=>false|_=>true
def PV.one:PV→Bool|.sc v=>v.oneCell'|.agg _|.tup _=>false|_=>true
def VR.one {S:Nat→Nat→Prop} {β:List Bnd} {w:World} {p:PV} {u:Value} (hp:p.one=true) (h:VR S β w p u):u.oneCell'=true:=by
 cases p with
 |sc v=>cases h;exact hp
 |agg cs=>simp[PV.one]at hp
 |tup cs=>simp[PV.one]at hp
 |ptr i off=>obtain⟨us,_,rfl⟩:=h;rfl
 |ro cs off=>obtain⟨_,_,rfl,_⟩:=h;rfl
 |sl s xs=>obtain⟨_,_,rfl,_⟩:=h;rfl
 |mp i=>obtain⟨us,_,rfl⟩:=h;rfl
 |fn f cs=>obtain⟨us,rfl,_⟩:=h;rfl
 |own i n=>exact sl_one h.1
 |ept i n k off=>exact h.1
 |ow i n lo hi=>exact h.1
 |oc i n k=>exact h.1
 |op i n k=>exact h.1
 |z=>obtain⟨_,rfl⟩:=h;rfl
 |ln n=>obtain⟨_,_,rfl⟩:=h;rfl
 |vw i off n=>obtain⟨_,_,_,_,_,rfl,_⟩:=h;rfl
def Wd4:=@List.all_cons
def Wh:=@Bool.and_eq_true
def VRs.one {S:Nat→Nat→Prop} {β:List Bnd} {w:World}:∀ {ps:List PV} {us:List Value},(ps.all PV.one)=true→VRs S β w ps us→∀ u∈us,u.oneCell'=true
 |[],[],_,_=>sM
 |[],_::_,_,h=>by simp  [VRs]at h
 |_::_,[],_,h=>gD
 |p::ps,u::us,hp,h=>by
  simp only[Wd4,Wh]at hp;intro v hv
  rcases W1.1 hv with rfl|hv
  exact VR.one hp.1 h.1;exact VRs.one hp.2 h.2 v hv
def Wgf:=@VRs.one
section
variable {P:Program} {G:Glob} {n0:Nat} {o:Oper} {st:St} {H:List Blk}
def OpT.value {p:PV} (h:∀ c a w β,c.β0.length≤n0→RelB G c β st H a w→∃ v,(execOp a.eval o).run P w=.ok (.value v) w∧VR (stab c β H w) β w p v):OpT P G n0 o st H p H:=by
 intro c a w β h0 hr;obtain⟨v,h1,h2⟩:=h c a w β h0 hr;simp  [wpv,h1];exact⟨β,hr,h2,W3 _ _,Wd3 _ _⟩
def Waa:=@OpT.value
def OpT.calm {n:Value} (hs:notSelect o.op=true) (hx:o.op.operands.all (exact1 G st)=true) (hc:calm P (execOp (ev G st) o)=some (.value n)):OpT P G n0 o st H (.sc n) H:=by
 refine Waa λc a w β h0 hr=>⟨n,?_,by simp  [VR]⟩
 rw[execOp_congr (ρ':=ev G st) o (λcs b h=>by rw[h]at hs;simp[notSelect]at hs) λx hx'=>?_];exact Z49 hc w;obtain⟨i,hi,rfl⟩:=Array.mem_iff_getElem.1 hx';have h2:=Array.all_eq_true.1 hx i hi
 unfold exact1 at h2
 cases he:opd G st o.op.operands[i];simp[he]at h2;rename_i p;cases p<;>simp[he]at h2;have:=hr.opd he;simp  [ev,he];exact this
def OpT.move {x:Operand} {p:PV} (ho:o.op=.move x∨o.op=.assign x) (hx:opd G st x=some p):OpT P G n0 o st H p H:=
 Waa λc a w β h0 hr=>⟨a.eval x,by rcases ho with ho|ho<;>simp[execOp,ho],hr.opd hx⟩
def OpT.pick {x y z:Operand} {b:Bool} {p:PV} (ho:o.op=.pick x y z) (hx:opd G st x=some (.sc (.bool b))) (hy:opd G st (if b then y else z)=some p):OpT P G n0 o st H p H:=
 Waa λc a w β h0 hr=>by
  have h1:=hr.opd hx
  simp  [VR]at h1
  refine⟨a.eval (if b then y else z),?_,hr.opd hy⟩
  cases b<;>simp[execOp,ho,h1,asBool]
def OpT.load_ptr {t:TypeId} {x:Operand} {i off:Nat} {cs:List PV} {p:PV} (ho:o.op=.load t x) (hx:opd G st x=some (.ptr i off)) (hc:H[i]? = some (.cells cs))
  (hl:ldPV P t (cs.drop off)=some p):OpT P G n0 o st H p H:=
 Waa λc a w β h0 hr=>by
  obtain⟨e,h2,h3⟩:=hr.opd hx;obtain⟨_,vs,ty,h4,h5⟩:=hr.blk i e _ h2 hc;obtain⟨v,h6,h7⟩:=run_ld (P:=P) (Zzy (off:=off) h4 h5) hl;exact⟨v,by simp[execOp,ho,Instr.loadAt,h3,Instr.sureAddr,h6],h7⟩
def Wgn:=@OpT.load_ptr
def VRow.nobnd {S:Nat→Nat→Prop} {β:List Bnd} {w:World} {b o:Nat} {ps:List PV} (h:VRow S [] w b o ps):VRow S β w b o ps:=by
 obtain⟨us,h1,h2⟩:=Wge ps o h;exact VRow.mk ps us o (Wal (Wd3 S w) (λi e _ h=>gD) h1) h2
def OpT.load_ro {t:TypeId} {x:Operand} {off:Nat} {cs:List PV} {p:PV} (ho:o.op=.load t x) (hx:opd G st x=some (.ro cs off))
  (hl:ldPV P t (cs.drop off)=some p):OpT P G n0 o st H p H:=
 Waa λc a w β h0 hr=>by
  obtain⟨b,of,h2,h3,h4⟩:=hr.opd hx;obtain⟨v,h6,h7⟩:=run_ld (P:=P) (VRow.nobnd (β:=β) (VRow.drop cs of off h4)) hl;exact⟨v,by simp[execOp,ho,Instr.loadAt,h2,Instr.sureAddr,h6],h7⟩
def Zda (b o n:Nat):(⟨b,o,none⟩:Addr).add n=⟨b,o+n,none⟩:=by unfold Addr.add;grind
def Zfq {t:TypeId} {n:Nat} (hn:P.cellsOf t=n) (h0:n≠0) (w:World):(sizeOf t).run P w=.ok n w:=by
 cases hi:P.info? t;simp[Program.cellsOf,hi]at hn;omega;rw[Wcj w hi,hn]
def OpT.fieldAddr {s:TypeId} {x:Operand} {f:Nat} {fs:Array Field} {fd:Field} (ho:o.op=.fieldAddr s x f) (hu:P.underlying s=some (.struct fs)) (hf:fs[f]? = some fd) (hz:P.cellsOf fd.type≠0)
  {p q:PV} (hx:opd G st x=some p)
  (hq:match p with|.ptr i off=>q=.ptr i (off+fd.offset)|.ro cs off=>q=.ro cs (off+fd.offset)|.ept i n k off=>q=.ept i n k (off+fd.offset)∧∃ s t xs sh,H[i]? = some (.buf s t xs sh)∧n=xs.length|_=>False):OpT P G n0 o st H q H:=
 Waa λc a w β h0 hr=>by
  have h1:=hr.opd hx
  have run:∀ b off,a.eval x=.pointer (some ⟨b,off,none⟩)→(execOp a.eval o).run P w=.ok (.value (.pointer (some ⟨b,off+fd.offset,none⟩))) w:=λb off he=>by
   simp[execOp,ho,Instr.fieldAt,Wu hu,hf,he,Instr.sureAddr,fieldPlace,Zfq rfl hz,hz,Zda]
  cases p with
  |ptr i off=>
   cases hq
   simp  [VR]at h1⊢
   grind
  |ro cs off=>
   cases hq
   simp  [VR]at h1⊢
   grind
  |ept i n k off=>
   obtain⟨rfl,s',t',xs,sh,hb,hn⟩:=hq
   simp  [VR]at h1⊢
   obtain⟨g0,e,h2,h3,h4⟩:=h1;obtain⟨h5,_⟩:=hr.blk i e _ h2 hb;obtain⟨g,h6,h7⟩:=h4 om
   refine⟨_,run _ _ h7,rfl,e,h2,h3,λ_=>⟨g,h6,?_⟩⟩
   grind
  |_=>grind
def Wf4:=@OpT.fieldAddr
def OpT.index_arr {t e:TypeId} {n:Nat} {x y:Operand} {k:IntKind} {j:Int} (ho:o.op=.indexAddr t x y) (hu:P.underlying t=some (.array n e)) (hz:P.cellsOf e≠0) (hy:opd G st y=some (.sc (.int k j)))
  (h0:0≤j) (h1:j<n) {p q:PV} (hx:opd G st x=some p)
  (hq:match p with|.ptr i off=>q=.ptr i (off+j.toNat*P.cellsOf e)|.ro cs off=>q=.ro cs (off+j.toNat*P.cellsOf e)|_=>False):OpT P G n0 o st H q H:=
 Waa λc a w β hn hr=>by
  have g1:=hr.opd hx;have g2:=hr.opd hy
  simp  [VR]at g2
  have run:∀ b off,a.eval x=.pointer (some ⟨b,off,none⟩)→(execOp a.eval o).run P w=.ok (.value (.pointer (some ⟨b,off+j.toNat*P.cellsOf e,none⟩))) w:=λb off he=>by
   simp[execOp,ho,Instr.indexAt,asIntOf,Wu hu,he,g2,Instr.sureAddr,Zfq rfl hz,Zda,h0,h1]
  cases p with
  |ptr i off=>
   subst hq
   simp  [VR]at g1⊢
   grind
  |ro cs off=>
   subst hq
   simp  [VR]at g1⊢
   grind
  |_=>grind
def Wez:=@OpT.index_arr
def VRows.get {S:Nat→Nat→Prop} {β:List Bnd} {w:World} {b s:Nat}:∀ {xs:List (List PV)} {o i:Nat} {x:List PV},VRows S β w b s o xs→xs[i]? = some x→x.length=s∧VRow S β w b (o+i*s) x
 |[],o,i,x,_,h=>gD
 |y::xs,o,0,x,h,hi=>by simp  [VRows]at h;grind
 |y::xs,o,i+1,x,h,hi=>by
  have:=VRows.get h.2 (i:=i) (x:=x) gD
  grind
def W8:=@Nat.mul_le_mul_right
def OpT.index_sl {t e:TypeId} {x y:Operand} {k:IntKind} {j:Int} {xs:List (List PV)} {z:List PV} (ho:o.op=.indexAddr t x y) (hu:P.underlying t=some (.slice e)) (hz:P.cellsOf e≠0)
  (hx:opd G st x=some (.sl (P.cellsOf e) xs)) (hy:opd G st y=some (.sc (.int k j))) (h0:0≤j) (h1:xs[j.toNat]? = some z):OpT P G n0 o st H (.ro z 0) H:=
 Waa λc a w β hn hr=>by
  have g1:=hr.opd hx;have g2:=hr.opd hy
  simp  [VR]at g1 g2
  obtain⟨ad,cap,g3,_,g4⟩:=g1;have hl:=(We.1 h1).1
  rcases g4 with rfl|⟨b,of,rfl,g5,g6⟩
  simp at hl
  obtain⟨g7,g8⟩:=VRows.get g6 h1;simp[execOp,ho,Instr.indexAt,asIntOf,Wu hu,g3,g2,Zfq rfl hz,Zda,h0,show j<xs.length by omega]
  refine⟨b,of+j.toNat*P.cellsOf e,sM,hr.ok.stab g5 ?_,g8⟩
  have:(j.toNat+1)*P.cellsOf e≤xs.length*P.cellsOf e:=W8 _ hl
  grind
def Was:=@Option.isSome_iff_exists
def Wbc:=@List.mem_of_mem_take
def Wby:=@List.mem_of_mem_drop
def OpT.store {t:TypeId} {x y:Operand} {i off:Nat} {cs:List PV} {p:PV} (ho:o.op=.store t x y) (hx:opd G st x=some (.ptr i off)) (hy:opd G st y=some p) (hc:H[i]? = some (.cells cs))
  (hn:P.cellsOf t=p.cells.length) (ht:(P.info? t).isSome=true) (hl:off+p.cells.length≤cs.length) (h1:(p.cells.all PV.one)=true) (hb:PV.idss (λj=>decide (j<i)) p.cells=true) :
  OpT P G n0 o st H (.sc undef) (H.set i (.cells (cs.take off++p.cells++cs.drop (off+p.cells.length)))):=by
 intro c a w β hn0 hr;have g2:=(hr.opd hy).cells;obtain⟨e,h2,h3⟩:=hr.opd hx;obtain⟨hq,vs,ty,h4,h5⟩:=hr.blk i e _ h2 hc;have hlv:=Wav _ _ h5;have hlu:=Wav _ _ g2;obtain⟨ti,hti⟩:=Was.1 ht
 have hsz:(sizeOf t).run P w=.ok (a.eval y).cells.size w:=by
  rw[Wcj w hti,hn,←hlu];simp
 have hex:(execOp a.eval o).run P w=.ok .skip (w.setRow e.b (vs.toList.take (off+0)++(a.eval y).cells.toList++vs.toList.drop (off+0+(a.eval y).cells.toList.length)).toArray):=by
  simp  [execOp,ho,Instr.storeAt,h3,Instr.sureAddr,storeVar];simp[hsz,Zft P e.b off ty (a.eval y).cells.toList 0 vs w h4 gD (Wgf h1 g2)]
 simp only[wpv,hex];have hwr:=hr.write h2 hc (us:=(vs.toList.take (off+0)++(a.eval y).cells.toList++vs.toList.drop (off+0+(a.eval y).cells.toList.length)).toArray)
  (cs':=cs.take off++p.cells++cs.drop (off+p.cells.length)) ?_ ?_ gD
 exact⟨β,hwr.1,by simp  [VR],W3 _ _,hwr.2⟩;rw[hlu];exact VRs.append _ _ _ _ (VRs.append _ _ _ _ (Wdj _ _ _ h5) g2) (Wdk _ _ _ h5);rw[Wdv,Wdv,hb];have h6:=(Wfs _ cs).1 hq;simp;exact⟨(Wfs _ _).2 λp hp=>h6 p (Wbc hp),(Wfs _ _).2 λp hp=>h6 p (Wby hp)⟩
def Z5a (q:Nat→Bool):∀(vs:List Value),PV.idss q (vs.map .sc)=true
 |[]=>by simp[PV.idss]
 |v::vs=>by simp[PV.idss,PV.ids,Z5a q vs]
def OpT.alloc {t:TypeId} {ti:TypeInfo} {z:Value} (ho:o.op=.alloc t) (ht:P.info? t=some ti) (hz:ti.zero=some z) :
  OpT P G n0 o st H (.ptr H.length 0) (H++[.cells (z.cells.toList.map .sc)]):=by
 intro c a w β hn0 hr
 have hex:(execOp a.eval o).run P w=.ok (.value (.pointer (some ⟨w.heap.size,0,none⟩))) (w.alloc (.cells z.cells t)):=by
  simp[execOp,ho,Instr.alloc,zeroValue,typeInfo,ht,hz,newVar,newRow]
 simp  [wpv,hex];have h1:=hr.alloc (VRs.scs (S:=stab c β H w) (β:=β) (w:=w) z.cells.toList) (Z5a _ _) t;exact⟨_,h1.1,⟨⟨w.heap.size,undef,0,0,[]⟩,by rw[←hr.len];simp,rfl⟩,Wbz _ _,h1.2⟩
def OpT.box {t:TypeId} {x:Operand} {p:PV} (ho:o.op=.box t x) (hx:opd G st x=some p) (hb:PV.idss (λj=>decide (j<H.length)) p.cells=true) :
  OpT P G n0 o st H (.ptr H.length 0) (H++[.cells p.cells]):=by
 intro c a w β hn0 hr
 have hex:(execOp a.eval o).run P w=.ok (.value (.pointer (some ⟨w.heap.size,0,none⟩))) (w.alloc (.cells (a.eval x).cells t)):=by
  simp[execOp,ho,Instr.box,newVar,newRow]
 simp  [wpv,hex];have h1:=hr.alloc (hr.opd hx).cells hb t;exact⟨_,h1.1,⟨⟨w.heap.size,undef,0,0,[]⟩,by rw[←hr.len];simp,rfl⟩,Wbz _ _,h1.2⟩
def OpT.nilCheck {x:Operand} {p:PV} (ho:o.op=.nilCheck x) (hx:opd G st x=some p) (hp:match p with|.ptr _ _|.ro _ _=>True|_=>False):OpT P G n0 o st H p H:=
 Waa λc a w β hn hr=>by
  have h1:=hr.opd hx
  refine⟨a.eval x,?_,h1⟩
  cases p with
  |ptr i off=>obtain⟨e,_,h3⟩:=h1;simp[execOp,ho,h3]
  |ro cs off=>obtain⟨b,of,h3,_⟩:=h1;simp[execOp,ho,h3]
  |_=>grind
def OpT.extract {x:Operand} {cs:List PV} {k:Nat} {p:PV} (ho:o.op=.extract x k) (hx:opd G st x=some (.tup cs)) (hk:cs[k]? = some p):OpT P G n0 o st H p H:=
 Waa λc a w β hn hr=>by
  obtain⟨us,h2,h3⟩:=hr.opd hx;obtain⟨u,h4,h5⟩:=Whv _ _ h3 k p hk;exact⟨u,by simp[execOp,Instr.extract];simp_all,h5⟩
def Z5b {S:Nat→Nat→Prop} {β:List Bnd} {t:TypeId} {cs:List PV} {us:Array Value} {off:Nat} {p:PV} {w:World} (h:VRs S β w cs us.toList) (hl:ldPV P t (cs.drop off)=some p) :
  ∃ v,(part t us off).run P w=.ok v w∧VR S β w p v:=by
 unfold ldPV at hl
 have hd:=Wdk off _ _ h;cases ht:isAggT P t;simp[ht]at hl;rename_i g;obtain⟨i,hi⟩:=Zyk ht
 cases g with
 |true=>
  simp only[ht]at hl
  split at hl
  cases hl
  refine⟨.agg (us.extract off (off+P.cellsOf t)),by simp[part,Ztj ht,Wcj w hi],?_⟩
  have:=Whw (Wdj (P.cellsOf t) _ _ hd)
  have e:(List.take (P.cellsOf t) (List.drop off us.toList)).toArray=us.extract off (off+P.cellsOf t):=by
   grind
  rw[e]at this;exact this
  grind
 |false=>
  simp only[ht]at hl;rw[List.head?_eq_getElem?]at hl;obtain⟨u,h4,h5⟩:=Whv _ _ hd 0 p hl
  have h6:=by simpa using h4
  exact⟨u,by simp[part,Ztj ht,h6],h5⟩
def OpT.field {t:TypeId} {x:Operand} {f:Nat} {fs:Array Field} {fd:Field} {cs:List PV} {p:PV} (ho:o.op=.field t x f) (hu:P.underlying t=some (.struct fs)) (hf:fs[f]? = some fd)
  (hx:opd G st x=some (.agg cs)) (hl:ldPV P fd.type (cs.drop fd.offset)=some p):OpT P G n0 o st H p H:=
 Waa λc a w β hn hr=>by
  obtain⟨us,h2,h3⟩:=hr.opd hx;obtain⟨v,h4,h5⟩:=Z5b (P:=P) h3 hl;exact⟨v,by simp[execOp,ho,Instr.field,Wu hu,hf,h2,asAgg,h4],h5⟩
def OpT.index_agg {t e:TypeId} {n:Nat} {x y:Operand} {k:IntKind} {j:Int} {cs:List PV} {p:PV} (ho:o.op=.index t x y) (hu:P.underlying t=some (.array n e)) (hz:P.cellsOf e≠0)
  (hx:opd G st x=some (.agg cs)) (hy:opd G st y=some (.sc (.int k j))) (h0:0≤j) (h1:j<n) (hl:ldPV P e (cs.drop (j.toNat*P.cellsOf e))=some p):OpT P G n0 o st H p H:=
 Waa λc a w β hn hr=>by
  have g1:=hr.opd hx;have g2:=hr.opd hy
  simp  [VR]at g1 g2
  obtain⟨us,h2,h3⟩:=g1;obtain⟨v,h4,h5⟩:=Z5b (P:=P) h3 hl;exact⟨v,by simp[execOp,ho,Instr.index,asIntOf,Wu hu,g2,h2,h0,h1,Zfq rfl hz,h4],h5⟩
def Whx:=@OpT.index_agg
def OpT.index_sc {t e:TypeId} {n:Nat} {x y:Operand} {k:IntKind} {j:Int} {cs:Array Value} {p:PV} (ho:o.op=.index t x y) (hu:P.underlying t=some (.array n e)) (hz:P.cellsOf e≠0)
  (hx:opd G st x=some (.sc (.agg cs))) (hy:opd G st y=some (.sc (.int k j))) (h0:0≤j) (h1:j<n) (hl:ldPV P e ((cs.toList.map .sc).drop (j.toNat*P.cellsOf e))=some p):OpT P G n0 o st H p H:=
 Waa λc a w β hn hr=>by
  have g1:=hr.opd hx;have g2:=hr.opd hy
  simp  [VR]at g1 g2
  obtain⟨v,h4,h5⟩:=Z5b (P:=P) (VRs.scs (S:=stab c β H w) (β:=β) (w:=w) cs.toList) hl;exact⟨v,by simp[execOp,ho,Instr.index,asIntOf,Wu hu,g2,g1,h0,h1,Zfq rfl hz,h4],h5⟩
def stepMem (P:Program) (G:Glob) (st:St) (H:List Blk):Op→Option (PV×List Blk)
 |.move x|.assign x=>(opd G st x).map (·,H)
 |.pick x y z=>match opd G st x with
  |some (.sc (.bool b))=>(opd G st (if b then y else z)).map (·,H)
  |_=>none
 |.load t x=>match opd G st x with
  |some (.ptr i off)=>match H[i]? with
   |some (.cells cs)=>(ldPV P t (cs.drop off)).map (·,H)
   |_=>none
  |some (.ro cs off)=>(ldPV P t (cs.drop off)).map (·,H)
  |_=>none
 |.store t x y=>match opd G st x,opd G st y with
  |some (.ptr i off),some p=>match H[i]? with
   |some (.cells cs)=>
    if P.cellsOf t=p.cells.length&&(P.info? t).isSome&&decide (off+p.cells.length≤cs.length)&&p.cells.all PV.one&&PV.idss (λj=>decide (j<i)) p.cells
    then some (.sc undef,H.set i (.cells (cs.take off++p.cells++cs.drop (off+p.cells.length))))else none
   |_=>none
  |_,_=>none
 |.alloc t=>match P.info? t with
  |some ti=>match ti.zero with
   |some z=>some (.ptr H.length 0,H++[.cells (z.cells.toList.map .sc)])
   |none=>none
  |none=>none
 |.box _ x=>match opd G st x with
  |some p=>if PV.idss (λj=>decide (j<H.length)) p.cells then some (.ptr H.length 0,H++[.cells p.cells])else none
  |none=>none
 |.nilCheck x=>match opd G st x with
  |some (.ptr i off)=>some (.ptr i off,H)
  |some (.ro cs off)=>some (.ro cs off,H)
  |_=>none
 |.extract x k=>match opd G st x with
  |some (.tup cs)=>(cs[k]?).map (·,H)
  |_=>none
 |.fieldAddr s x f=>match P.underlying s with
  |some (.struct fs)=>match fs[f]? with
   |some fd=>if P.cellsOf fd.type≠0 then match opd G st x with
    |some (.ptr i off)=>some (.ptr i (off+fd.offset),H)
    |some (.ro cs off)=>some (.ro cs (off+fd.offset),H)
    |_=>none
    else none
   |none=>none
  |_=>none
 |.indexAddr t x y=>match P.underlying t,opd G st y with
  |some (.array n e),some (.sc (.int _ j))=>if P.cellsOf e≠0∧0≤j∧j<n then match opd G st x with
    |some (.ptr i off)=>some (.ptr i (off+j.toNat*P.cellsOf e),H)
    |some (.ro cs off)=>some (.ro cs (off+j.toNat*P.cellsOf e),H)
    |_=>none
    else none
  |_,_=>none
 |.field t x f=>match P.underlying t with
  |some (.struct fs)=>match fs[f]? with
   |some fd=>match opd G st x with
    |some (.agg cs)=>(ldPV P fd.type (cs.drop fd.offset)).map (·,H)
    |_=>none
   |none=>none
  |_=>none
 |_=>none
def stepV (P:Program) (G:Glob) (st:St) (o:Oper):Option PV:=
 if notSelect o.op&&o.op.operands.all (exact1 G st)then
  match calm P (execOp (ev G st) o)with
  |some (.value v)=>some (.sc v)
  |_=>none
 else none
def step (P:Program) (G:Glob) (st:St) (H:List Blk) (o:Oper):Option (PV×List Blk):=
 match stepMem P G st H o.op with
 |some r=>some r
 |none=>(stepV P G st o).map (·,H)
def Wa1:=@Prod.mk.injEq
def Wn:=@Option.some.injEq
def W4:=@decide_eq_true_eq
def OpT.of_stepMem {p:PV} {H':List Blk} (h:stepMem P G st H o.op=some (p,H')):OpT P G n0 o st H p H':=by
 cases ho:o.op<;>rw[ho]at h<;>simp only[stepMem,Wg,Wa1,reduceCtorEq]at h
 case move x=>obtain⟨q,h1,rfl,rfl⟩:=h;exact OpT.move (.inl ho) h1
 case assign x=>obtain⟨q,h1,rfl,rfl⟩:=h;exact OpT.move (.inr ho) h1
 case pick x y z=>
  split at h
  rename_i b hb;simp only[Wg,Wa1]at h;obtain⟨q,h1,rfl,rfl⟩:=h;exact OpT.pick ho hb h1;cases h
 case load t x=>
  split at h
  rename_i i off hx
  split at h
  rename_i cs hc;simp only[Wg,Wa1]at h;obtain⟨q,h1,rfl,rfl⟩:=h;exact Wgn ho hx hc h1;cases h;rename_i cs off hx;simp only[Wg,Wa1]at h;obtain⟨q,h1,rfl,rfl⟩:=h;exact OpT.load_ro ho hx h1;cases h
 case store t x y=>
  split at h
  rename_i i off q hx hy
  split at h
  rename_i cs hc
  split at h
  rename_i hif;simp only[Wn,Wa1]at h;obtain⟨rfl,rfl⟩:=h;simp only[Wh,W4]at hif;obtain⟨⟨⟨⟨e1,e2⟩,e3⟩,e4⟩,e5⟩:=hif;exact OpT.store ho hx hy hc e1 e2 e3 e4 e5;cases h;cases h;cases h
 case alloc t=>
  split at h
  rename_i ti ht
  split at h
  rename_i z hz;cases h;exact OpT.alloc ho ht hz;cases h;cases h
 case box t x=>
  split at h
  rename_i q hx
  split at h
  rename_i hb;cases h;exact OpT.box ho hx hb;cases h;cases h
 case nilCheck x=>
  split at h
  rename_i i off hx;cases h;exact OpT.nilCheck ho hx trivial;rename_i i off hx;cases h;exact OpT.nilCheck ho hx trivial;cases h
 case extract x k=>
  split at h
  rename_i cs hx;simp only[Wg,Wa1]at h;obtain⟨q,h1,rfl,rfl⟩:=h;exact OpT.extract ho hx h1;cases h
 case fieldAddr s x f=>
  split at h
  rename_i fs hu
  split at h
  rename_i fd hf
  split at h
  rename_i hz
  split at h
  rename_i i off hx;cases h;exact Wf4 ho hu hf hz hx rfl;rename_i cs off hx;cases h;exact Wf4 ho hu hf hz hx rfl;cases h;cases h;cases h;cases h
 case indexAddr t x y=>
  split at h
  rename_i n e k j hu hy
  split at h
  rename_i hj
  split at h
  rename_i i off hx;cases h;exact Wez ho hu hj.1 hy hj.2.1 hj.2.2 hx rfl;rename_i cs off hx;cases h;exact Wez ho hu hj.1 hy hj.2.1 hj.2.2 hx rfl;cases h;cases h;cases h
 case field t x f=>
  split at h
  rename_i fs hu
  split at h
  rename_i fd hf
  split at h
  rename_i cs hx;simp only[Wg,Wa1]at h;obtain⟨q,h1,rfl,rfl⟩:=h;exact OpT.field ho hu hf hx h1;cases h;cases h;cases h
def Wen:=@OpT.of_stepMem
def OpT.of_step {p:PV} {H':List Blk} (h:step P G st H o=some (p,H')):OpT P G n0 o st H p H':=by
 unfold step at h
 split at h
 rename_i r hr;cases h;exact Wen hr
 simp at h
 obtain⟨q,h1,rfl,rfl⟩:=h
 unfold stepV at h1
 split at h1
 rename_i hc;simp only[Wh]at hc
 split at h1
 rename_i v hv;cases h1;exact OpT.calm hc.1 hc.2 hv;cases h1
 grind
end
def Lift (G:Glob) (c:Ctx) (Q:Exit→St→List Blk→Prop) (e:Exit) (a:Act) (w:World):Prop:=∃ st H β,Q e st H∧RelB G c β st H a w
def AOps (P:Program) (G:Glob) (n0 nt:Nat) (ops:Array Oper) (l:List Nat) (Q:Exit→St→List Blk→Prop) (st:St) (H:List Blk):Prop:=
 ∀ c a w β,c.fit n0→c.nt=nt→RelB G c β st H a w→wpOps P ops (Lift G c Q) l a w
def AWP (P:Program) (G:Glob) (n0 nt:Nat) (code:Code) (Q:Exit→St→List Blk→Prop) (st:St) (H:List Blk):Prop:=
 ∀ c a w β,c.fit n0→c.nt=nt→RelB G c β st H a w→code.wp P (Lift G c Q) a w
def wantA (ops:Array Oper) (st:St) (o:Oper):Option Bool:=
 match o.guard with
 |none=>some true
 |some (j,want)=>match(ops[j]?).bind (·.dst)with
  |some d=>match st.get d with
   |some (.sc (.bool b))=>some (b==want)
   |some (.sc (.tuple _))=>some false
   |_=>none
  |none=>none
def dstOk (nt:Nat) (o:Oper):Bool:=match o.dst with|some d=>decide (d<nt)|none=>true
def Zzz {nt:Nat} {o:Oper} (h:dstOk nt o=true):∀ k,o.dst=some k→k<nt:=λk hk=>by simpa [dstOk,hk]using h
section
variable {P:Program} {G:Glob} {n0 nt:Nat} {o:Oper} {st:St} {H:List Blk} {ops:Array Oper} {Q:Exit→St→List Blk→Prop}
def Wc:=@Option.bind_some
def Zy1 {c:Ctx} {β:List Bnd} {a:Act} {w:World} {b:Bool} (h:RelB G c β st H a w) (hw:wantA ops st o=some b):Region.wanted o (yielded ops a.tmps)=b:=by
 unfold wantA at hw
 unfold Region.wanted;cases hg:o.guard;simp[hg]at hw;simp[hw];rename_i jw;obtain⟨j,want⟩:=jw;simp only[hg]at hw;cases hd:(ops[j]?).bind (·.dst);simp[hd]at hw;rename_i d;simp only[hd]at hw;cases hs:st.get d;simp[hs]at hw;simp only[hs]at hw
 split at hw
 rename_i b' hp;simp only[Wn]at hp hw;subst hp;obtain⟨h1,h2⟩:=h.slots (d,_) (Zgi st d _ hs);simp only[VR]at h2
 have h3:a.tmps[d]? = some (.bool b'):=by
  have:d<a.tmps.size:=by rw[h.nt];omega
  simp_all
 simp only[yielded,hd,Wc,h3];rw[←hw];cases b'<;>cases want<;>rfl;rename_i ts hp;simp only[Wn]at hp hw;subst hp;obtain⟨h1,h2⟩:=h.slots (d,_) (Zgi st d _ hs);simp only[VR]at h2
 have h3:a.tmps[d]? = some (.tuple ts):=by
  have:d<a.tmps.size:=by rw[h.nt];omega
  simp_all
 simp only[yielded,hd,Wc,h3];rw[←hw];rfl
 grind
def Z2l {a:Act} {w:World} {next:Act→World→Prop} {R:Exit→Act→World→Prop} {K:Value→World→Prop} (h:wpv P o a w K) (hk:∀ v w',K v w'→next (a.put o.dst v) w'):o.wp P a w next R:=by
 unfold wpv at h
 unfold Oper.wp
 generalize (execOp a.eval o).run P w=r at*
 cases r with
 |halt x w'=>grind
 |ok n w'=>
  cases n<;>simp at h⊢
  case value v=>exact hk _ _ h
  case skip=>exact hk _ _ h
  case enter f args=>exact h.mono λe w'' ⟨v,he,hv⟩=>gD
def AOps.nil (h:Q .normal st H):AOps P G n0 nt ops [] Q st H:=λ_ _ _ β _ _ hr=>⟨st,H,β,h,hr⟩
def Wgs:=@AOps.nil
def AOps.cons {i:Nat} {l:List Nat} {p:PV} {H':List Blk} (ho:ops[i]? = some o) (hd:dstOk nt o=true) (hw:wantA ops st o=some true) (hop:OpW P G n0 o st H p H')
  (h:AOps P G n0 nt ops l Q (st.putD o.dst p) H'):AOps P G n0 nt ops (i::l) Q st H:=by
 intro c a w β h0 h1 hr;simp  [wpOps,ho,Zy1 hr hw]
 refine .inl (Z2l (hop c a w β h0.len hr) λv w' ⟨β',h2,h3⟩=>?_)
 exact h c _ w' β' h0 h1 (h2.put h3 o.dst (by rw[h1];exact Zzz hd))
def Wgw:=@AOps.cons
def AOps.skip {i:Nat} {l:List Nat} (ho:ops[i]? = some o) (hd:dstOk nt o=true) (hw:wantA ops st o=some false)
  (h:AOps P G n0 nt ops l Q (st.putD o.dst (.sc undef)) H):AOps P G n0 nt ops (i::l) Q st H:=by
 intro c a w β h0 h1 hr;simp  [wpOps,ho,Zy1 hr hw];exact h c _ w β h0 h1 (hr.put (by simp  [VR]) o.dst (by rw[h1];exact Zzz hd))
def AOps.sub {l:List Nat} {st':St} (hs:∀ x∈st',x∈st) (h:AOps P G n0 nt ops l Q st' H):AOps P G n0 nt ops l Q st H:=
 λc a w β h0 h1 hr=>h c a w β h0 h1 (hr.sub hs)
def Why:=@AOps.sub
def St.pick (ks:List Nat) (st:St):St:=ks.filterMap λk=>(st.get k).map λp=>(k,p)
def Wcu:=@List.mem_filterMap
def St.pick_sub (ks:List Nat) (st:St):∀ x∈st.pick ks,x∈st:=λx hx=>by
 simp  [St.pick,Wcu,Wg]at hx
 obtain⟨k,_,p,h1,rfl⟩:=hx;exact Zgi st k p h1
def Wcy:=@St.pick_sub
section draw
variable {st0:St} {res:List PV} {ch:List Nat} {Hs:List (List Blk)} {k:Nat}
def bindsOn (o:Oper):List Nat:=(o.after.toList.filter (Region.binds .any)).map (·.on)
def stAt (ops:Array Oper) (k:Nat) (st0:St) (res:List PV) (i:Nat):St:=
 ((ops[i]?).map bindsOn).getD [] |>.filterMap (λj=>match(ops[j]?).bind (·.dst),res[j]? with|some d,some p=>some (d,p)|_,_=>none)|>(·++st0.filter λx=>(List.range k).all λj=>(ops[j]?).bind (·.dst)!=some x.1||(((ops[j]?).map bindsOn).getD []).contains i)
def stL (ops:Array Oper) (st0:St) (res:List PV) (l:List Nat):St:=
 l.filterMap (λj=>match(ops[j]?).bind (·.dst),res[j]? with|some d,some p=>some (d,p)|_,_=>none)++st0.filter λx=>l.all λj=>(ops[j]?).bind (·.dst)!=some x.1
def posOk (ops:Array Oper) (ch:List Nat) (i t:Nat):Bool:=(List.range ch.length).all λs=>match ch[s]? with
 |some x=>if s<t then !(((ops[x]?).map bindsOn).getD []).contains i else !(((ops[i]?).map bindsOn).getD []).contains x
 |none=>true
inductive FreeOk (P:Program) (G:Glob) (n0 nt:Nat) (ops:Array Oper) (st0:St) (res:List PV) (ch:List Nat) (Hs:List (List Blk)) (k i:Nat):Prop where
 |skip (o:Oper) (s:St) (hs:∀ x∈s,x∈stAt ops k st0 res i) (ho:ops[i]? = some o) (hc:i∉ch) (hw:wantA ops s o=some false) (hp:res[i]? = some (.sc undef))
 |quiet (o:Oper) (p:PV) (s:St) (hs:∀ x∈s,x∈stAt ops k st0 res i) (ho:ops[i]? = some o) (hc:i∉ch) (hw:wantA ops s o=some true) (hp:res[i]? = some p) (h:∀ t H,Hs[t]? = some H→posOk ops ch i t=true→OpW P G n0 o s H p H)
 |chain (o:Oper) (p:PV) (t:Nat) (H H':List Blk) (s:St) (hs:∀ x∈s,x∈stAt ops k st0 res i) (ho:ops[i]? = some o) (hc:ch[t]? = some i) (hw:wantA ops s o=some true) (hp:res[i]? = some p)
   (h1:Hs[t]? = some H) (h2:Hs[t+1]? = some H') (h:OpW P G n0 o s H p H')
def drawOk (nt:Nat) (ops:Array Oper) (ch:List Nat) (k:Nat) (rk:List Nat:=[]):Bool:=
 decide (k≤ops.size)&&
 ((List.range ops.size).all λi=>match ops[i]? with
  |none=>false
  |some o=>dstOk nt o&&(bindsOn o).all (λj=>if i<k then decide (j<k)&&decide (rk.getD j j<rk.getD i i)else decide (j<i))&&
   (if i<k then(match o.dst with|none=>true|some d=>(List.range k).all λj=>j==i||((ops[j]?).bind (·.dst))!=some d)
    else if i=k then(List.range k).all λj=>(bindsOn o).contains j
    else(bindsOn o).contains (i-1)))&&
 ((List.range ch.length).all λt=>t==0||match ch[t]?,ch[t-1]? with
  |some x,some y=>match ops[x]? with|some o=>(bindsOn o).contains y&&decide (x<k)&&decide (y<k)|none=>false
  |_,_=>false)&&(ch.all λx=>decide (x<k))&&decide (ch.Nodup)
def Zu0 {o:Oper} {j:Nat}:j∈bindsOn o↔∃ e∈o.after,Region.binds .any e=true∧e.on=j:=by
 simp[bindsOn,and_assoc]
def Weq:=@mem_ready
def Wc9:=@Array.getElem?_eq_some_iff
def Wc5:=@Nat.lt_trichotomy
def Z5c {R:Exit→Act→World→Prop} (hk:∀(i:Nat) o,ops[i]? = some o→k<i→i-1∈bindsOn o) (hlt:∀(i:Nat) o,ops[i]? = some o→k≤i→∀ j∈bindsOn o,j<i) :
  ∀(f m:Nat) listed (a:Act) (w:World),k≤m→m+f=ops.size→(∀ i,i<m→listed.getD i false=true)→(∀ i,m≤i→i<ops.size→listed.getD i true=false)→listed.size=ops.size →
  wpOps P ops R (List.range' m f) a w→wpAny P .any ops R f listed a w
 |0,m,listed,a,w,hm,hs,hl,hu,hsz,h=>by
  refine⟨?_,by simpa [wpOps]using h⟩
  by_cases he:Region.ready .any ops listed=[]
  exact he;obtain⟨i,hi⟩:=List.exists_mem_of_ne_nil _ he;obtain⟨h1,o,ho,h2⟩:=Weq.1 hi
  grind
 |f+1,m,listed,a,w,hm,hs,hl,hu,hsz,h=>by
  have hready:m∈Region.ready .any ops listed:=by
   refine Weq.2 ⟨hu m (Ws _) om,ops[m]'om,gD,λe he hb=>?_⟩
   exact hl e.on (hlt m _ (by simp ) hm e.on (Zu0.2 ⟨e,he,hb,rfl⟩))
  refine⟨λhe=>gD,λi hi=>?_⟩
  obtain⟨h1,o,ho,h2⟩:=Weq.1 hi;have hil:=(Wc9.1 ho).1
  have him:i=m:=by
   rcases Wc5 i m with hlt'|rfl|hgt
   have h3:=hl i hlt'
   have:i<listed.size:=om
   simp[this]at h1 h3;rw[h1]at h3;cases h3;rfl;have:=hk i o ho om;obtain⟨e,he,hb,hon⟩:=Zu0.1 this
   grind
  subst him
  refine wpOp_mono (λa' w' h'=>?_) h
  refine Z5c hk hlt f (i+1) _ a' w' om om (λj hj=>?_) (λj hj hj2=>?_) (by simp[hsz]) h'
  by_cases hji:j=i
  subst hji;simp[Array.getD,hsz,hil];have:=hl j om
  have hjs:j<listed.size:=om
  simp[hjs]at this⊢;rw[Array.getElem_setIfInBounds_ne (h:=Wcb hji)];exact this;have:=hu j om hj2
  have hjs:j<listed.size:=om
  simp[Array.getD,hjs]at this⊢
  grind
def Wfa:=@List.nodup_cons
def Z6i (p:Nat→Bool) (i:Nat) (hi:p i=false):∀(l:List Nat),l.Nodup→i∈l→(l.filter λj=>p j||j==i).length=(l.filter p).length+1
 |[],_,h=>by cases h
 |x::l,hn,h=>by
  have hn':=Wfa.1 hn
  by_cases hx:x=i
  subst hx
  have h1:(l.filter λj=>p j||j==x)=l.filter p:=List.filter_congr λj hj=>by
   have:j≠x:=λe=>hn'.1 (e▸hj)
   grind
  rw[List.filter_cons_of_pos sM,List.filter_cons_of_neg gD];simp[h1]
  have hil:i∈l:=gD
  have ih:=Z6i p i hi l hn'.2 hil
  grind
def Zuh {listed:Array Bool} {i j:Nat} (hi:i<listed.size):(listed.setIfInBounds i true).getD j false=(listed.getD j false||j==i):=by
 by_cases hji:j=i
 subst hji;simp[hi]
 have:(j==i)=false:=gD
 simp  [this,Bool.or_false]
 grind
def W7:=@List.all_eq_true
def Wbo:=@Bool.or_eq_true
def Wct:=@beq_iff_eq
def Wq:=@List.mem_of_getElem?
def Wfb:=@List.length_filter_le
def Wer:=@List.length_range
def Wce:=@List.length_filter_eq_length_iff
def Wbr:=@List.filter_eq_self
def Wcz:=@Nat.lt_or_ge
def Wdw:=@List.mem_range
def Wah:=@Classical.byContradiction
def Wck:=@Option.map_some
def We5:=@Option.getD_some
def Wfc:=@List.contains_iff_mem
def Wy:=@Bool.false_eq_true
def Wgg:=@List.getElem?_inj
def Zahs {Hf:List Blk} {rk:List Nat} (hok:drawOk nt ops ch k rk=true) (hfree:∀ i,i<k→FreeOk P G n0 nt ops st0 res ch Hs k i) (hlast:Hs[ch.length]? = some Hf)
  (htail:AOps P G n0 nt ops (List.range' k (ops.size-k)) Q (stL ops st0 res (List.range k)) Hf) :
  ∀(f:Nat) (listed:Array Bool) (t:Nat) (H:List Blk) (c:Ctx) (a:Act) (w:World) (β:List Bnd),c.fit n0→c.nt=nt→listed.size=ops.size →
   ((List.range k).filter (listed.getD · false)).length+f=ops.size→(∀ i,k≤i→listed.getD i false=false) →
   (∀ j o,listed.getD j false=true→ops[j]? = some o→∀ b∈bindsOn o,listed.getD b false=true)→(∀ s x,ch[s]? = some x→(listed.getD x false=true↔s<t))→t≤ch.length→Hs[t]? = some H →
   RelB G c β (stL ops st0 res ((List.range k).filter (listed.getD · false))) H a w→wpAny P .any ops (Lift G c Q) f listed a w:=by
 simp only[drawOk,Wh,W4]at hok;obtain⟨⟨⟨⟨hkn,hops⟩,hch⟩,hchk⟩,hnd⟩:=hok
 have hop:∀(i:Nat) o,ops[i]? = some o→dstOk nt o=true∧(∀ j∈bindsOn o,if i<k then j<k∧rk.getD j j<rk.getD i i else j<i) ∧
   (i<k→∀ d,o.dst=some d→∀ j,j<k→j≠i→(ops[j]?).bind (·.dst)≠some d)∧(i=k→∀ j,j<k→j∈bindsOn o)∧(k<i→i-1∈bindsOn o):=by
  intro i o ho;have h1:=W7.1 hops i (by simpa using (Wc9.1 ho).1);simp only[ho,Wh]at h1;obtain⟨⟨h2,h3⟩,h4⟩:=h1
  refine⟨h2,λj hj=>by have:=W7.1 h3 j hj;split<;>rename_i hik<;>simp only[hik,if_true,if_false,Wh,W4]at this<;>exact this,λhik d hd=>?_,λhik j hj=>?_,λhik=>?_⟩
  simp only[hik,if_true,hd]at h4;intro j hj hji;have:=W7.1 h4 j (by simpa using hj);simp only[Wbo,Wct,bne_iff_ne]at this;exact this.resolve_left hji
  have hik':¬i<k:=om
  rw[if_neg hik',if_pos hik]at h4
  simpa using W7.1 h4 j (by simpa using hj)
  have h5:¬i<k:=om
  have h6:¬i=k:=om
  simp only[h5,h6,if_false]at h4
  simpa using h4
 have hchain:∀ s x y o,ch[s+1]? = some x→ch[s]? = some y→ops[x]? = some o→y∈bindsOn o:=by
  intro s x y o hx hy ho;have hs:s+1<ch.length:=(We.1 hx).1;have:=W7.1 hch (s+1) (by simpa using hs);simp only[Nat.add_sub_cancel,hx,hy,ho]at this
  simp at this
  exact this.1.1
 have hchlt:∀ s x,ch[s]? = some x→x<k:=λs x hx=>by
  simpa using W7.1 hchk x (Wq hx)
 intro f
 induction f with
 |zero=>
  intro listed t H c a w β h0 h1 hsz hcnt hun hcl hcht ht hHt hr;have hle:=Wfb (listed.getD · false) (List.range k);simp only[Wer]at hle
  have hkeq:k=ops.size:=om
  have hall:∀ x∈List.range k,listed.getD x false=true:=Wce.1 (by rw[Wer];omega);have hfil:(List.range k).filter (listed.getD · false)=List.range k:=Wbr.2 hall
  have htt:t=ch.length:=by
   rcases Wcz t ch.length with hlt|hge
   obtain⟨x,hx⟩:∃ x,ch[t]? = some x:=⟨ch[t],by simp[hlt]⟩;have h2:=hall x (by simpa using hchlt t x hx);have:=(hcht t x hx).1 h2;omega;omega
  subst htt;rw[hlast,Wn]at hHt;subst hHt;rw[hfil]at hr;have h3:=htail c a w β h0 h1 hr;rw[show ops.size-k=0 by omega]at h3
  refine Z5c (k:=k) (λi o ho hki=>(hop i o ho).2.2.2.2 hki) (λi o ho hki j hj=>by have:=(hop i o ho).2.1 j hj;rwa [if_neg om]at this) 0 k listed a w (Ws _) om (λi hi=>hall i (by simpa using hi)) (λi hi hi2=>om) hsz h3
 |succ f ih=>
  intro listed t H c a w β h0 h1 hsz hcnt hun hcl hcht ht hHt hr
  by_cases hall:∀ x∈List.range k,listed.getD x false=true
  have hfil:(List.range k).filter (listed.getD · false)=List.range k:=Wbr.2 hall
  have htt:t=ch.length:=by
   rcases Wcz t ch.length with hlt|hge
   obtain⟨x,hx⟩:∃ x,ch[t]? = some x:=⟨ch[t],by simp[hlt]⟩;have h2:=hall x (by simpa using hchlt t x hx);have:=(hcht t x hx).1 h2;omega;omega
  subst htt;rw[hlast,Wn]at hHt;subst hHt;rw[hfil]at hr hcnt;have h3:=htail c a w β h0 h1 hr;simp only[Wer]at hcnt;rw[show ops.size-k=f+1 by omega]at h3
  refine Z5c (k:=k) (λi o ho hki=>(hop i o ho).2.2.2.2 hki) (λi o ho hki j hj=>by have:=(hop i o ho).2.1 j hj;rwa [if_neg om]at this) (f+1) k listed a w (Ws _) om (λi hi=>hall i (by simpa using hi)) (λi hi hi2=>?_) hsz h3
  have:=hun i hi
  have hil:i<listed.size:=om
  simp[Array.getD,hil]at this⊢;exact this
  have hex:∃ i,i<k∧listed.getD i false=false:=by
   simp only[Wdw]at hall
   refine Wah λhne=>hall λx hx=>?_
   cases hb:listed.getD x false with
   |true=>rfl
   |false=>exact absurd ⟨x,hx,hb⟩ hne
  have hmin:∃ i,(i<k∧listed.getD i false=false)∧∀ j,j<k→rk.getD j j<rk.getD i i→listed.getD j false=true:=by
   obtain⟨i,hi⟩:=hex
   have key:∀ m i,rk.getD i i=m→i<k∧listed.getD i false=false→∃ i,(i<k∧listed.getD i false=false)∧∀ j,j<k→rk.getD j j<rk.getD i i→listed.getD j false=true:=by
    intro m
    induction m using Nat.strongRecOn with
    |_ m ihm=>
     intro i hm hi
     by_cases hj:∃ j,j<k∧rk.getD j j<rk.getD i i∧listed.getD j false=false
     obtain⟨j,hj0,hj1,hj2⟩:=hj;exact ihm _ om j rfl ⟨hj0,hj2⟩
     refine⟨i,hi,λj hj0 hj1=>?_⟩
     cases hb:listed.getD j false with
     |true=>rfl
     |false=>exact absurd ⟨j,hj0,hj1,hb⟩ hj
   exact key _ i rfl hi
  have unl:∀ i,i<ops.size→(listed.getD i true=false↔listed.getD i false=false):=λi hi=>by
   have hil:i<listed.size:=om
   simp[Array.getD,hil]
  obtain⟨i0,⟨hi0,hi0u⟩,hi0m⟩:=hmin
  have hready0:i0∈Region.ready .any ops listed:=by
   have hil:i0<ops.size:=om
   refine Weq.2 ⟨(unl i0 hil).2 hi0u,ops[i0],by simp[hil],λe he hb=>?_⟩
   have h7:=(hop i0 ops[i0] (by simp[hil])).2.1 e.on (Zu0.2 ⟨e,he,hb,rfl⟩);rw[if_pos hi0]at h7;exact hi0m e.on h7.1 h7.2
  refine⟨λhe=>(by rw[he]at hready0;cases hready0),λi hi=>?_⟩
  obtain⟨g1,o,ho,g2⟩:=Weq.1 hi;have hil:i<ops.size:=(Wc9.1 ho).1;have hiu:listed.getD i false=false:=(unl i hil).1 g1
  have hbl:∀ j∈bindsOn o,listed.getD j false=true:=λj hj=>by
   obtain⟨e,he,hb,hon⟩:=Zu0.1 hj;rw[←hon];exact g2 e he hb
  obtain⟨hd,hlt,hfr,hk1,hk2⟩:=hop i o ho
  have hik:i<k:=by
   rcases Wc5 i k with h|h|h
   exact h;have:=hbl i0 (hk1 h i0 hi0);rw[hi0u]at this;cases this;have h3:=hbl (i-1) (hk2 h);rw[hun (i-1) om]at h3;cases h3
  have hfilset:(List.range k).filter ((listed.setIfInBounds i true).getD · false)=(List.range k).filter (λj=>listed.getD j false||j==i):=
   List.filter_congr λj _=>Zuh om
  have hcnt':((List.range k).filter ((listed.setIfInBounds i true).getD · false)).length+f=ops.size:=by
   rw[hfilset,Z6i (listed.getD · false) i hiu (List.range k) List.nodup_range (by simpa using hik)];omega
  have hun':∀ j,k≤j→(listed.setIfInBounds i true).getD j false=false:=λj hj=>by
   rw[Zuh om,hun j hj]
   have:(j==i)=false:=by simp;omega
   simp[this]
  have hstAt:∀ x∈stAt ops k st0 res i,x∈stL ops st0 res ((List.range k).filter (listed.getD · false)):=by
   intro x hx;simp only[stAt,stL,ho,Wck,We5,Wj,Wcu]at hx⊢
   rcases hx with⟨j,hj,hx⟩|hx
   refine .inl ⟨j,Wab.2 ⟨?_,hbl j hj⟩,hx⟩
   have:=hlt j hj;rw[if_pos hik]at this;simp;omega;obtain⟨hx1,hx2⟩:=Wab.1 hx
   refine .inr (Wab.2 ⟨hx1,W7.2 λj hj=>?_⟩)
   obtain⟨hj1,hj2⟩:=Wab.1 hj;have:=W7.1 hx2 j hj1;rw[Wbo]at this
   rcases this with h|h
   exact h;exfalso
   cases hoj:ops[j]? with
   |none=>simp[hoj]at h
   |some oj=>
    simp only[hoj,Wck,We5]at h;have:=hcl j oj hj2 hoj i (Wfc.1 h);rw[hiu]at this;cases this
  have hcl':∀ j oj,(listed.setIfInBounds i true).getD j false=true→ops[j]? = some oj→∀ b∈bindsOn oj,(listed.setIfInBounds i true).getD b false=true:=λj oj hj hoj b hb=>by
   rw[Zuh om,Wbo]at hj⊢
   rcases hj with hj|hj
   exact .inl (hcl j oj hj hoj b hb)
   have:j=i:=by simpa using hj
   subst this;rw[ho]at hoj;cases hoj;exact .inl (hbl b hb)
  have hput:∀(p:PV),res[i]? = some p→∀ x∈stL ops st0 res ((List.range k).filter ((listed.setIfInBounds i true).getD · false)),x∈(stL ops st0 res ((List.range k).filter (listed.getD · false))).putD o.dst p:=by
   intro p hp x hx;rw[hfilset]at hx;simp only[stL,Wj,Wcu,Wab,Wdw]at hx
   have keep:x∈stL ops st0 res ((List.range k).filter (listed.getD · false))→(∀ d,o.dst=some d→x.1≠d)→x∈(stL ops st0 res ((List.range k).filter (listed.getD · false))).putD o.dst p:=by
    intro hm hne
    cases hod:o.dst with
    |none=>exact hm
    |some d=>
     simp only[St.putD,St.put,St.del,W1,Wab];exact .inr ⟨hm,by simpa using hne d hod⟩
   rcases hx with⟨j,⟨hjk,hj⟩,hx⟩|hx
   by_cases hji:j=i
   subst hji;simp only[ho,Wc,hp]at hx
   cases hod:o.dst with
   |none=>simp[hod]at hx
   |some d=>
    simp[hod]at hx;subst hx;simp[St.putD,St.put]
   have hj':listed.getD j false=true:=by simpa [hji]using hj
   refine keep ?_ λd hod=>?_
   simp only[stL,Wj,Wcu,Wab,Wdw];exact .inl ⟨j,⟨hjk,hj'⟩,hx⟩;have h4:=(hfr hik d hod) j hjk hji
   cases hod':(ops[j]?).bind (·.dst)with
   |none=>simp[hod']at hx
   |some d'=>
    cases hrj:res[j]? with
    |none=>simp[hod',hrj]at hx
    |some q=>
     simp[hod',hrj]at hx;subst hx;intro e;exact h4 (by rw[hod'];exact congrArg some e)
   obtain⟨hx1,hx2⟩:=hx
   have hx3:∀ j,j<k→(listed.getD j false=true∨j=i)→(ops[j]?).bind (·.dst)≠some x.1:=λj hj hj2=>by
    have:=W7.1 hx2 j (Wab.2 ⟨by simpa using hj,by rw[Wbo];rcases hj2 with h|h;exact .inl h;exact .inr (by simpa using h)⟩)
    simpa using this
   refine keep ?_ λd hod=>?_
   simp only[stL,Wj]
   refine .inr (Wab.2 ⟨hx1,W7.2 λj hj=>?_⟩)
   obtain⟨hj1,hj2⟩:=Wab.1 hj
   simpa using hx3 j (by simpa using hj1) (.inl hj2)
   have:=hx3 i hik (.inr rfl);intro e;exact this (by simp[ho,hod,e])
  unfold wpOp;simp only[ho]
  have hsz':(listed.setIfInBounds i true).size=ops.size:=by simp[hsz]
  have hdlt:∀ d,o.dst=some d→d<c.nt:=by rw[h1];exact Zzz hd
  cases hfree i hik with
  |skip o' s hs ho' hc hw hp=>
   rw[ho]at ho';cases ho';rw[Zy1 (hr.sub λx h=>hstAt x (hs x h)) hw];simp only[Wy,if_false]
   refine ih _ t H c _ w β h0 h1 hsz' hcnt' hun' hcl' (λs x hx=>?_) ht hHt ((hr.put (p:=.sc undef) (by simp only[VR]) o.dst hdlt).sub (hput _ hp))
   rw[Zuh om]
   have hxi:x≠i:=λe=>hc (by rw[←e];exact Wq hx)
   simpa [hxi]using hcht s x hx
  |quiet o' p s hs ho' hc hw hp h=>
   rw[ho]at ho';cases ho';rw[Zy1 (hr.sub λx h=>hstAt x (hs x h)) hw];simp only[if_true]
   have hpos:posOk ops ch i t=true:=by
    refine W7.2 λs hs=>?_
    cases hcs:ch[s]? with
    |none=>rfl
    |some x=>
     simp only;split;rename_i hst;have hx:=(hcht s x hcs).2 hst
     cases hox:ops[x]? with
     |none=>rfl
     |some ox=>
      simp only[Wck,We5]
      cases hci:(bindsOn ox).contains i with
      |false=>rfl
      |true=>
       have:=hcl x ox hx hox i (Wfc.1 hci);rw[hiu]at this;cases this
     rename_i hst;simp only[ho,Wck,We5]
     cases hci:(bindsOn o).contains x with
     |false=>rfl
     |true=>exact absurd ((hcht s x hcs).1 (hbl x (Wfc.1 hci))) hst
   refine .inl (Z2l ((h t H hHt hpos).at (λx h=>hstAt x (hs x h)) c a w β h0.len hr) λv w' ⟨β',e1,e2⟩=>?_)
   refine ih _ t H c _ w' β' h0 h1 hsz' hcnt' hun' hcl' (λs x hx=>?_) ht hHt ((e1.put e2 o.dst hdlt).sub (hput _ hp))
   rw[Zuh om]
   have hxi:x≠i:=λe=>hc (by rw[←e];exact Wq hx)
   simpa [hxi]using hcht s x hx
  |chain o' p s H1 H2 s1 hs ho' hc hw hp hh1 hh2 h=>
   rw[ho]at ho';cases ho';rw[Zy1 (hr.sub λx h=>hstAt x (hs x h)) hw];simp only[if_true]
   have hst:s=t:=by
    have hnot:¬s<t:=λhs=>by rw[(hcht s i hc).2 hs]at hiu;cases hiu
    cases s with
    |zero=>omega
    |succ s=>
     obtain⟨y,hy⟩:∃ y,ch[s]? = some y:=by
      have:=(We.1 hc).1;exact⟨ch[s],sM⟩
     have:=(hcht s y hy).1 (hbl y (hchain s i y o hc hy ho));omega
   subst hst;rw[hh1,Wn]at hHt;subst hHt
   refine .inl (Z2l (h.at (λx h=>hstAt x (hs x h)) c a w β h0.len hr) λv w' ⟨β',e1,e2⟩=>?_)
   have hslt:=(We.1 hc).1
   refine ih _ (s+1) H2 c _ w' β' h0 h1 hsz' hcnt' hun' hcl' (λs' x hx=>?_) om hh2 ((e1.put e2 o.dst hdlt).sub (hput _ hp))
   rw[Zuh om]
   by_cases hss:s'=s
   subst hss;rw[hc]at hx;cases hx;simp
   have hxi:x≠i:=λe=>hss (by
    subst e
    exact(Wgg (We.1 hx).1 hnd).1 (hx.trans hc.symm))
   have:=hcht s' x hx;simp only[hxi,Wct,Wbo,or_false];rw[this];omega
end draw
def AWP.region {id:Nat} {l:List Nat} (hl:List.range ops.size=l) (h:AOps P G n0 nt ops l Q st H):AWP P G n0 nt (.region id ops false) Q st H:=
 λc a w β h0 h1 hr=>wp_region (by rw[hl];exact h c a w β h0 h1 hr)
def Whk:=@AWP.region
def seqQ (P:Program) (G:Glob) (n0 nt:Nat) (y:Code) (Q:Exit→St→List Blk→Prop):Exit→St→List Blk→Prop
 |.normal,st,H=>AWP P G n0 nt y Q st H
 |e,st,H=>Q e st H
def blockQ (id:Nat) (Q:Exit→St→List Blk→Prop):Exit→St→List Blk→Prop
 |.exit id',st,H=>match Nat.beq id' id with|true=>Q .normal st H|false=>Q (.exit id') st H
 |e,st,H=>Q e st H
def AWP.seq {x y:Code} (h:AWP P G n0 nt x (seqQ P G n0 nt y Q) st H):AWP P G n0 nt (.seq x y) Q st H:=by
 intro c a w β h0 h1 hr
 refine wp_seq (wp_mono (h c a w β h0 h1 hr) λe a' w' ⟨st',H',β',hq,hr'⟩=>?_)
 cases e<;>simp  [seqQ]at hq<;>simp  [Exit.then]
 case normal=>exact hq c a' w' β' h0 h1 hr'
 all_goals exact⟨st',H',β',hq,hr'⟩
def AWP.mono {x:Code} {Q':Exit→St→List Blk→Prop} (h:AWP P G n0 nt x Q st H) (hq:∀ e st H,Q e st H→Q' e st H):AWP P G n0 nt x Q' st H:=
 λc a w β h0 h1 hr=>wp_mono (h c a w β h0 h1 hr) λ_ _ _ ⟨st',H',β',h2,hr'⟩=>⟨st',H',β',hq _ _ _ h2,hr'⟩
def Wc6:=@AWP.mono
def AWP.skip (h:Q .normal st H):AWP P G n0 nt .skip Q st H:=λ_ _ _ β _ _ hr=>wp_skip ⟨st,H,β,h,hr⟩
def AWP.exit {id:Nat} (h:Q (.exit id) st H):AWP P G n0 nt (.exit id) Q st H:=λ_ _ _ β _ _ hr=>wp_exit ⟨st,H,β,h,hr⟩
def AWP.ret (h:Q .ret st H):AWP P G n0 nt .ret Q st H:=λ_ _ _ β _ _ hr=>wp_ret ⟨st,H,β,h,hr⟩
def AWP.block {id:Nat} {x:Code} (h:AWP P G n0 nt x (blockQ id Q) st H):AWP P G n0 nt (.block id x) Q st H:=by
 intro c a w β h0 h1 hr
 refine wp_block (wp_mono (h c a w β h0 h1 hr) λe a' w' ⟨st',H',β',hq,hr'⟩=>?_)
 cases e<;>simp  [blockQ]at hq<;>simp  [Exit.inBlock]
 case exit id'=>
  split at hq
  rw[if_pos sA];exact⟨st',H',β',hq,hr'⟩;rw[if_neg (λh=>sA)];exact⟨st',H',β',hq,hr'⟩
 all_goals exact⟨st',H',β',hq,hr'⟩
def Wf5:=@AWP.block
def AWP.cond {x:Operand} {t e:Code} {b:Bool} (hx:opd G st x=some (.sc (.bool b))) (ht:b=true→AWP P G n0 nt t Q st H) (he:b=false→AWP P G n0 nt e Q st H):AWP P G n0 nt (.cond x t e) Q st H:=by
 intro c a w β h0 h1 hr;exact wp_cond_split (hr.opd hx) (λhb=>ht hb c a w β h0 h1 hr) (λhb=>he hb c a w β h0 h1 hr)
def AWP.loop {x:Code} (I:Nat→St→List Blk→Prop) (n:Nat) (hI:I n st H)
  (round:∀ n st H,I n st H→AWP P G n0 nt x (λe st' H'=>match e with|.normal=>∃ m,m<n∧I m st' H'|e=>Q e st' H') st H):AWP P G n0 nt (.loop x) Q st H:=by
 intro c a w β h0 h1 hr b k cs
 have key:∀ n st H a w β,I n st H→RelB G c β st H a w→∃ e a' w',Lift G c Q e a' w'∧Arrives P (lone (b.at a (.code x::.inLoop x::k)) cs w) b k cs e a' w':=by
  intro n
  induction n using Nat.strongRecOn with
  |_ n ih=>
   intro st H a w β hI hr;obtain⟨e,a1,w1,⟨st',H',β',hq,hr'⟩,harr⟩:=round n st H hI c a w β h0 h1 hr b (.inLoop x::k) cs;cases e;obtain⟨m,hm,hi⟩:=hq;obtain⟨e2,a2,w2,hq2,harr2⟩:=ih m hm st' H' a1 w1 β' hi hr';exact⟨e2,a2,w2,hq2,.of_steps (Steps.trans harr (.one step_inLoop)) harr2⟩;exact⟨_,a1,w1,⟨st',H',β',hq,hr'⟩,.pass (x:=.inLoop x) rfl gD harr⟩;exact⟨_,a1,w1,⟨st',H',β',hq,hr'⟩,.pass (x:=.inLoop x) rfl gD harr⟩;exact⟨_,a1,w1,⟨st',H',β',hq,hr'⟩,.pass (x:=.inLoop x) rfl gD harr⟩;exact⟨_,a1,w1,⟨st',H',β',hq,hr'⟩,.pass (x:=.inLoop x) rfl gD harr⟩;exact⟨_,a1,w1,⟨st',H',β',hq,hr'⟩,.pass (x:=.inLoop x) rfl gD harr⟩
 obtain⟨e,a',w',hq,harr⟩:=key n st H a w β hI hr;exact⟨e,a',w',hq,.of_steps (.one step_loop) harr⟩
def loopQ (id:Nat) (I:Nat→St→List Blk→Prop) (n:Nat) (Q:Exit→St→List Blk→Prop):Exit→St→List Blk→Prop
 |.normal,st,H=>∃ m,m<n∧I m st H
 |.exit j,st,H=>match Nat.beq j id with|true=>Q .normal st H|false=>Q (.exit j) st H
 |e,st,H=>Q e st H
def AWP.bloop {id:Nat} {x:Code} (I:Nat→St→List Blk→Prop) (n:Nat) (hI:I n st H) (round:∀ n st H,I n st H→AWP P G n0 nt x (loopQ id I n Q) st H):AWP P G n0 nt (.block id (.loop x)) Q st H:=by
 refine Wf5 (AWP.loop I n hI λn st H h=>(round n st H h).mono λe st' H' hq=>?_)
 cases e<;>simp  [loopQ]at hq<;>simp
 all_goals exact hq
end
mutual
def PV.ren (f:Nat→Nat):PV→PV
 |.sc v=>.sc v
 |.ro cs o=>.ro cs o
 |.sl s xs=>.sl s xs
 |.agg cs=>.agg (PV.rens f cs)
 |.tup cs=>.tup (PV.rens f cs)
 |.fn g cs=>.fn g (PV.rens f cs)
 |.ptr i o=>.ptr (f i) o
 |.own i n=>.own (f i) n
 |.ept i n k o=>.ept (f i) n k o
 |.mp i=>.mp (f i)
 |.z=>.z
 |.ln n=>.ln n
 |.vw i o n=>.vw (f i) o n
 |.ow i n lo hi=>.ow (f i) n lo hi
 |.oc i n h=>.oc (f i) n h
 |.op i n h=>.op (f i) n h
def PV.rens (f:Nat→Nat):List PV→List PV
 |[]=>[]
 |p::ps=>p.ren f::PV.rens f ps
end
mutual
def OV.ren (f:Nat→Nat):OV→OV
 |.pv p=>.pv (p.ren f)
 |.own t s n cs=>.own t s n (OV.rens f cs)
def OV.rens (f:Nat→Nat):List OV→List OV
 |[]=>[]
 |o::os=>o.ren f::OV.rens f os
end
def Blk.ren (f:Nat→Nat):Blk→Blk
 |.cells cs=>.cells (PV.rens f cs)
 |.buf s t xs sh=>.buf s t xs sh
 |.fb s t xs=>.fb s t (xs.map (PV.rens f))
 |.tr t s n cs=>.tr t s n (OV.rens f cs)
 |.map es cl=>.map ((PV.rens f (es.map (·.2.2))).zipWith (λp x=>(x.1,x.2.1,p)) es) cl
 |.iter m since seen last=>.iter (m.map f) since seen last
 |.far cs=>.far (PV.rens f cs)
 |.dead=>.dead
 |.fm l=>.fm l
def renId (σ:List Nat) (base j:Nat):Nat:=match σ[j]? with|some i=>i|none=>base+(j-σ.length)
section
variable {S:Nat→Nat→Prop} {w:World} {f:Nat→Nat} {β1 β2:List Bnd}
mutual
theorem VR.ren_iff (hf:∀ j,β2[f j]? = β1[j]?):∀(p:PV) (u:Value),VR S β2 w (p.ren f) u↔VR S β1 w p u
 |.sc _,_=>by simp only[PV.ren,VR]
 |.ro _ _,_=>by simp only[PV.ren,VR]
 |.sl _ _,_=>by simp only[PV.ren,VR]
 |.ptr i o,u=>by simp only[PV.ren,VR,hf]
 |.own i n,u=>by simp only[PV.ren,VR,hf]
 |.ept i n k o,u=>by simp only[PV.ren,VR,hf]
 |.mp i,u=>by simp only[PV.ren,VR,hf]
 |.z,u=>by simp only[PV.ren,VR]
 |.ln n,u=>by simp only[PV.ren,VR]
 |.vw i o n,u=>by simp only[PV.ren,VR,hf]
 |.ow i n lo hi,u=>by simp only[PV.ren,VR,hf]
 |.oc i n h,u=>by simp only[PV.ren,VR,hf]
 |.op i n h,u=>by simp only[PV.ren,VR,hf]
 |.agg cs,u=>by
  simp only[PV.ren,VR];exact⟨λ⟨us,e,h⟩=>⟨us,e,(VRs.ren_iff hf cs _).1 h⟩,λ⟨us,e,h⟩=>⟨us,e,(VRs.ren_iff hf cs _).2 h⟩⟩
 |.tup cs,u=>by
  simp only[PV.ren,VR];exact⟨λ⟨us,e,h⟩=>⟨us,e,(VRs.ren_iff hf cs _).1 h⟩,λ⟨us,e,h⟩=>⟨us,e,(VRs.ren_iff hf cs _).2 h⟩⟩
 |.fn g cs,u=>by
  simp only[PV.ren,VR];exact⟨λ⟨us,e,h⟩=>⟨us,e,(VRs.ren_iff hf cs _).1 h⟩,λ⟨us,e,h⟩=>⟨us,e,(VRs.ren_iff hf cs _).2 h⟩⟩
theorem VRs.ren_iff (hf:∀ j,β2[f j]? = β1[j]?):∀(ps:List PV) (us:List Value),VRs S β2 w (PV.rens f ps) us↔VRs S β1 w ps us
 |[],[]=>by simp only[PV.rens,VRs]
 |[],_::_=>by simp only[PV.rens,VRs]
 |_::_,[]=>by simp only[PV.rens,VRs]
 |p::ps,u::us=>by simp only[PV.rens,VRs];rw[VR.ren_iff hf p u,VRs.ren_iff hf ps us]
end
def Wgh:=@VR.ren_iff
def Wbw:=@VRs.ren_iff
mutual
theorem OVR.ren_iff {base:Nat} (hf:∀ j,β2[f j]? = β1[j]?):∀(o:OV) (u:Value) (bs:List Nat),OVR S β2 w base (o.ren f) u bs↔OVR S β1 w base o u bs
 |.pv p,u,bs=>by simp only[OV.ren,OVR,VR.ren_iff hf p u]
 |.own t s n cs,u,bs=>by simp only[OV.ren,OVR,OVRs.ren_iff hf cs]
theorem OVRs.ren_iff {base:Nat} (hf:∀ j,β2[f j]? = β1[j]?):∀(os:List OV) (us:List Value) (bs:List Nat),OVRs S β2 w base (OV.rens f os) us bs↔OVRs S β1 w base os us bs
 |[],[],_=>by simp only[OV.rens,OVRs]
 |[],_::_,_=>by simp only[OV.rens,OVRs]
 |_::_,[],_=>by simp only[OV.rens,OVRs]
 |o::os,u::us,bs=>by simp only[OV.rens,OVRs,OVR.ren_iff hf o,OVRs.ren_iff hf os us]
end
def Wgx:=@OVR.ren_iff
end
def Wdc:=@List.cons_append
def PV.rens_append (f:Nat→Nat):∀ xs ys,PV.rens f (xs++ys)=PV.rens f xs++PV.rens f ys
 |[],_=>rfl
 |x::xs,ys=>by simp  [Wdc,PV.rens,PV.rens_append f xs ys]
def Wha:=@PV.rens_append
def PV.rens_length (f:Nat→Nat):∀ xs,(PV.rens f xs).length=xs.length
 |[]=>rfl
 |x::xs=>by simp  [PV.rens,Wak,PV.rens_length f xs]
def Whb:=@PV.rens_length
def Wb0:=@List.flatten_cons
def PV.rens_flat (f:Nat→Nat):∀(xs:List (List PV)),(xs.map (PV.rens f)).flatten=PV.rens f xs.flatten
 |[]=>rfl
 |x::xs=>by simp  [W0,Wb0,Wha,PV.rens_flat f xs]
mutual
theorem PV.ids_ren (f:Nat→Nat) {q q':Nat→Bool} (h:∀ j,q j=true→q' (f j)=true):∀(p:PV),p.ids q=true→(p.ren f).ids q'=true
 |.sc _,_|.ro _ _,_|.sl _ _,_|.z,_|.ln _,_=>by simp only[PV.ren,PV.ids]
 |.ptr _ _,hp|.own _ _,hp|.ept _ _ _ _,hp|.mp _,hp|.vw _ _ _,hp|.ow _ _ _ _,hp|.oc _ _ _,hp|.op _ _ _,hp=>by simp only[PV.ren,PV.ids]at hp⊢;exact h _ hp
 |.agg cs,hp|.tup cs,hp|.fn _ cs,hp=>by simp only[PV.ren,PV.ids]at hp⊢;exact PV.idss_ren f h cs hp
theorem PV.idss_ren (f:Nat→Nat) {q q':Nat→Bool} (h:∀ j,q j=true→q' (f j)=true):∀(ps:List PV),PV.idss q ps=true→PV.idss q' (PV.rens f ps)=true
 |[],_=>by simp only[PV.rens,PV.idss]
 |p::ps,hp=>by
  simp only[PV.rens,PV.idss,Bool.and_eq_true]at hp⊢;exact⟨PV.ids_ren f h p hp.1,PV.idss_ren f h ps hp.2⟩
theorem PV.ids_ren_inv (f:Nat→Nat) {q q':Nat→Bool} (h:∀ j,q' (f j)=true→q j=true):∀(p:PV),(p.ren f).ids q'=true→p.ids q=true
 |.sc _,_|.ro _ _,_|.sl _ _,_|.z,_|.ln _,_=>by simp only[PV.ids]
 |.ptr _ _,hp|.own _ _,hp|.ept _ _ _ _,hp|.mp _,hp|.vw _ _ _,hp|.ow _ _ _ _,hp|.oc _ _ _,hp|.op _ _ _,hp=>by simp only[PV.ren,PV.ids]at hp⊢;exact h _ hp
 |.agg cs,hp|.tup cs,hp|.fn _ cs,hp=>by simp only[PV.ren,PV.ids]at hp⊢;exact PV.idss_ren_inv f h cs hp
theorem PV.idss_ren_inv (f:Nat→Nat) {q q':Nat→Bool} (h:∀ j,q' (f j)=true→q j=true):∀(ps:List PV),PV.idss q' (PV.rens f ps)=true→PV.idss q ps=true
 |[],_=>by simp only[PV.idss]
 |p::ps,hp=>by
  simp only[PV.rens,PV.idss,Bool.and_eq_true]at hp⊢;exact⟨PV.ids_ren_inv f h p hp.1,PV.idss_ren_inv f h ps hp.2⟩
end
def Wft:=@PV.idss_ren
def Wfd:=@PV.idss_ren_inv
section
variable {S:Nat→Nat→Prop} {w:World} {f:Nat→Nat} {β1 β2:List Bnd}
def Blk.isCells_ren (f:Nat→Nat) (k:Blk):(k.ren f).isCells=k.isCells:=by cases k<;>rfl
def Wdm:=@Blk.isCells_ren
def BlkR.unren {base base' i j:Nat} {e:Bnd} {k:Blk} (hf:∀ j,β2[f j]? = β1[j]?) (hk:k.isCells=true) (hlt:∀ x,f x<i→x<j) (h:BlkR S β2 w base i e (k.ren f)):BlkR S β1 w base' j e k:=by
 cases k with
 |cells cs=>
  obtain⟨h3,vs,t,h4,h5⟩:=h
  refine⟨Wfd _ (q':=λj=>decide (j<i)) (λk hk=>?_) cs h3,vs,t,h4,(Wbw hf cs _).1 h5⟩
  grind
 |fm l=>exact h
 |buf s t xs sh=>cases hk
 |fb s t xs=>cases hk
 |tr t s n cs=>cases hk
 |map es cl=>cases hk
 |far cs=>cases hk
 |dead=>cases hk
 |iter m since seen last=>cases hk
def BlkR.doren {S':Nat→Nat→Prop} {base base' i j:Nat} {e:Bnd} {k:Blk} (hf:∀ j,β2[f j]? = β1[j]?) (hk:k.isCells=true) (hlt:∀ x,x<j→f x<i) (hx:Ext S w S' w) (h:BlkR S β1 w base j e k):BlkR S' β2 w base' i e (k.ren f):=by
 cases k with
 |cells cs=>
  obtain⟨g1,vs,t,g2,g3⟩:=h
  refine⟨Wft _ (q:=λx=>decide (x<j)) (λx hx'=>?_) cs g1,vs,t,g2,Wal hx (W3 _ _) ((Wbw hf cs _).2 g3)⟩
  grind
 |fm l=>exact h
 |buf s t xs sh=>cases hk
 |fb s t xs=>cases hk
 |tr t s n cs=>cases hk
 |map es cl=>cases hk
 |far cs=>cases hk
 |dead=>cases hk
 |iter m since seen last=>cases hk
def BlkR.extC {S':Nat→Nat→Prop} {β':List Bnd} {w':World} {base base' i:Nat} {e:Bnd} {k:Blk} (hk:k.isCells=true) (hx:Ext S w S' w') (hw:w'.heap[e.b]? = w.heap[e.b]?) (hb:BExt (λj=>decide (j<i)) β1 β') (h:BlkR S β1 w base i e k):BlkR S' β' w' base' i e k:=by
 cases k with
 |cells cs=>
  obtain⟨k1,vs,t,k2,k3⟩:=h;exact⟨k1,vs,t,Zg7 hw k2,Wdi hx hb _ _ k1 k3⟩
 |fm l=>exact FmR.congr hw h
 |buf s t xs sh=>cases hk
 |fb s t xs=>cases hk
 |tr t s n cs=>cases hk
 |map es cl=>cases hk
 |far cs=>cases hk
 |dead=>cases hk
 |iter m since seen last=>cases hk
def Blk.ren_at (f:Nat→Nat) (k:Blk) (e:Bnd):(k.ren f).at e=k.at e:=by cases k<;>rfl
def Whl:=@Blk.ren_at
def Blk.ren_free (f:Nat→Nat) (k:Blk) (e:Bnd) (b hi:Nat):(k.ren f).free e b hi↔k.free e b hi:=by cases k<;>exact Wcl
def Blk.farO (m:Nat):Blk→Bool
 |.tr _ _ _ cs=>OV.idss (λj=>decide (j<m)) cs
 |_=>true
def Blk.isRet:Blk→Bool
 |.cells _=>true
 |.fm _=>true
 |.buf _ _ _ sh=>!sh
 |.tr ..=>true
 |_=>false
def BlkR.dorenR {S':Nat→Nat→Prop} {base base' i j:Nat} {e:Bnd} {k:Blk} (hbase:base'≤base) (hf:∀ j,β2[f j]? = β1[j]?) (hk:k.isRet=true) (hlt:∀ x,x<j→f x<i) (hx:Ext S w S' w) (h:BlkR S β1 w base j e k):BlkR S' β2 w base' i e (k.ren f):=by
 cases k with
 |cells cs=>
  obtain⟨g1,vs,t,g2,g3⟩:=h
  refine⟨Wft _ (q:=λx=>decide (x<j)) (λx hx'=>?_) cs g1,vs,t,g2,Wal hx (W3 _ _) ((Wbw hf cs _).2 g3)⟩
  grind
 |fm l=>exact h
 |buf s t xs sh=>
  obtain⟨h1,h2,h3,vals,h4,h5⟩:=h;exact⟨h1,h2,h3,vals,Zzx hbase h4,Wal hx (W3 _ _) h5⟩
 |tr t s n cs=>
  exact⟨h.1,h.2.1,h.2.2.1,Wf2 hx (W3 _ _) _ _ _ (λ_ _=>rfl) ((Wgx hf (.own t s n cs) _ _).2 (OVR.base hbase _ _ _ h.2.2.2))⟩
 |fb s t xs=>cases hk
 |map es cl=>cases hk
 |far cs=>cases hk
 |dead=>cases hk
 |iter m since seen last=>cases hk
def fpB (e:Bnd) (k:Blk):Bnd:=⟨e.b,e.v,e.n,e.s,match k with|.cells _|.fm _=>[e.b]|.buf ..=>e.v.ownBlock.toList|_=>e.bs⟩
def Wl:=@List.mem_singleton
def fpB_at {e:Bnd} {k:Blk} (hk:k.isRet=true) (b:Nat):k.at (fpB e k) b↔b∈(fpB e k).bs:=by
 cases k with
 |cells cs=>simp  [Blk.at,fpB,Wl];grind
 |fm l=>simp  [Blk.at,fpB,Wl];grind
 |buf s t xs sh=>simp  [Blk.at,fpB,Option.mem_toList]
 |tr t s n cs=>exact Wcl
 |fb s t xs=>cases hk
 |map es cl=>cases hk
 |far cs=>cases hk
 |dead=>cases hk
 |iter m since seen last=>cases hk
def Zaiy {S:Nat→Nat→Prop} {base i:Nat} {e:Bnd} {k:Blk} (hk:k.isRet=true) (h:BlkR S β1 w base i e k):BlkR S β1 w base i (fpB e k) k:=by
 cases k with
 |cells cs=>exact h
 |fm l=>exact h
 |buf s t xs sh=>exact h
 |tr t s n cs=>exact h
 |fb s t xs=>cases hk
 |map es cl=>cases hk
 |far cs=>cases hk
 |dead=>cases hk
 |iter m since seen last=>cases hk
def Z3y {e:Bnd} {k:Blk} (b:Nat):k.at (fpB e k) b↔k.at e b:=by cases k<;>exact Wcl
def BlkR.extR {S':Nat→Nat→Prop} {β':List Bnd} {base base' i m:Nat} {e:Bnd} {k:Blk} (hk:k.isRet=true) (hbase:base'≤base) (hx:Ext S w S' w) (hb:BExt (λj=>decide (j<i)) β1 β') (hb2:BExt (λj=>decide (j<m)) β1 β') (hfar:k.farO m=true) (h:BlkR S β1 w base i e k):BlkR S' β' w base' i e k:=by
 cases k with
 |cells cs=>
  obtain⟨k1,vs,t,k2,k3⟩:=h;exact⟨k1,vs,t,k2,Wdi hx hb _ _ k1 k3⟩
 |fm l=>exact h
 |buf s t xs sh=>
  obtain⟨h1,h2,h3,vals,h4,h5⟩:=h;exact⟨h1,h2,h3,vals,Zzx hbase h4,Wal hx (W3 _ _) h5⟩
 |tr t s n cs=>
  exact⟨h.1,h.2.1,h.2.2.1,OVR.ext hx hb2 (.own t s n cs) _ _ (hfar) (OVR.base hbase _ _ _ h.2.2.2)⟩
 |fb s t xs=>cases hk
 |map es cl=>cases hk
 |far cs=>cases hk
 |dead=>cases hk
 |iter m since seen last=>cases hk
end
structure InOk (G:Glob) (S0:Nat→Nat→Prop) (β0:List Bnd) (H:List Blk) (w:World):Prop where
 ctx:OkCtx G ⟨w,S0,β0,0,[]⟩
 len:β0.length=H.length
 blk:∀(i:Nat) e k,β0[i]? = some e→H[i]? = some k→k.isCells=true∧BlkR S0 β0 w 0 i e k
 inj:∀(i j:Nat) e f,i≠j→β0[i]? = some e→β0[j]? = some f→e.b≠f.b
def stab1 (S0:Nat→Nat→Prop) (γ:List Bnd) (w w':World) (b hi:Nat):Prop:=S0 b hi∨(w.heap.size≤b∧b<w'.heap.size∧∀ e∈γ,b∉e.bs)
structure OutOk (S0:Nat→Nat→Prop) (β0 γ:List Bnd) (H:List Blk) (w w':World):Prop where
 len:(β0++γ).length=H.length
 blk:∀(i:Nat) e k,β0[i]? = some e→H[i]? = some k→k.isCells=true∧BlkR (stab1 S0 γ w w') (β0++γ) w' 0 i e k
 new:∀(i:Nat) e k,γ[i]? = some e→H[β0.length+i]? = some k→k.isRet=true∧(∀ b,k.at e b↔b∈e.bs)∧BlkR (stab1 S0 γ w w') (β0++γ) w' w.heap.size (β0.length+i) e k
 inj:∀(i j:Nat) e f b,i≠j→γ[i]? = some e→γ[j]? = some f→b∈e.bs→b∈f.bs→False
 loc:∀ e∈γ,∀ b∈e.bs,w.heap.size≤b∧b<w'.heap.size
 frm:Frm ⟨w,S0,β0,0,[]⟩ w'
def ACall (P:Program) (G:Glob) (f:FuncId) (args:List PV) (H:List Blk) (R:PV→List Blk→Prop):Prop:=
 ∀ S0 β0 w (cargs:Array Value),InOk G S0 β0 H w→VRs S0 β0 w args cargs.toList →
  Calls P f cargs w λe w'=>∃ v p H' γ,e=.returned v∧R p H'∧OutOk S0 β0 γ H' w w'∧VR (stab1 S0 γ w w') (β0++γ) w' p v
inductive Wk (H:List Blk) (any:Bool):PV→PV→Prop where
 |refl (p:PV):Wk H any p p
 |nil (s:Nat):Wk H any (.sc (.slice none 0 0)) (.sl s [])
 |own (i s t:Nat) (xs:List (List PV)) (sh:Bool) (h:H[i]? = some (.buf s t xs sh)) (hs:any=true∨sh=true):Wk H any (.own i xs.length) (.sl s xs)
inductive Wks (H:List Blk) (any:Bool):List PV→List PV→Prop where
 |nil:Wks H any [] []
 |cons (p q:PV) (ps qs:List PV) (h:Wk H any p q) (hs:Wks H any ps qs):Wks H any (p::ps) (q::qs)
def Whc:=@List.take_left
def Whd:=@List.drop_left
def Wbg:=@List.getElem?_take
def Zih {S:Nat→Nat→Prop} {w:World} {g s:Nat}:∀ xs vals o,(∀ x∈xs,x.length=s)→VRs S [] w xs.flatten vals →
  (∀ j u,vals[j]? = some u→w.cell? ⟨g,o+j,none⟩=some u)→VRows S [] w g s o xs
 |[],_,_,_,_,_=>by simp  [VRows]
 |x::xs,vals,o,hl,h,hc=>by
  simp at h
  have h1:=Wdj x.length _ _ h;have h2:=Wdk x.length _ _ h;rw[Whc]at h1;rw[Whd]at h2
  refine⟨⟨hl x sM,VRow.mk x _ o h1 λj u hj=>hc j u ?_⟩,?_⟩
  rw[Wbg]at hj
  split at hj
  exact hj;cases hj
  refine Zih xs _ (o+s) gD h2 λj u hj=>?_
  grind
def Wm:=@List.length_append
def Wcw:=@Nat.succ_mul
def Zsd {s:Nat}:∀(xs:List (List PV)),(∀ x∈xs,x.length=s)→xs.flatten.length=xs.length*s
 |[],_=>sM
 |x::xs,h=>by
  simp only[Wb0,Wm,Wak,Wcw];rw[Zsd xs λy hy=>h y gD,h x sM];omega
section
variable {P:Program} {G:Glob} {c:Ctx} {β:List Bnd} {st:St} {H:List Blk} {a:Act} {w:World} {n0 nt:Nat} {o:Oper}
def Waj:=@List.eq_nil_of_length_eq_zero
def own_sl {S':Nat→Nat→Prop} {w:World} {β β':List Bnd} {base i s t n:Nat} {e:Bnd} {xs:List (List PV)} {sh:Bool} {u:Value} (he:β[i]? = some e)
  (hb:BlkR S' β w base i e (.buf s t xs sh)) {S:Nat→Nat→Prop} (hn:n=xs.length) (h:VR S β w (.own i n) u) (hS:∀ g,e.v.ownBlock=some g→S' g (xs.length*s)):VR S' β' w (.sl s xs) u:=by
 obtain⟨h1,h2,h3,vals,h4,h5⟩:=hb;obtain⟨_,e',g1,g2,g3⟩:=h;rw[he]at g1;cases g1;have hu:=g3 om;subst hu;obtain⟨h6,h7⟩:=h4
 rcases h7 with⟨h7,h8⟩|⟨g,cap,cur,e1,e2,e3,e4,e5,e6,e7⟩
 have:=Waj h8;subst this;exact⟨none,0,gD,Ws _,.inl rfl⟩
 refine⟨some ⟨g,0,none⟩,cap,e1,e4,.inr ⟨g,0,rfl,by simpa using hS g (by rw[e1];rfl),?_⟩⟩
 refine Zih xs vals 0 h3 h5 λj u hj=>?_
 rw[Zgh e3]
 grind
def RelB.wk (h:RelB G c β st H a w) {p q:PV} {u:Value} (hp:VR (stab c β H w) β w p u) (hw:Wk H false p q):VR (stab c β H w) β w q u:=by
 cases hw;exact hp;simp only[VR]at hp⊢;subst hp;exact⟨none,0,rfl,Ws _,.inl trivial⟩;rename_i i s t xs sh hb hs;have hp':=hp;obtain⟨_,e,g1,g2,g3⟩:=hp'
 refine own_sl g1 (h.blk i e _ g1 hb) rfl hp λg hg=>?_
 refine .inr ⟨?_,at_lt (h.blk i e _ g1 hb) (b:=g) hg,λj f k k1 k2=>?_⟩
 by_cases hi:i<c.β0.length
 obtain⟨cs,hc,hcf⟩:=h.cel i hi;rw[hb]at hc;cases hc;cases hcf;exact(h.loc i e _ g om g1 hb hg).1
 by_cases hj:j=i
 subst hj;rw[g1]at k1;rw[hb]at k2;cases k2;intro _
 rcases hs with hs|hs
 cases hs;exact⟨hs,Ws _⟩
 cases k with
 |cells cs=>exact λhbb=>h.inj j i f e _ _ g hj k1 k2 g1 hb (by simp[Blk.at,hbb]) hg
 |map es cl=>exact λhbb=>h.inj j i f e _ _ g hj k1 k2 g1 hb (by simp[Blk.at,hbb]) hg
 |far cs=>exact λhbb=>h.inj j i f e _ _ g hj k1 k2 g1 hb (by simp[Blk.at,hbb]) hg
 |dead=>trivial
 |fm l=>exact λhbb=>h.inj j i f e _ _ g hj k1 k2 g1 hb (by simp[Blk.at,hbb]) hg
 |iter m since seen last=>exact λhbb=>h.inj j i f e _ _ g hj k1 k2 g1 hb (by simp[Blk.at,hbb]) hg
 |buf s' t' xs' sh'=>exact λhbb=>absurd hg λhg'=>h.inj j i f e _ _ g hj k1 k2 g1 hb hbb hg'
 |fb s' t' xs'=>exact λhbb=>h.inj j i f e _ _ g hj k1 k2 g1 hb hbb hg
 |tr t' s' n' cs'=>exact Z76 λhbb=>h.inj j i f e _ _ g hj k1 k2 g1 hb hbb hg
def RelB.wks (h:RelB G c β st H a w) {ps qs:List PV} (hw:Wks H false ps qs):∀ us ,VRs (stab c β H w) β w ps us→VRs (stab c β H w) β w qs us:=by
 induction hw with
 |nil=>grind
 |cons p q ps qs h1 h2 ih=>
  intro us hp;cases us
  simp  [VRs]at hp
  rename_i u us;exact⟨h.wk hp.1 h1,ih us hp.2⟩
def Z6j (h:RelB G c β st H a w) {b hi:Nat} (hs:stab c β H w b hi) {i:Nat} {e:Bnd} {k:Blk} (he:β[i]? = some e) (hk:H[i]? = some k) (hm:k.isIn=true):e.b≠b:=by
 rcases hs with hs|⟨h1,_,h3⟩
 obtain⟨h4,h5⟩:=h.ok.old b hi hs
 by_cases hl:i<c.β0.length
 obtain⟨γ,hγ⟩:=h.pre
 have:e∈c.β0:=by
  grind
 exact h5 e this;have:=h.loc i e _ e.b om he hk (Wex hm e);omega;exact(Wey hm e b hi).1 (h3 i e _ he hk)
def Zp7 (h:RelB G c β st H a w) {b hi:Nat} (hs:stab c β H w b hi):b<w.heap.size:=by
 rcases hs with hs|⟨_,h2,_⟩
 have:=(h.ok.old b hi hs).1;have:=h.frm.size;omega;omega
def setAll:List Nat→List Blk→List Blk→List Blk
 |i::σ,k::ks,H=>setAll σ ks (H.set i k)
 |_,ks,H=>H++ks
def Wac:=@List.getElem?_append_left
def Wbd:=@List.getElem?_set_ne
def Z6k:∀ σ ks H,σ.length≤ks.length→σ.Nodup→(∀ i∈σ,i<H.length)→∀ i,
  (∀(j:Nat),σ[j]? = some i→(setAll σ ks H)[i]? = ks[j]?)∧(i<H.length→i∉σ→(setAll σ ks H)[i]? = H[i]?)∧(∀ j,i=H.length+j→(setAll σ ks H)[i]? = ks[σ.length+j]?)
 |[],ks,H,_,_,_,i=>⟨λj hj=>gD,λhi _=>by simp[setAll,Wac hi],λj hj=>by simp  [setAll];grind⟩
 |s::σ,[],H,hl,_,_,_=>gD
 |s::σ,k::ks,H,hl,hn,hlt,i=>by
  have ih:=Z6k σ ks (H.set s k) gD (Wfa.1 hn).2 gD i
  refine⟨λj hj=>?_,λhi hni=>?_,λj hj=>?_⟩
  cases j;simp only[setAll]
  grind
  simp  [setAll];grind;simp  [setAll]
  have hne:i≠s:=λe=>hni (by simp[e])
  rw[ih.2.1 gD gD,Wbd (Wcb hne)];simp only[setAll];rw[ih.2.2 j gD]
  grind
def Z02:∀ σ ks H,σ.length≤ks.length→(setAll σ ks H).length=H.length+(ks.length-σ.length)
 |[],ks,H,_=>by simp[setAll]
 |s::σ,[],H,hl=>gD
 |s::σ,k::ks,H,hl=>by
  simp  [setAll];rw[Z02 σ ks (H.set s k) gD];simp
end
section
variable {P:Program} {G:Glob} {c:Ctx} {β:List Bnd} {st:St} {H:List Blk} {a:Act} {w:World} {n0 nt:Nat} {o:Oper}
def Wbu:=@List.map_nil
def VRs.of_opds (h:RelB G c β st H a w):∀(xs:List Operand) ps,xs.map (opd G st)=ps.map some→VRs (stab c β H w) β w ps (xs.map a.eval)
 |[],[],_=>by simp  [Wbu,VRs]
 |[],_::_,h=>gD
 |_::_,[],h=>gD
 |x::xs,p::ps,hx=>by
  simp at hx
  exact⟨h.opd hx.1,VRs.of_opds h xs ps hx.2⟩
def We0:=@VRs.of_opds
def Wau:=@List.pairwise_iff_getElem
def Z6l {σ:List Nat} (h:σ.Pairwise (·<·)) {j k x y:Nat} (hj:σ[j]? = some x) (hk:σ[k]? = some y) (hlt:j<k):x<y:=by
 obtain⟨h1,rfl⟩:=We.1 hj;obtain⟨h2,rfl⟩:=We.1 hk;exact Wau.1 h j k h1 h2 hlt
def Wba:=@List.getElem?_map
def Wa5:=@List.mem_iff_getElem?
def Whm:=@List.filterMap_cons_some
def Wfe:=@List.getElem?_eq_none
def Wa6:=@List.getElem?_append_right
def Whe:=@List.getElem?_eq_none_iff
def RelB.call (h:RelB G c β st H a w) {σ:List Nat} (hs:σ.Pairwise (·<·)) {H0:List Blk} (hcl:H0.all Blk.isCells=true)
  (hH0:H0.map (λk=>some (k.ren (renId σ H.length)))=σ.map (H[·]?)) :
  ∃ β0,(∀ j,β[renId σ H.length j]? = β0[j]?)∧InOk G (stab c β H w) β0 H0 w ∧
   ∀ γ H1 w',OutOk (stab c β H w) β0 γ H1 w w' →
    RelB G c (β++γ) st (setAll σ (H1.map (Blk.ren (renId σ H.length))) H) a w' ∧
    (∀ j,(β++γ)[renId σ H.length j]? = (β0++γ)[j]?) ∧
    Ext (stab c β H w) w (stab c (β++γ) (setAll σ (H1.map (Blk.ren (renId σ H.length))) H) w') w' ∧
    Ext (stab1 (stab c β H w) γ w w') w' (stab c (β++γ) (setAll σ (H1.map (Blk.ren (renId σ H.length))) H) w') w':=by
 have hlen0:H0.length=σ.length:=by simpa using congrArg List.length hH0
 have hget:∀(j i:Nat),σ[j]? = some i→∃ k,H0[j]? = some k∧k.isCells=true∧H[i]? = some (k.ren (renId σ H.length)):=λj i hj=>by
  have h1:=congrArg (λl:List (Option Blk)=>l[j]?) hH0;simp only[Wba,hj,Wck]at h1
  cases h2:H0[j]? with
  |none=>simp[h2]at h1
  |some k=>
   simp only[h2,Wck,Wn]at h1;exact⟨k,rfl,W7.1 hcl k (Wq h2),h1.symm⟩
 have hσlt:∀ i∈σ,i<H.length:=λi hi=>by
  obtain⟨j,hj⟩:=Wa5.1 hi;obtain⟨k,_,_,h2⟩:=hget j i hj;exact(We.1 h2).1
 have hnd:σ.Nodup:=hs.imp λhlt=>om
 have hβex:∀ i∈σ,∃ e,β[i]? = some e:=λi hi=>by
  have:i<β.length:=by rw[h.len];exact hσlt i hi
  exact⟨β[i],by simp[this]⟩
 let β0:List Bnd:=σ.filterMap (β[·]?)
 have hβ0:∀(j:Nat),β0[j]? = (σ[j]?).bind (β[·]?):=by
  have key:∀(τ:List Nat),(∀ i∈τ,∃ e,β[i]? = some e)→∀(j:Nat),(τ.filterMap (β[·]?))[j]? = (τ[j]?).bind (β[·]?):=by
   intro τ
   induction τ with
   |nil=>intro _ j;simp
   |cons t τ ih=>
    intro hm j;obtain⟨e,he⟩:=hm t sM;rw[Whm he]
    cases j with
    |zero=>simp[he]
    |succ j=>simpa using ih (λi hi=>hm i (by simp[hi])) j
  exact key σ hβex
 have hβ0len:β0.length=σ.length:=by
  have:∀(τ:List Nat),(∀ i∈τ,∃ e,β[i]? = some e)→(τ.filterMap (β[·]?)).length=τ.length:=by
   intro τ
   induction τ with
   |nil=>intro _;simp
   |cons t τ ih=>
    intro hm;obtain⟨e,he⟩:=hm t sM;rw[Whm he]
    simpa using ih (λi hi=>hm i (by simp[hi]))
  exact this σ hβex
 have hren:∀ j,β[renId σ H.length j]? = β0[j]?:=λj=>by
  rw[hβ0];unfold renId
  cases hj:σ[j]? with
  |some i=>simp
  |none=>simp only[Option.bind_none];exact Wfe (by rw[h.len];omega)
 have hmem0:∀ e∈β0,∃(i:Nat) (k:Blk),i∈σ∧β[i]? = some e∧H[i]? = some k∧k.isCells=true:=λe he=>by
  obtain⟨j,hj⟩:=Wa5.1 he;rw[hβ0]at hj
  cases hσ:σ[j]? with
  |none=>simp[hσ]at hj
  |some i=>
   simp only[hσ,Wc]at hj;obtain⟨k,_,hk,h2⟩:=hget j i hσ;exact⟨i,_,Wq hσ,hj,h2,by rw[Wdm];exact hk⟩
 have hmono:∀(j k x:Nat),σ[j]? = some x→renId σ H.length k<x→k<j:=λj k x hj hlt=>by
  rcases Wcz k j with h1|h1
  exact h1;exfalso
  unfold renId at hlt
  cases hk:σ[k]? with
  |none=>
   simp only[hk]at hlt;have:=hσlt x (Wq hj);omega
  |some y=>
   simp only[hk]at hlt
   rcases Nat.lt_or_eq_of_le h1 with h2|h2
   have:=Z6l hs hj hk h2;omega;subst h2;rw[hj]at hk;cases hk;omega
 refine⟨β0,hren,⟨⟨?_,?_,?_,?_⟩,by rw[hβ0len,hlen0],?_,?_⟩,?_⟩
 exact λb hi hst=>⟨Zp7 h hst,λe he=>by
  obtain⟨i,k,_,h1,h2,hk⟩:=hmem0 e he
  exact Z6j h hst h1 h2 (Wbn hk)⟩
 intro g cs hg;obtain⟨h1,h2⟩:=h.ok.glob g cs hg;exact⟨h.ext0.stab _ _ h1,Wf1 h.ext0 (W3 _ _) g cs.length h1 cs 0 om (Wcv cs) h2⟩;intro e he;obtain⟨i,k,_,h1,h2,hk⟩:=hmem0 e he;exact at_lt (h.blk i e _ h1 h2) (Wex (Wbn hk) e)
 exact λb hi hi' h1 h2=>h.ok.stab h1 h2
 intro j e k he hk;rw[hβ0]at he
 cases hσ:σ[j]? with
 |none=>simp[hσ]at he
 |some i=>
  simp only[hσ,Wc]at he;obtain⟨k',h1,hc,h2⟩:=hget j i hσ;rw[h1]at hk;cases hk;exact⟨hc,BlkR.unren hren hc (λx hx=>hmono _ _ _ hσ hx) (h.blk i e _ he h2)⟩
 intro i j e f hij he hf hb;rw[hβ0]at he hf
 cases hσi:σ[i]? with
 |none=>simp[hσi]at he
 |some x=>
  cases hσj:σ[j]? with
  |none=>simp[hσj]at hf
  |some y=>
   simp only[hσi,hσj,Wc]at he hf;obtain⟨k1,_,hk1,h2⟩:=hget i x hσi;obtain⟨k2,_,hk2,h3⟩:=hget j y hσj
   have hxy:x≠y:=λe=>hij (by
    subst e
    exact(Wgg (We.1 hσi).1 hnd).1 (hσi.trans hσj.symm))
   exact h.inj x y e f _ _ e.b hxy he h2 hf h3 (Wex (Wbn (by rw[Wdm];exact hk1)) e) (by rw[Wcx (Wbn (by rw[Wdm];exact hk2)) f];first|exact hb|exact hb.symm|rw[hb])
 intro γ H1 w' ho
 have hlH1:H1.length=σ.length+γ.length:=by
  have:=ho.len;rw[Wm,hβ0len]at this;exact this.symm
 let ks:=H1.map (Blk.ren (renId σ H.length))
 have hks:ks.length=H1.length:=by simp[ks]
 have hset:=λi=>Z6k σ ks H om hnd hσlt i
 have hfrm:=ho.frm;have hwsz:w.heap.size≤w'.heap.size:=hfrm.size;have hlβ:=hβ0len
 have hplace:∀(i:Nat) e k,(β++γ)[i]? = some e→(setAll σ ks H)[i]? = some k →
   (i∉σ∧β[i]? = some e∧H[i]? = some k) ∨
   (∃(j:Nat) (k0:Blk),σ[j]? = some i∧i<H.length∧β[i]? = some e∧β0[j]? = some e∧H1[j]? = some k0∧k=k0.ren (renId σ H.length)) ∨
   (∃(q:Nat) (k0:Blk),i=H.length+q∧γ[q]? = some e∧H1[σ.length+q]? = some k0∧k=k0.ren (renId σ H.length)):=by
  intro i e k he hk
  by_cases hi:i<H.length
  have hiβ:i<β.length:=by rw[h.len];exact hi
  rw[Wac hiβ]at he
  by_cases hm:i∈σ
  obtain⟨j,hj⟩:=Wa5.1 hm;rw[(hset i).1 j hj]at hk;simp only[ks,Wba,Wg]at hk;obtain⟨k0,h1,rfl⟩:=hk;exact .inr (.inl ⟨j,k0,hj,hi,he,by rw[hβ0,hj];exact he,h1,rfl⟩);rw[(hset i).2.1 hi hm]at hk;exact .inl ⟨hm,he,hk⟩;obtain⟨j,rfl⟩:∃ j,i=H.length+j:=⟨i-H.length,om⟩;rw[(hset _).2.2 j rfl]at hk;simp only[ks,Wba,Wg]at hk;obtain⟨k0,h1,rfl⟩:=hk
  refine .inr (.inr ⟨j,k0,rfl,?_,h1,rfl⟩)
  rw[Wa6 (by rw[h.len];omega),h.len]at he
  rwa [show H.length+j-H.length=j by omega]at he
 have hcells:∀(j i:Nat) k0,σ[j]? = some i→H1[j]? = some k0→(k0.ren (renId σ H.length)).isIn=true:=λj i k0 hj hk=>by
  have hjl:j<β0.length:=by rw[hβ0len];exact(We.1 hj).1
  exact Wbn (by rw[Wdm];exact(ho.blk j β0[j] k0 (by simp[hjl]) hk).1)
 have hnewk:∀(q:Nat) e k0,γ[q]? = some e→H1[σ.length+q]? = some k0→k0.isRet=true∧(∀ b,(k0.ren (renId σ H.length)).at e b↔b∈e.bs)∧BlkR (stab1 (stab c β H w) γ w w') (β0++γ) w' w.heap.size (β0.length+q) e k0:=λq e k0 he hk=>by
  obtain⟨g1,g2,g3⟩:=ho.new q e k0 he (by rw[hβ0len];exact hk);exact⟨g1,λb=>by rw[Whl];exact g2 b,g3⟩
 have hgetI:∀(j i:Nat),σ[j]? = some i→∃ k,H[i]? = some k∧k.isIn=true:=λj i hj=>by
  obtain⟨k,_,hc,h2⟩:=hget j i hj;exact⟨_,h2,Wbn (by rw[Wdm];exact hc)⟩
 have hsame:∀ b,b<w.heap.size→(∀ e∈β0,e.b≠b)→w'.heap[b]? = w.heap[b]?:=hfrm.block
 have hold:∀(i:Nat) e k b,i∉σ→β[i]? = some e→H[i]? = some k→k.at e b→w'.heap[b]? = w.heap[b]?:=λi e k b hi he hk hb=>by
  refine hsame b (at_lt (h.blk i e k he hk) hb) λf hf hfb=>?_
  obtain⟨x,k',hx,h1,h2,hc⟩:=hmem0 f hf;exact h.inj i x e f k _ b (λe=>hi (e▸hx)) he hk h1 h2 hb (by rw[Wcx (Wbn hc) f];first|exact hfb|exact hfb.symm|rw[hfb])
 have hx:Ext (stab c β H w) w (stab c (β++γ) (setAll σ ks H) w') w':=by
  refine⟨λb hi hst=>?_,λb hi o v hst _ hv=>?_⟩
  have hblt:=Zp7 h hst
  rcases hst with hst'|⟨g1,g2,g3⟩
  exact .inl hst'
  refine .inr ⟨g1,om,λi e k he hk=>?_⟩
  rcases hplace i e k he hk with⟨_,h1,h2⟩|⟨j,k0,hj,hil,h1,_,h2,rfl⟩|⟨q,k0,rfl,h1,h2,rfl⟩
  exact g3 i e k h1 h2;rw[Wey (hcells j i k0 hj h2)];obtain⟨ds,h6,h7⟩:=hgetI j i hj;exact(Wey h7 e b hi).1 (g3 i e _ h1 h6)
  refine Wdl λha=>?_
  rw[(hnewk q e k0 h1 h2).2.1]at ha;have:=(ho.loc e (Wq h1) b ha).1;omega;rw[Zk4 (hsame b (Zp7 h hst) λe he=>?_)];exact hv;obtain⟨i,k,_,h1,h2,hk⟩:=hmem0 e he;exact Z6j h hst h1 h2 (Wbn hk)
 have hren':∀ j,(β++γ)[renId σ H.length j]? = (β0++γ)[j]?:=λj=>by
  unfold renId
  cases hj:σ[j]? with
  |some i=>
   have hi:=hσlt i (Wq hj);simp only;rw[Wac (by rw[h.len];exact hi),Wac (by rw[hβ0len];exact(We.1 hj).1),hβ0,hj];rfl
  |none=>
   have hjl:σ.length≤j:=Whe.1 hj;simp only;rw[Wa6 (by rw[h.len];omega),Wa6 (by rw[hβ0len];exact hjl),h.len,hβ0len]
   congr 1;omega
 have hx1:Ext (stab1 (stab c β H w) γ w w') w' (stab c (β++γ) (setAll σ ks H) w') w':=by
  refine⟨λb hi hst=>?_,λb hi o v _ _ hv=>hv⟩
  rcases hst with hst|⟨g1,g2,g3⟩
  exact hx.stab b hi hst
  refine .inr ⟨by have:=h.frm.size;omega,g2,λi e k he hk=>?_⟩
  rcases hplace i e k he hk with⟨_,h1,h2⟩|⟨j,k0,hj,hil,h1,_,h2,rfl⟩|⟨q,k0,rfl,h1,h2,rfl⟩
  exact Wdl λha=>by have:=at_lt (h.blk i e k h1 h2) ha;omega
  rw[Wey (hcells j i k0 hj h2)];obtain⟨ds,h6,h7⟩:=hgetI j i hj;have:=at_lt (h.blk i e _ h1 h6) (b:=e.b) (Wex h7 e);omega
  refine Wdl λha=>?_
  rw[(hnewk q e k0 h1 h2).2.1]at ha;exact g3 e (Wq h1) ha
 have hrlt:∀(j x i:Nat),σ[j]? = some i→x<j→renId σ H.length x<i:=λj x i hσj hxj=>by
  have hjl:=(We.1 hσj).1
  have hxs:σ[x]? = some σ[x]:=by simp[show x<σ.length by omega]
  have:=Z6l hs hxs hσj hxj;simp only[renId,hxs];exact this
 refine⟨h.move hx (Wbz β γ) ?_ ?_ (λi e k he hk=>?_) (λi j e f k l b hij he hk hf hl hb hb'=>?_) (λi e k b h0 he hk hb=>?_) (λi hi=>?_) ?_,hren',hx,hx1⟩
 rw[Wm,h.len,Z02 σ ks H om,hks,hlH1];omega;obtain⟨δ,hδ⟩:=h.pre;exact⟨δ++γ,by rw[hδ,Wap]⟩
 rcases hplace i e k he hk with⟨h0,h1,h2⟩|⟨j,k0,hj,hil,h1,h1',h2,rfl⟩|⟨q,k0,rfl,h1,h2,rfl⟩
 exact BlkR.keep hx (Wbz β γ) (λb hb=>hold i e k b h0 h1 h2 hb) (h.blk i e k h1 h2);obtain⟨hc,hbk⟩:=ho.blk j e k0 h1' h2;exact BlkR.doren (j:=j) hren' hc (λx hxj=>hrlt j x i hj hxj) hx1 hbk;obtain⟨g1,_,g3⟩:=hnewk q e k0 h1 h2
 refine BlkR.dorenR (j:=β0.length+q) h.frm.size hren' g1 (λx hxj=>?_) hx1 g3
 unfold renId
 cases hxs:σ[x]? with
 |some y=>have:=hσlt y (Wq hxs);simp only;omega
 |none=>have:=Whe.1 hxs;simp only;omega
 have key:∀(i:Nat) e k b,(β++γ)[i]? = some e→(setAll σ ks H)[i]? = some k→k.at e b →
   (i<H.length∧∃ k',β[i]? = some e∧H[i]? = some k'∧k'.at e b)∨(∃ q,i=H.length+q∧γ[q]? = some e∧b∈e.bs):=by
  intro i e k b he hk hb
  rcases hplace i e k he hk with⟨_,h1,h2⟩|⟨j,k0,hj,hil,h1,_,h2,rfl⟩|⟨q,k0,rfl,h1,h2,rfl⟩
  exact .inl ⟨(We.1 h2).1,k,h1,h2,hb⟩;rw[Wcx (hcells j i k0 hj h2)]at hb;obtain⟨ds,h6,h7⟩:=hgetI j i hj;exact .inl ⟨hil,_,h1,h6,by rw[Wcx h7];exact hb⟩;exact .inr ⟨q,rfl,h1,((hnewk q e k0 h1 h2).2.1 b).1 hb⟩
 rcases key i e k b he hk hb with⟨g0,k',g1,g2,g3⟩|⟨q,g0,g1,g2⟩<;>rcases key j f l b hf hl hb' with⟨q0,l',q1,q2,q3⟩|⟨r,q0,q1,q2⟩
 exact h.inj i j e f k' l' b hij g1 g2 q1 q2 g3 q3;have:=at_lt (h.blk i e k' g1 g2) g3;have:=(ho.loc f (Wq q1) b q2).1;omega;have:=at_lt (h.blk j f l' q1 q2) q3;have:=(ho.loc e (Wq g1) b g2).1;omega;exact ho.inj q r e f b om g1 q1 g2 q2
 rcases hplace i e k he hk with⟨_,h1,h2⟩|⟨j,k0,hj,hil,h1,_,h2,rfl⟩|⟨q,k0,rfl,h1,h2,rfl⟩
 have:=h.loc i e k b h0 h1 h2 hb;omega;rw[Wcx (hcells j i k0 hj h2)]at hb;obtain⟨ds,h6,h7⟩:=hgetI j i hj;have:=h.loc i e _ b h0 h1 h6 (by rw[Wcx h7];exact hb);omega;have:=ho.loc e (Wq h1) b (((hnewk q e k0 h1 h2).2.1 b).1 hb);have:=h.frm.size;omega;obtain⟨cs,hc,hcf⟩:=h.cel i hi;have hil:=(We.1 hc).1
 by_cases hm:i∈σ
 obtain⟨j,hj⟩:=Wa5.1 hm
 have hjl:j<H1.length:=by have:=(We.1 hj).1;omega
 exact⟨H1[j].ren (renId σ H.length),by rw[(hset i).1 j hj];simp[ks,hjl],hcells j i H1[j] hj (by simp[hjl])⟩;exact⟨cs,by rw[(hset i).2.1 hil hm];exact hc,hcf⟩
 refine⟨hfrm.os.trans h.frm.os,hfrm.tape.trans h.frm.tape,hfrm.output.trans h.frm.output,Wbj h.frm.size hwsz,λb hb hne=>?_,λb vs t hb=>?_,Wgu h.frm.drawn hfrm.drawn⟩
 rw[hsame b (by have:=h.frm.size;omega) λe he heb=>?_];exact h.frm.block b hb hne;obtain⟨i,k,_,h1,h2,hk⟩:=hmem0 e he
 by_cases hi:i<c.β0.length
 obtain⟨δ,hδ⟩:=h.pre;rw[hδ,Wac hi]at h1;exact hne e (Wq h1) heb;have:=h.loc i e _ e.b om h1 h2 (Wex (Wbn hk) e);omega;obtain⟨vs1,h1⟩:=h.frm.typ b vs t hb;exact hfrm.typ b vs1 t h1
def OpT.callG {cl:Call} {x:Operand} {f:FuncId} {fn:Func} {ps qs args0:List PV} {σ:List Nat} {H0 H1 H':List Blk} {p1 p:PV} {caps:List PV}
  (ho:o.op=.call cl) (hc:cl.callee=.value x) (hx:(opd G st x=some (.sc (.func (.func f) #[] #[]))∧caps=[])∨opd G st x=some (.fn f caps))
  (hfn:P.funcs[f]? = some fn) (hbody:fn.body.isNone=false) (hname:(fn.name== "runtime.NumGoroutine")=false)
  (hargs:cl.args.toList.map (opd G st)=ps.map some) (hwk:∀ c β a w,RelB G c β st H a w→∀ us ,VRs (stab c β H w) β w (ps++caps) us→VRs (stab c β H w) β w qs us) (hren:qs=PV.rens (renId σ H.length) args0)
  (hs:σ.Pairwise (·<·)) (hcl:H0.all Blk.isCells=true) (hH0:H0.map (λk=>some (k.ren (renId σ H.length)))=σ.map (H[·]?))
  (hcall:ACall P G f args0 H0 (λq K=>q=p1∧K=H1)) (hp:p=p1.ren (renId σ H.length)) (hH':H'=setAll σ (H1.map (Blk.ren (renId σ H.length))) H):OpT P G n0 o st H p H':=by
 intro c a w β h0 hr;obtain⟨β0,g1,g2,g3⟩:=hr.call hs hcl hH0
 have hxv:∃ us,a.eval x=.func (.func f) #[] us∧VRs (stab c β H w) β w caps us.toList:=by
  rcases hx with⟨hx,rfl⟩|hx
  have:=hr.opd hx;exact⟨#[],this,by simp  [VRs]⟩;have:=hr.opd hx;exact this
 obtain⟨us,hxe,hus⟩:=hxv
 have hex:(execOp a.eval o).run P w=.ok (.enter f (cl.args.map a.eval++us)) w:=by
  have hn:=by simpa using hname
  have hb:¬fn.body=none:=gD
  simp[execOp,ho,resolve,hc,hxe,Deferred.ofValue,invoke,callFunc,hfn,hn,hb]
 have hv:VRs (stab c β H w) β0 w args0 (cl.args.map a.eval++us).toList:=by
  have h2:=hwk c β a w hr _ (VRs.append _ _ _ _ (We0 hr cl.args.toList ps hargs) hus);rw[hren]at h2
  simpa using (Wbw g1 args0 _).1 h2
 simp  [wpv,hex]
 refine(hcall _ β0 w _ g2 hv).mono ?_
 rintro e w' ⟨v,q,K,γ,rfl,⟨rfl,rfl⟩,hout,hvr⟩;obtain⟨k1,k2,k3,k4⟩:=g3 γ K w' hout;subst hH' hp;exact⟨v,rfl,β++γ,k1,Wci k4 (W3 _ _) ((Wgh k2 q v).2 hvr),Wbz β γ,k3⟩
def OpT.call {cl:Call} {x:Operand} {f:FuncId} {fn:Func} {ps qs args0:List PV} {σ:List Nat} {H0 H1 H':List Blk} {p1 p:PV} {caps:List PV}
  (ho:o.op=.call cl) (hc:cl.callee=.value x) (hx:(opd G st x=some (.sc (.func (.func f) #[] #[]))∧caps=[])∨opd G st x=some (.fn f caps))
  (hfn:P.funcs[f]? = some fn) (hbody:fn.body.isNone=false) (hname:(fn.name== "runtime.NumGoroutine")=false)
  (hargs:cl.args.toList.map (opd G st)=ps.map some) (hwk:Wks H false (ps++caps) qs) (hren:qs=PV.rens (renId σ H.length) args0)
  (hs:σ.Pairwise (·<·)) (hcl:H0.all Blk.isCells=true) (hH0:H0.map (λk=>some (k.ren (renId σ H.length)))=σ.map (H[·]?))
  (hcall:ACall P G f args0 H0 (λq K=>q=p1∧K=H1)) (hp:p=p1.ren (renId σ H.length)) (hH':H'=setAll σ (H1.map (Blk.ren (renId σ H.length))) H):OpT P G n0 o st H p H':=
 OpT.callG ho hc hx hfn hbody hname hargs (λ_ _ _ _ hr us hu=>hr.wks hwk us hu) hren hs hcl hH0 hcall hp hH'
def Whz:=@OpT.call
end
section
variable {P:Program} {G:Glob} {c:Ctx} {β:List Bnd} {st:St} {H:List Blk} {a:Act} {w:World} {n0 nt:Nat} {o:Oper}
def aresL (P:Program) (st:St) (H:List Blk):List ResultVar→Option (List PV)
 |[]=>some []
 |.tmp t::r=>match st.get t,aresL P st H r with
  |some p,some ps=>some (p::ps)
  |_,_=>none
 |.cell ad t::r=>match st.get ad with
  |some (.ptr i off)=>match H[i]? with
   |some (.cells cs)=>match ldPV P t (cs.drop off),aresL P st H r with
    |some p,some ps=>some (p::ps)
    |_,_=>none
   |some (.far cs)=>match ldPV P t (cs.drop off),aresL P st H r with
    |some p,some ps=>some (p::ps)
    |_,_=>none
   |_=>none
  |_=>none
def ares (P:Program) (st:St) (H:List Blk) (rs:Array ResultVar):Option PV:=
 match aresL P st H rs.toList with
 |some [p]=>some p
 |some ps=>some (.tup ps)
 |none=>none
def resOne (tmps:Array Value):ResultVar→Sem Value
 |.tmp t=>pure (tmps.getD t undef)
 |.cell ad t=>do loadVar t (←asAddr (tmps.getD ad undef))
theorem Zae3 (fn:Func) (tmps:Array Value):results fn tmps=(do
  let vs ←fn.results.mapM (resOne tmps)
  pure (if h:vs.size=1 then vs[0]else .tuple vs)):=rfl
def Whf:=@List.mapM_cons
def Wei:=@Sem.run_pure
def Zz0 (h:RelB G c β st H a w):∀ rs ps,aresL P st H rs=some ps →
  ∃ us,(rs.mapM (resOne a.tmps)).run P w=.ok us w∧VRs (stab c β H w) β w ps us
 |[],ps,hp=>by
  cases hp;exact⟨[],sM,by simp  [VRs]⟩
 |.tmp t::rs,ps,hp=>by
  simp  [aresL]at hp
  split at hp
  rename_i p qs h1 h2;cases hp;obtain⟨us,h3,h4⟩:=Zz0 h rs qs h2
  refine⟨a.tmps.getD t undef::us,by simp  [Whf,resOne,Wbb,h3,Wan,Wei],?_⟩
  exact⟨(h.slots (t,p) (Zgi st t p h1)).2,h4⟩
  grind
 |.cell ad t::rs,ps,hp=>by
  simp  [aresL]at hp
  split at hp
  rename_i i off h1
  split at hp
  rename_i cs h2
  split at hp
  rename_i p qs h5 h6;cases hp;obtain⟨us,h3,h4⟩:=Zz0 h rs qs h6;obtain⟨e,h8,h9⟩:=(h.slots (ad,_) (Zgi st ad _ h1)).2;obtain⟨_,vs,ty,g1,g2⟩:=h.blk i e _ h8 h2;obtain⟨v,g3,g4⟩:=run_ld (P:=P) (Zzy (off:=off) g1 g2) h5
  refine⟨v::us,?_,⟨g4,h4⟩⟩
  simp  [Whf,resOne,h9,asAddr,Wbb,g3,Wan,h3,Wei];cases hp;rename_i cs h2
  split at hp
  rename_i p qs h5 h6;cases hp;obtain⟨us,h3,h4⟩:=Zz0 h rs qs h6;obtain⟨e,h8,h9⟩:=(h.slots (ad,_) (Zgi st ad _ h1)).2;obtain⟨vs,ty,g1,g2⟩:=h.blk i e _ h8 h2;obtain⟨v,g3,g4⟩:=run_ld (P:=P) (Zzy (off:=off) g1 g2) h5
  refine⟨v::us,?_,⟨g4,h4⟩⟩
  simp  [Whf,resOne,h9,asAddr,Wbb,g3,Wan,h3,Wei];cases hp;cases hp
  grind
def Whg:=@Array.mapM_eq_mapM_toList
def Zad3 (h:RelB G c β st H a w) {fn:Func} {p:PV} (hp:ares P st H fn.results=some p):∃ v,(results fn a.tmps).run P w=.ok v w∧VR (stab c β H w) β w p v:=by
 unfold ares at hp
 have key:∀ ps,aresL P st H fn.results.toList=some ps→∃ us,(results fn a.tmps).run P w=.ok (if h:us.toArray.size=1 then us.toArray[0]else .tuple us.toArray) w∧VRs (stab c β H w) β w ps us:=by
  intro ps hps;obtain⟨us,h1,h2⟩:=Zz0 h fn.results.toList ps hps
  refine⟨us,?_,h2⟩
  rw[Zae3,Whg];simp_all
 split at hp
 rename_i q hq;obtain⟨us,h1,h2⟩:=key _ hq;cases us
 simp  [VRs]at h2
 rename_i u us
 simp  [VRs]at h2
 cases us
 grind
 exact h2.2.elim;rename_i ps hne hps;cases hp;obtain⟨us,h1,h2⟩:=key _ hps
 refine⟨.tuple us.toArray,?_,by simp  [VR];grind⟩
 have:¬us.length=1:=λe=>by
  rw[Wav _ _ h2]at e;obtain⟨q,hq⟩:=List.length_eq_one_iff.1 e
  grind
 simpa [this]using h1
 grind
def numb:Nat→List PV→St
 |_,[]=>[]
 |i,p::ps=>(i,p)::numb (i+1) ps
def Zz1 {S:Nat→Nat→Prop} {β:List Bnd} {w:World}:∀ ps us i,VRs S β w ps us→∀ x∈numb i ps,∃ j u,x.1=i+j∧us[j]? = some u∧VR S β w x.2 u
 |[],_,_,_,x,hx=>by simp[numb]at hx
 |_::_,[],_,h,_,_=>by simp  [VRs]at h
 |p::ps,u::us,i,h,x,hx=>by
  simp  [numb,W1]at hx
  rcases hx with rfl|hx
  exact⟨0,u,rfl,rfl,h.1⟩;obtain⟨j,v,h1,h2,h3⟩:=Zz1 ps us (i+1) h.2 x hx;exact⟨j+1,v,om,gD,h3⟩
def WkG (any:Bool) (K:List Blk) (p q:PV):Prop:=Wk K any p q∨∃ ps qs,p=.tup ps∧q=.tup qs∧Wks K any ps qs
abbrev WkR (K:List Blk) (p q:PV):Prop:=WkG true K p q
def okOut (n0 m:Nat) (K:List Blk):Bool:=(K.take n0).all Blk.isCells&&((K.take m).drop n0).all (λk=>k.isRet&&k.farO m)
def FnQ (P:Program) (rs:Array ResultVar) (n0:Nat) (R:PV→List Blk→Prop) (e:Exit) (st:St) (K:List Blk):Prop:=
 (e=.normal∨e=.ret)∧∃ any p q m,(any=true→((K.take m).drop n0).all Blk.isCells=true)∧ares P st K rs=some p∧WkG any K p q∧n0≤m∧m≤K.length∧q.ids (λj=>decide (j<m))=true∧okOut n0 m K=true∧R q (K.take m)
def Wbk:=@Nat.zero_add
def Wg6:=@Array.getElem?_append_left
def Wff:=@Nat.le_of_eq
def Wd1:=@List.take_append
def Wbe:=@List.take_of_length_le
def Wej:=@List.getElem?_drop
def Wad:=@List.length_take
def Wa2:=@List.length_drop
def Wr:=@List.getElem?_eq_getElem
def ACall.of_AWP {f:FuncId} {fn:Func} {code:Code} {args:List PV} {R:PV→List Blk→Prop} (hfn:P.funcs[f]? = some fn) (hb:fn.body=some code) (hnt:args.length≤fn.ntmps)
  (h:AWP P G H.length fn.ntmps code (FnQ P fn.results H.length R) (numb 0 args) H):ACall P G f args H R:=by
 intro S0 β0 w cargs hin hv
 refine calls_of_wp hfn hb ?_
 let c:Ctx:=⟨w,S0,β0,fn.ntmps,[]⟩
 have hstab:∀ b hi,stab c β0 H w b hi→S0 b hi:=λb hi hs=>by
  rcases hs with hs|⟨h1,h2,_⟩
  exact hs;exact absurd h2 (by simp only[c]at h1;omega)
 have hx:Ext S0 w (stab c β0 H w) w:=⟨λ_ _ hs=>.inl hs,λ_ _ _ _ _ _ h=>h⟩;have hcl:=Wav _ _ hv;have hok:OkCtx G c:=⟨hin.ctx.old,hin.ctx.glob,hin.ctx.low,hin.ctx.down⟩
 have hrel:RelB G c β0 (numb 0 args) H {tmps:=cargs++Array.replicate (fn.ntmps-cargs.size) undef,defers:=[]} w:=by
  refine⟨hok,hin.len,⟨[],by simp[c]⟩,λi e k he hk=>?_,λi j e f k l b hij he hk hf hl hb hb'=>?_,λi e k b h0 he=>?_,λi hi=>?_,λx hx'=>?_,?_,rfl,⟨rfl,rfl,rfl,Ws _,λ_ _ _=>rfl,λ_ vs _ h=>⟨vs,h⟩,dle.refl _⟩,λx hx=>by cases hx⟩
  obtain⟨hc,h1⟩:=hin.blk i e k he hk;exact BlkR.extC hc hx rfl (W3 _ _) h1;rw[Wcx (Wbn (hin.blk i e k he hk).1)]at hb;rw[Wcx (Wbn (hin.blk j f l hf hl).1)]at hb';exact hin.inj i j e f hij he hf om;have:=(We.1 he).1;simp only[c]at h0;omega
  have hi':i<H.length:=by rw[←hin.len];exact hi
  exact⟨H[i],by simp[hi'],Wbn (hin.blk i β0[i] H[i] sM (by simp[hi'])).1⟩;obtain⟨j,u,h1,h2,h3⟩:=Zz1 args cargs.toList 0 hv x hx'
  have hj:j<cargs.size:=by have:=(We.1 h2).1;simpa using this
  simp only[Wbk]at h1
  refine⟨by simp only[c];simp at hcl;omega,?_⟩
  have:(cargs++Array.replicate (fn.ntmps-cargs.size) undef).getD x.1 undef=u:=by
   rw[Wd9,h1,Wg6 hj]
   simp at h2;simp[h2]
  rw[this];exact Wci hx (W3 _ _) h3
  simp only[c];simp at hcl⊢;omega
 refine wp_mono (h c _ w β0 ⟨Wff hin.len,λx hx=>by cases hx⟩ rfl hrel) λe a' w' ⟨st',K,β,hq,hr⟩=>?_
 obtain⟨he,any,p,q,m,h0,h1,h2,h3,h4,h5,h6,h7⟩:=hq;obtain⟨v,g1,g2⟩:=Zad3 (P:=P) hr h1
 have main:∃ p H' γ,R p H'∧OutOk S0 β0 γ H' w w'∧VR (stab1 S0 γ w w') (β0++γ) w' p v:=by
  obtain⟨γ0,hγ0⟩:=hr.pre;have hβ0:c.β0=β0:=rfl;rw[hβ0]at hγ0;have hlen:=hr.len;have hβ0l:=hin.len
  let γ1:=γ0.take (m-H.length)
  have htake:β.take m=β0++γ1:=by
   rw[hγ0,Wd1,Wbe om,hβ0l]
  simp only[okOut,Wh]at h6;obtain⟨h6,h6'⟩:=h6
  have hKin:∀(i:Nat) k,i<H.length→K[i]? = some k→k.isCells=true:=λi k hi hk=>by
   refine W7.1 h6 k (Wq (i:=i) ?_)
   rw[Wbg,if_pos hi];exact hk
  have hKnew:∀(q:Nat) k,H.length+q<m→K[H.length+q]? = some k→k.isRet=true∧k.farO m=true:=λq k hi hk=>by
   have:=W7.1 h6' k (Wq (i:=q) (by rw[Wej,Wbg,if_pos hi];exact hk))
   simpa using this
  let γ:=List.zipWith fpB γ1 ((K.take m).drop H.length)
  have hγ1l:γ1.length=m-H.length:=by
   have:=congrArg List.length htake;rw[Wad,Wm]at this;omega
  have hγget:∀(q:Nat) e',γ[q]? = some e'→∃ e k,e'=fpB e k∧γ1[q]? = some e∧β[H.length+q]? = some e∧K[H.length+q]? = some k∧H.length+q<m:=λq e' he=>by
   grind
  have hγl:γ.length=m-H.length:=by
   simp only[γ,List.length_zipWith,Wa2,Wad,hγ1l];omega
  have hold:∀(i:Nat) e,β0[i]? = some e→β[i]? = some e∧i<H.length:=λi e he=>by
   have hi:i<β0.length:=(We.1 he).1;exact⟨by rw[hγ0,Wac hi];exact he,om⟩
  have hKget:∀(i:Nat) k,(K.take m)[i]? = some k→K[i]? = some k:=λi k hk=>by
   rw[Wbg]at hk
   split at hk
   exact hk;cases hk
  have hst:∀ b hi,stab c β K w' b hi→stab1 S0 γ w w' b hi:=λb hi0 hs=>by
   rcases hs with hs|⟨k1,k2,k3⟩
   exact .inl hs
   refine .inr ⟨k1,k2,λe' he hbb=>?_⟩
   obtain⟨q,hq⟩:=Wa5.1 he;obtain⟨e,k,rfl,g1,g2,g3,g4⟩:=hγget q e' hq;have hr1:=(hKnew q k g4 g3).1;have hat:=(fpB_at hr1 b).2 hbb;rw[Z3y]at hat;have hfr:=k3 (H.length+q) e k g2 g3
   cases k with
   |cells cs=>exact hfr hat
   |fm l=>exact hfr hat
   |buf s t xs sh=>have:=(hfr hat).1;subst this;cases hr1
   |tr t s n cs=>exact hfr hat
   |fb s t xs=>cases hr1
   |map es cl=>cases hr1
   |far cs=>cases hr1
   |dead=>cases hr1
   |iter m since seen last=>cases hr1
  have hx':Ext (stab c β K w') w' (stab1 S0 γ w w') w':=⟨hst,λ_ _ _ _ _ _ h=>h⟩
  have hbx:∀ j,j≤m→BExt (λi=>decide (i<j)) β (β0++γ):=λj hj i e hi he=>by
   have hi':i<j:=by simpa using hi
   by_cases hlt:i<β0.length
   refine⟨e,?_,rfl,rfl,Ws _,λ_=>rfl⟩
   rw[Wac hlt];rw[hγ0,Wac hlt]at he;exact he;have hq:γ[i-β0.length]? = some (γ[i-β0.length]'(by rw[hγl];omega)):=Wr _;obtain⟨e1,k,h8,g1,g2,g3,g4⟩:=hγget _ _ hq;rw[←hβ0l,show β0.length+(i-β0.length)=i by omega]at g2;rw[he]at g2;cases g2;exact⟨_,by rw[Wa6 om];exact hq,by rw[h8];rfl,by rw[h8];rfl,by rw[h8];exact Ws _,λ_=>by rw[h8];rfl⟩
  have hown:∀ i s t xs sh u,K[i]? = some (.buf s t xs sh)→(m≤i∨sh=true)→VR (stab c β K w') β w' (.own i xs.length) u→VR (stab1 S0 γ w w') (β0++γ) w' (.sl s xs) u:=by
   intro i s t xs sh u hb hmi hu;have hu':=hu;simp only[VR]at hu';obtain⟨_,e,k1,_,_⟩:=hu'
   refine own_sl k1 (BlkR.keep hx' (W3 _ _) (λ_ _=>rfl) (hr.blk i e _ k1 hb)) rfl hu λg hg=>?_
   have hi:H.length≤i:=by
    rcases Wcz i H.length with hlt|hge
    obtain⟨cs,hc,hcf⟩:=hr.cel i (by rw[hβ0,hβ0l];exact hlt);rw[hb]at hc;cases hc;cases hcf;exact hge
   have hl:=hr.loc i e _ g (by rw[hβ0,hβ0l];exact hi) k1 hb hg
   refine .inr ⟨hl.1,hl.2,λf' hf hfg=>?_⟩
   obtain⟨q,hq⟩:=Wa5.1 hf;obtain⟨f,k,rfl,g1,g2,g3,g4⟩:=hγget q f' hq;have hr1:=(hKnew q k g4 g3).1;have hat:=(fpB_at hr1 g).2 hfg;rw[Z3y]at hat
   by_cases hqi:H.length+q=i
   rw[hqi,hb]at g3;cases g3
   rcases hmi with hmi|hmi
   omega;subst hmi;cases hr1;exact hr.inj _ i f e _ _ g hqi g2 g3 k1 hb hat hg
  have hwk:∀ p q u,Wk K any p q→q.ids (λj=>decide (j<m))=true→VR (stab c β K w') β w' p u→VR (stab1 S0 γ w w') (β0++γ) w' q u:=by
   intro p q u hw hq hp
   cases hw with
   |refl=>exact Wgm hx' (hbx m (Ws _)) _ _ hq hp
   |nil s=>simp only[VR]at hp⊢;subst hp;exact⟨none,0,rfl,Ws _,.inl trivial⟩
   |own i s t xs sh hb hs=>
    refine hown i s t xs sh u hb ?_ hp
    rcases hs with hs|hs
    rcases Wcz i m with hlt|hge
    have hi:H.length≤i:=by
     rcases Wcz i H.length with hl|hg
     have:=hKin i _ hl hb;cases this;exact hg
    have:=W7.1 (h0 hs) _ (Wq (i:=i-H.length) (by rw[Wej,Wbg,show H.length+(i-H.length)=i by omega,if_pos hlt];exact hb));cases this;exact .inl hge;exact .inr hs
  have hwks:∀ ps qs,Wks K any ps qs→∀ us,PV.idss (λj=>decide (j<m)) qs=true→VRs (stab c β K w') β w' ps us→VRs (stab1 S0 γ w w') (β0++γ) w' qs us:=by
   intro ps qs hw
   induction hw with
   |nil=>intro us _ h8;cases us<;>simp only[VRs]at h8⊢
   |cons p q ps qs k1 k2 ih=>
    intro us hq h8
    cases us with
    |nil=>simp only[VRs]at h8
    |cons u us=>
     simp only[VRs]at h8⊢;simp only[PV.idss,Wh]at hq;exact⟨hwk p q u k1 hq.1 h8.1,ih us hq.2 h8.2⟩
  refine⟨q,K.take m,γ,h7,⟨?_,λi e k he hk=>?_,λi e' k he hk=>?_,λi j e' f' b hij he hf hb hb'=>?_,λe' he b hb=>?_,⟨hr.frm.os,hr.frm.tape,hr.frm.output,hr.frm.size,hr.frm.block,hr.frm.typ,hr.frm.drawn⟩⟩,?_⟩
  rw[Wm,hγl,Wad];omega;obtain⟨he',hi⟩:=hold i e he;have hk':=hKget i k hk;have hkc:=hKin i k hi hk';exact⟨hkc,BlkR.extC hkc hx' rfl (hbx i om) (hr.blk i e _ he' hk')⟩;obtain⟨e,k',he1,g1,g3,g4,g5⟩:=hγget i e' he;subst he1;have hk':=hKget _ k hk;rw[hβ0l,g4]at hk'
  have hkk:k'=k:=by simpa using hk'
  subst hkk;obtain⟨q1,q2⟩:=hKnew i k' g5 g4;have:=BlkR.extR q1 (Ws _) hx' (hbx (H.length+i) om) (hbx m (Ws _)) q2 (hr.blk _ e _ g3 g4);rw[hβ0l];exact⟨q1,fpB_at q1,Zaiy q1 this⟩;obtain⟨e,k,rfl,_,g3,g4,g5⟩:=hγget i e' he;obtain⟨f,l,rfl,_,q3,q4,q5⟩:=hγget j f' hf;have a1:=(fpB_at (hKnew i k g5 g4).1 b).2 hb;have a2:=(fpB_at (hKnew j l q5 q4).1 b).2 hb';rw[Z3y]at a1 a2;exact hr.inj (H.length+i) (H.length+j) e f _ _ b om g3 g4 q3 q4 a1 a2;obtain⟨q',hq'⟩:=Wa5.1 he;obtain⟨e,k,rfl,_,g3,g4,g5⟩:=hγget q' e' hq';have a1:=(fpB_at (hKnew q' k g5 g4).1 b).2 hb;rw[Z3y]at a1;exact hr.loc (H.length+q') e _ b (by rw[hβ0,hβ0l];omega) g3 g4 a1
  rcases h2 with h2|⟨ps,qs,rfl,rfl,h2⟩
  exact hwk p q v h2 h5 g2;simp only[VR]at g2⊢;obtain⟨us,rfl,h8⟩:=g2;exact⟨us,rfl,hwks ps qs h2 us.toList (by simpa only[PV.ids]using h5) h8⟩
 obtain⟨p',H',γ,k1,k2,k3⟩:=main
 rcases he with rfl|rfl
 all_goals exact⟨hr.dfr,v,g1,v,p',H',γ,rfl,k1,k2,k3⟩
def RelB.share (h:RelB G c β st H a w) {i s t:Nat} {xs:List (List PV)} {sh:Bool} (hb:H[i]? = some (.buf s t xs sh)):RelB G c β st (H.set i (.buf s t xs true)) a w:=by
 have hget:∀ j k,(H.set i (.buf s t xs true))[j]? = some k→(j≠i∧H[j]? = some k)∨(j=i∧k=.buf s t xs true):=λj k hj=>by
  grind
 have hx:Ext (stab c β H w) w (stab c β (H.set i (.buf s t xs true)) w) w:=by
  refine⟨λb hi hs=>?_,λ_ _ _ _ _ _ h=>h⟩
  rcases hs with hs|⟨h1,h2,h3⟩
  exact .inl hs
  refine .inr ⟨h1,h2,λj e k he hk=>?_⟩
  rcases hget j k hk with⟨_,hk⟩|⟨rfl,rfl⟩
  exact h3 j e k he hk;have:=h3 j e _ he hb
  exact λhbb=>⟨rfl,(this hbb).2⟩
 have key:∀(j:Nat) f k b,(H.set i (.buf s t xs true))[j]? = some k→k.at f b→∃ k',H[j]? = some k'∧k'.at f b:=λj f k b g2 g3=>by
  rcases hget j k g2 with⟨_,g2⟩|⟨rfl,rfl⟩
  exact⟨k,g2,g3⟩;exact⟨_,hb,g3⟩
 refine h.move hx (W3 _ _) (by simp[h.len]) h.pre (λj e k he hk=>?_) (λj j' f f' k l b hij h1 h2 h3 h4 h5 h6=>?_) (λj f k b h0 h1 h2 h3=>?_) (λj hj=>?_) h.frm
 rcases hget j k hk with⟨_,hk⟩|⟨rfl,rfl⟩
 exact BlkR.keep hx (W3 _ _) (λ_ _=>rfl) (h.blk j e k he hk);have h0:=h.blk j e _ he hb;have h1:=h0;exact BlkR.keep hx (W3 _ _) (λ_ _=>rfl) h1;obtain⟨k',g1,g2⟩:=key j f k b h2 h5;obtain⟨l',g3,g4⟩:=key j' f' l b h4 h6;exact h.inj j j' f f' k' l' b hij h1 g1 h3 g3 g2 g4;obtain⟨k',g1,g2⟩:=key j f k b h2 h3;exact h.loc j f k' b h0 h1 g1 g2;obtain⟨cs,hc,hcf⟩:=h.cel j hj
 have hne:j≠i:=λe=>by subst e;rw[hb]at hc;cases hc;cases hcf
 grind
def Blk.farOk (m:Nat):Blk→Bool
 |.far cs=>PV.idss (λj=>decide (j<m)) cs
 |.fb _ _ xs=>PV.idss (λj=>decide (j<m)) xs.flatten
 |.tr _ _ _ cs=>OV.idss (λj=>decide (j<m)) cs
 |.map es _=>PV.idss (λj=>decide (j<m)) (es.map (·.2.2))
 |_=>true
def RelB.drop (h:RelB G c β st H a w) {m:Nat} (hm:c.β0.length≤m) (hfar:(H.take m).all (Blk.farOk m)=true) (hg:∀ x∈c.gh,x.1.ids (λj=>decide (j<m))=true) {st':St} (hs:∀ x∈st',x∈st∧x.2.ids (λj=>decide (j<m))=true):RelB G c (β.take m) st' (H.take m) a w:=by
 have hget:∀ {α:Type} (l:List α) i x,(l.take m)[i]? = some x→i<m∧l[i]? = some x:=λl i x hx=>by
  grind
 have hx:Ext (stab c β H w) w (stab c (β.take m) (H.take m) w) w:=by
  refine⟨λb hi hs=>?_,λ_ _ _ _ _ _ h=>h⟩
  rcases hs with hs|⟨h1,h2,h3⟩
  exact .inl hs;exact .inr ⟨h1,h2,λj e k he hk=>h3 j e k (hget _ _ _ he).2 (hget _ _ _ hk).2⟩
 have hbx:∀ j,j≤m→BExt (λi=>decide (i<j)) β (β.take m):=λj hj i e hi he=>by
  grind
 refine⟨h.ok,by simp[h.len],?_,λi e k he hk=>?_,λi j e f k l b hij he hk hf hl hb hb'=>?_,λi e k b h0 he hk hb=>?_,λi hi=>?_,λx hx'=>?_,h.nt,h.dfr,h.frm,λx hx'=>Wgm hx (hbx m (Ws _)) _ _ (hg x hx') (h.gh x hx')⟩
 obtain⟨γ,hγ⟩:=h.pre;exact⟨γ.take (m-c.β0.length),by rw[hγ,Wd1,Wbe hm]⟩;obtain⟨hi,he'⟩:=hget _ _ _ he;obtain⟨_,hk'⟩:=hget _ _ _ hk;have h1:=h.blk i e k he' hk'
 cases k with
 |cells cs=>
  obtain⟨k1,vs,t,k2,k3⟩:=h1;exact⟨k1,vs,t,k2,Wdi hx (hbx i om) _ _ k1 k3⟩
 |map es cl=>
  obtain⟨arr,k2,k3,k4⟩:=h1;have k1:=W7.1 hfar _ (Wq hk);exact⟨arr,k2,k3,Wdi hx (hbx m (Ws _)) _ _ k1 k4⟩
 |dead=>trivial
 |fm l=>exact h1
 |far cs=>
  obtain⟨vs,t,k2,k3⟩:=h1;have k1:=W7.1 hfar _ (Wq hk);exact⟨vs,t,k2,Wdi hx (hbx m (Ws _)) _ _ k1 k3⟩
 |iter mo since seen last=>
  obtain⟨mm,k1,k2⟩:=h1
  refine⟨mm,k1,?_⟩
  grind
 |fb s t xs=>
  obtain⟨z1,z2,z3,vals,z4,z5⟩:=h1;have k1:=W7.1 hfar _ (Wq hk);exact⟨z1,z2,z3,vals,z4,Wdi hx (hbx m (Ws _)) _ _ k1 z5⟩
 |tr t s n cs=>
  have k1:=W7.1 hfar _ (Wq hk);exact⟨h1.1,h1.2.1,h1.2.2.1,OVR.ext hx (hbx m (Ws _)) (.own t s n cs) _ _ (k1) h1.2.2.2⟩
 |buf s t xs sh=>
  have h2:=BlkR.keep (k:=.buf s t xs sh) hx (W3 _ _) (λ_ _=>rfl) (β:=β) h1;exact h2
 exact h.inj i j e f k l b hij (hget _ _ _ he).2 (hget _ _ _ hk).2 (hget _ _ _ hf).2 (hget _ _ _ hl).2 hb hb';exact h.loc i e k b h0 (hget _ _ _ he).2 (hget _ _ _ hk).2 hb;obtain⟨cs,hc,hcf⟩:=h.cel i hi;exact⟨cs,gD,hcf⟩;obtain⟨h1,h2⟩:=hs x hx';exact⟨(h.slots x h1).1,Wgm hx (hbx m (Ws _)) _ _ h2 (h.slots x h1).2⟩
def Wdd:=@List.flatten_nil
def RelB.own (h:RelB G c β st H a w) (s t:Nat):RelB G c (β++[⟨0,.slice none 0 0,0,s,[]⟩]) st (H++[.buf s t [] false]) a w ∧
  Ext (stab c β H w) w (stab c (β++[⟨0,.slice none 0 0,0,s,[]⟩]) (H++[.buf s t [] false]) w) w:=by
 have both:∀ {i:Nat} {e:Bnd} {k:Blk},(β++[⟨0,.slice none 0 0,0,s,[]⟩])[i]? = some e→(H++[Blk.buf s t [] false])[i]? = some k →
   (β[i]? = some e∧H[i]? = some k)∨(i=H.length∧e=⟨0,.slice none 0 0,0,s,[]⟩∧k=.buf s t [] false):=by
  intro i e k g1 g2
  rcases Zcj g1 with⟨g1,l1⟩|⟨l1,rfl⟩
  rcases Zcj g2 with⟨g2,_⟩|⟨g2,_⟩
  exact .inl ⟨g1,g2⟩;have:=h.len;omega
  rcases Zcj g2 with⟨_,g3⟩|⟨g3,g4⟩
  have:=h.len;omega
  grind
 have hx:Ext (stab c β H w) w (stab c (β++[⟨0,.slice none 0 0,0,s,[]⟩]) (H++[.buf s t [] false]) w) w:=by
  refine⟨λb hi hs=>?_,λ_ _ _ _ _ _ h=>h⟩
  rcases hs with hs|⟨h1,h2,h3⟩
  exact .inl hs
  refine .inr ⟨h1,h2,λi e k he hk=>?_⟩
  rcases both he hk with⟨g1,g2⟩|⟨rfl,rfl,rfl⟩
  exact h3 i e k g1 g2;intro hb;simp[Value.ownBlock]at hb
 refine⟨h.move hx (Wbz _ _) (by simp[h.len]) ?_ (λi e k he hk=>?_) (λi j e f k l b hij he hk hf hl hb hb'=>?_) (λi e k b h0 he hk hb=>?_) (λi hi=>?_) h.frm,hx⟩
 obtain⟨γ,hγ⟩:=h.pre;exact⟨γ++[⟨0,.slice none 0 0,0,s,[]⟩],gD⟩
 rcases both he hk with⟨g1,g2⟩|⟨rfl,rfl,rfl⟩
 exact BlkR.keep hx (Wbz _ _) (λ_ _=>rfl) (h.blk i e k g1 g2);exact⟨rfl,rfl,sM,[],Zaf7 _ _ _ _,by simp  [Wdd,VRs]⟩
 rcases both he hk with⟨g1,g2⟩|⟨rfl,rfl,rfl⟩
 rcases both hf hl with⟨g3,g4⟩|⟨rfl,rfl,rfl⟩
 exact h.inj i j e f k l b hij g1 g2 g3 g4 hb hb';simp[Blk.at,Value.ownBlock]at hb';simp[Blk.at,Value.ownBlock]at hb
 rcases both he hk with⟨g1,g2⟩|⟨rfl,rfl,rfl⟩
 exact h.loc i e k b h0 g1 g2 hb;simp[Blk.at,Value.ownBlock]at hb;obtain⟨cs,hc,hcf⟩:=h.cel i hi
 grind
end
section
variable {P:Program} {G:Glob} {c:Ctx} {β:List Bnd} {st:St} {H:List Blk} {a:Act} {w:World} {n0 nt:Nat} {o:Oper}
def Zoq {α:Type} {l:List α} {i j:Nat} {x y:α} (h:(l.set i x)[j]? = some y):(j≠i∧l[j]? = some y)∨(j=i∧y=x):=by
 grind
def Wbl:=@List.set_append_right
def RelB.rebuf' (h:RelB G c β st H a w) {i s t:Nat} {xs xs':List (List PV)} {sh:Bool} {e:Bnd} (he:β[i]? = some e) (hb:H[i]? = some (.buf s t xs sh)) {w':World} {v':Value} {vals:List Value}
  (hos:w'.os=w.os) (htp:w'.tape=w.tape) (hou:w'.output=w.output) (hdw:dle w w') (hsz:w.heap.size≤w'.heap.size) (hblk:∀ b,b<w.heap.size→e.v.ownBlock≠some b→w'.heap[b]? = w.heap[b]?)
  (hlen:xs.length≤xs'.length) (hv:xs'.length=xs.length→v'=e.v) (hk:sh=true→∀ g o u,e.v.ownBlock=some g→o<xs.length*s→w.cell? ⟨g,o,none⟩=some u→w'.cell? ⟨g,o,none⟩=some u)
  (hown:World.ownsM w' c.w0.heap.size t s v' xs'.length vals) (hnew:∀ g,v'.ownBlock=some g→e.v.ownBlock=some g∨(w.heap.size≤g∧g<w'.heap.size)) (hls:∀ x∈xs',x.length=s)
  (hvals:Ext (stab c β H w) w (stab c (β.set i ⟨e.b,v',xs'.length,s,e.bs⟩) (H.set i (.buf s t xs' sh)) w') w'→VRs (stab c (β.set i ⟨e.b,v',xs'.length,s,e.bs⟩) (H.set i (.buf s t xs' sh)) w') [] w' xs'.flatten vals) :
  RelB G c (β.set i ⟨e.b,v',xs'.length,s,e.bs⟩) st (H.set i (.buf s t xs' sh)) a w'∧Ext (stab c β H w) w (stab c (β.set i ⟨e.b,v',xs'.length,s,e.bs⟩) (H.set i (.buf s t xs' sh)) w') w'∧BExt (λ_=>true) β (β.set i ⟨e.b,v',xs'.length,s,e.bs⟩):=by
 obtain⟨q1,q2,q3,vals0,q4,q5⟩:=h.blk i e _ he hb
 have hn0:c.β0.length≤i:=by
  rcases Wcz i c.β0.length with hlt|hge
  obtain⟨cs,hc,hcf⟩:=h.cel i hlt;rw[hb]at hc;cases hc;cases hcf;omega
 have hgb:=λg hg=>h.loc i e _ g hn0 he hb hg
 have hx:Ext (stab c β H w) w (stab c (β.set i ⟨e.b,v',xs'.length,s,e.bs⟩) (H.set i (.buf s t xs' sh)) w') w':=by
  refine⟨λb hi hs=>?_,λb hi o u hs ho hu=>?_⟩
  have hlt:=Zp7 h hs
  rcases hs with hs|⟨h1,h2,h3⟩
  exact .inl hs
  refine .inr ⟨h1,om,λj f k hf hk'=>?_⟩
  rcases Zoq hf with⟨hji,hf⟩|⟨rfl,rfl⟩
  rcases Zoq hk' with⟨_,hk'⟩|⟨e,_⟩
  exact h3 j f k hf hk';exact absurd e hji
  rcases Zoq hk' with⟨e,_⟩|⟨_,rfl⟩
  exact absurd rfl e;intro hbb
  rcases hnew b hbb with hnb|⟨hnb,_⟩
  obtain⟨k1,k2⟩:=h3 j e _ he hb hnb;exact⟨k1,Wbj k2 (W8 s hlen)⟩;omega;have hlt:=Zp7 h hs
  by_cases hbb:e.v.ownBlock=some b
  rcases hs with hs|⟨h1,h2,h3⟩
  have:=(h.ok.old b hi hs).1;have:=(hgb b hbb).1;omega;obtain⟨k1,k2⟩:=h3 i e _ he hb hbb;exact hk k1 b o u hbb om hu;rw[Zk4 (hblk b hlt hbb)];exact hu
 have hbx:BExt (λ_=>true) β (β.set i ⟨e.b,v',xs'.length,s,e.bs⟩):=by
  intro j f _ hf
  grind
 have key:∀ j f k,(β.set i ⟨e.b,v',xs'.length,s,e.bs⟩)[j]? = some f→(H.set i (.buf s t xs' sh))[j]? = some k →
   (j≠i∧β[j]? = some f∧H[j]? = some k)∨(j=i∧f=⟨e.b,v',xs'.length,s,e.bs⟩∧k=.buf s t xs' sh):=λj f k hf hk'=>by
  grind
 have hother:=λj f k b hji hf hk' hb' hbb=>h.inj j i f e k _ b hji hf hk' he hb hb' hbb
 refine⟨h.move hx hbx (by simp[h.len]) ?_ (λj f k hf hk'=>?_) (λj j' f f' k l b hij hf hk' hf' hl hb1 hb2=>?_) (λj f k b h0 hf hk' hb1=>?_) (λj hj=>?_) ?_,hx,hbx⟩
 obtain⟨γ,hγ⟩:=h.pre
 refine⟨γ.set (i-c.β0.length) ⟨e.b,v',xs'.length,s,e.bs⟩,?_⟩
 rw[hγ,Wbl _ _ hn0]
 rcases key j f k hf hk' with⟨hji,g1,g2⟩|⟨rfl,rfl,rfl⟩
 exact BlkR.keep hx hbx (λb hb'=>hblk b (at_lt (h.blk j f k g1 g2) hb') (hother j f k b hji g1 g2 hb')) (h.blk j f k g1 g2);exact⟨rfl,rfl,hls,vals,hown,hvals hx⟩
 rcases key j f k hf hk' with⟨g0,g1,g2⟩|⟨rfl,rfl,rfl⟩<;>rcases key j' f' l hf' hl with⟨g0',g3,g4⟩|⟨rfl,rfl,rfl⟩
 exact h.inj j j' f f' k l b hij g1 g2 g3 g4 hb1 hb2
 rcases hnew b hb2 with hnb|⟨hnb,_⟩
 exact hother j f k b g0 g1 g2 hb1 hnb;have:=at_lt (h.blk j f k g1 g2) hb1;omega
 rcases hnew b hb1 with hnb|⟨hnb,_⟩
 exact hother j' f' l b g0' g3 g4 hb2 hnb;have:=at_lt (h.blk j' f' l g3 g4) hb2;omega;exact hij rfl
 rcases key j f k hf hk' with⟨g0,g1,g2⟩|⟨rfl,rfl,rfl⟩
 have:=h.loc j f k b h0 g1 g2 hb1;omega
 rcases hnew b hb1 with hnb|⟨hnb,hnb'⟩
 have:=hgb b hnb;omega;have:=h.frm.size;omega;obtain⟨cs,hc,hcf⟩:=h.cel j hj;exact⟨cs,gD,hcf⟩
 refine⟨hos.trans h.frm.os,htp.trans h.frm.tape,hou.trans h.frm.output,Wbj h.frm.size hsz,λb hb' hne=>?_,λb vs t' hb'=>?_,Wgu h.frm.drawn hdw⟩
 rw[hblk b (by have:=h.frm.size;omega) λhbb=>by have:=(hgb b hbb).1;omega];exact h.frm.block b hb' hne;have hlt:=Zyz hb';obtain⟨vs1,h1⟩:=h.frm.typ b vs t' hb';exact⟨vs1,Zg7 (hblk b (by have:=h.frm.size;omega) λhbb=>by have:=(hgb b hbb).1;omega) h1⟩
def RelB.rebuf (h:RelB G c β st H a w) {i s t:Nat} {xs xs':List (List PV)} {sh:Bool} {e:Bnd} (he:β[i]? = some e) (hb:H[i]? = some (.buf s t xs sh)) {w':World} {v':Value} {vals:List Value}
  (hos:w'.os=w.os) (htp:w'.tape=w.tape) (hou:w'.output=w.output) (hdw:dle w w') (hsz:w.heap.size≤w'.heap.size) (hblk:∀ b,b<w.heap.size→e.v.ownBlock≠some b→w'.heap[b]? = w.heap[b]?)
  (hlen:xs.length≤xs'.length) (hv:xs'.length=xs.length→v'=e.v) (hk:sh=true→∀ g o u,e.v.ownBlock=some g→o<xs.length*s→w.cell? ⟨g,o,none⟩=some u→w'.cell? ⟨g,o,none⟩=some u)
  (hown:World.ownsM w' c.w0.heap.size t s v' xs'.length vals) (hnew:∀ g,v'.ownBlock=some g→e.v.ownBlock=some g∨(w.heap.size≤g∧g<w'.heap.size)) (hls:∀ x∈xs',x.length=s)
  (hvals:∀ S',Ext (stab c β H w) w S' w'→VRs S' [] w' xs'.flatten vals) :
  RelB G c (β.set i ⟨e.b,v',xs'.length,s,e.bs⟩) st (H.set i (.buf s t xs' sh)) a w'∧Ext (stab c β H w) w (stab c (β.set i ⟨e.b,v',xs'.length,s,e.bs⟩) (H.set i (.buf s t xs' sh)) w') w'∧BExt (λ_=>true) β (β.set i ⟨e.b,v',xs'.length,s,e.bs⟩):=
 h.rebuf' he hb hos htp hou hdw hsz hblk hlen hv hk hown hnew hls λhx=>hvals _ hx
def Zsi {S:Nat→Nat→Prop} {s b:Nat}:∀ xs o,VRows S [] w b s o xs→(∀ x∈xs,x.length=s)∧∃ vals,VRs S [] w xs.flatten vals∧∀ j v,vals[j]? = some v→w.cell? ⟨b,o+j,none⟩=some v:=by
 intro xs
 induction xs with
 |nil=>intro o _;exact⟨sM,[],by simp  [Wdd,VRs],sM⟩
 |cons x xs ih=>
  intro o hr
  simp  [VRows]at hr
  obtain⟨h3,vs,h4,h5⟩:=ih (o+s) hr.2;obtain⟨us,h6,h7⟩:=Wge x o hr.1.2;have hl:=Wav _ _ h6
  refine⟨λy hy=>?_,us++vs,VRs.append _ _ _ _ h6 h4,λj v hj=>?_⟩
  rcases W1.1 hy with rfl|hy
  exact hr.1.1;exact h3 y hy
  grind
def Zac4 {S:Nat→Nat→Prop} {s:Nat} {xs:List (List PV)} {u:Value} (h:VR S β w (.sl s xs) u) (hne:xs≠[]) :
  ∃ b off cap vals,u=.slice (some ⟨b,off,none⟩) xs.length cap∧VRs S [] w xs.flatten vals∧(∀ x∈xs,x.length=s)∧∀ j v,vals[j]? = some v→w.cell? ((⟨b,off,none⟩:Addr).add j)=some v:=by
 obtain⟨ad,cap,rfl,_,h⟩:=h
 rcases h with rfl|⟨b,off,rfl,h1,h2⟩
 exact absurd rfl hne;obtain⟨k1,vals,k2,k3⟩:=Zsi xs off h2;exact⟨b,off,cap,vals,rfl,k2,k1,λj v hj=>by rw[Zda];grind⟩
def Ztk {S:Nat→Nat→Prop} {β:List Bnd} {b s:Nat}:∀ xs of k m,VRows S β w b s of xs→VRows S β w b s (of+m*s) ((xs.take k).drop m)
 |[],of,k,m,_=>by simp[VRows]
 |x::xs,of,0,m,_=>by simp[VRows]
 |x::xs,of,k+1,0,h=>by
  have:=Ztk xs (of+s) k 0 h.2
  refine⟨by simpa using h.1,gD⟩
 |x::xs,of,k+1,m+1,h=>by
  have:=Ztk xs (of+s) k m h.2
  grind
def Zyl {t u e e' ty:TypeId} {i:TypeInfo} (ht:P.underlying t=some (.slice e)) (hu:P.underlying u=some (.slice e')) (hi:P.info? e=some i) (x y:Value) :
  (Builtin.append_ #[t,u] ty #[x,y]).run P w=(Builtin.append_ #[t,t] ty #[x,y]).run P w:=by
 cases x<;>simp[Builtin.append_,Wu ht,Wu hu]
def Zmx {t e ty:TypeId} {i:TypeInfo} (ht:P.underlying t=some (.slice e)) (hi:P.info? e=some i) (base:Option Addr) (n cap:Nat) (ad:Option Addr) (c:Nat) (h:n≤cap) :
  (Builtin.append_ #[t,t] ty #[.slice base n cap,.slice ad 0 c]).run P w=.ok (.slice base n cap) w:=by
 cases base<;>cases ad<;>simp[Builtin.append_,Wu ht,sizeOf,typeInfo,hi,Builtin.lenOf,h,Builtin.firstCells,loadCells,loadCellsFrom,storeCells]
inductive Src (H:List Blk) (s:Nat):PV→List (List PV)→Prop where
 |sl (ys:List (List PV)):Src H s (.sl s ys) ys
 |nil:Src H s (.sc (.slice none 0 0)) []
 |own (i t:Nat) (ys:List (List PV)) (sh:Bool) (h:H[i]? = some (.buf s t ys sh)):Src H s (.own i ys.length) ys
 |op (i t lo:Nat) (xs:List (List PV)) (sh:Bool) (h:H[i]? = some (.buf s t xs sh)) (hl:lo≤xs.length):Src H s (.op i xs.length lo) (xs.drop lo)
 |oc (i t k:Nat) (xs:List (List PV)) (sh:Bool) (h:H[i]? = some (.buf s t xs sh)) (hl:k≤xs.length):Src H s (.oc i xs.length k) (xs.take k)
 |ow (i t lo hi:Nat) (xs:List (List PV)) (sh:Bool) (h:H[i]? = some (.buf s t xs sh)) (hl:lo<hi) (hh:hi≤xs.length):Src H s (.ow i xs.length lo hi) ((xs.take hi).drop lo)
def We6:=@List.take_length
def Z2m (h:RelB G c β st H a w) {s:Nat} {q:PV} {ys:List (List PV)} {u:Value} (hs:Src H s q ys) (hu:VR (stab c β H w) β w q u) :
  (ys=[]∧∃ ad cap,u=.slice ad 0 cap)∨∃ b off cap vals,u=.slice (some ⟨b,off,none⟩) ys.length cap∧VRs (stab c β H w) [] w ys.flatten vals∧(∀ x∈ys,x.length=s) ∧
   ∀ j v,vals[j]? = some v→w.cell? ((⟨b,off,none⟩:Addr).add j)=some v:=by
 cases hs with
 |sl=>
  by_cases hne:ys=[]
  subst hne;simp only[VR]at hu;obtain⟨ad,cap,rfl,_⟩:=hu;exact .inl ⟨rfl,ad,cap,rfl⟩;exact .inr (Zac4 hu hne)
 |nil=>simp only[VR]at hu;exact .inl ⟨rfl,none,0,hu⟩
 |own i t ys sh hb=>
  simp only[VR]at hu;obtain⟨_,e,he,g1,g2⟩:=hu;obtain⟨q1,q2,q3,vals,⟨q4,q5⟩,q6⟩:=h.blk i e _ he hb;have:=g2 q1.symm;subst this
  rcases q5 with⟨q5,q7⟩|⟨g,cap,cur,e1,e2,e3,e4,e5,e6,e7⟩
  exact .inl ⟨Waj q7,none,0,q5⟩
  refine .inr ⟨g,0,cap,vals,e1,q6,q3,λj v hj=>?_⟩
  rw[Zda,Zgh e3]
  grind
 |op i t lo xs sh hb hl=>
  simp only[VR]at hu;obtain⟨_,e,he,g1,g2⟩:=hu;obtain⟨q1,q2,q3,vals,⟨q4,q5⟩,q6⟩:=h.blk i e _ he hb;obtain⟨ad,cap',g4,rfl,g5⟩:=g2 q1.symm
  by_cases hlt:lo<xs.length
  obtain⟨g,g3,rfl⟩:=g5 hlt
  rcases q5 with⟨q5,q7⟩|⟨g',cap,cur,e1,e2,e3,e4,e5,e6,e7⟩
  omega;rw[e1]at g3;cases g3
  have hrows:=Zih (w:=w) (g:=g') xs vals 0 q3 q6 λj u hj=>by
   rw[Zgh e3]
   grind
  obtain⟨k1,vals',k2,k3⟩:=Zsi _ _ (Ztk xs 0 xs.length lo hrows);rw[Wbk,←q2]at k3;rw[We6]at k1 k2
  refine .inr ⟨g',lo*e.s,cap',vals',by rw[Wa2],k2,k1,λj v hj=>by rw[Zda];exact k3 j v hj⟩
  grind
 |oc i t k xs sh hb hl=>
  simp only[VR]at hu;obtain⟨_,e,he,g1,g2⟩:=hu;obtain⟨q1,q2,q3,vals,⟨q4,q5⟩,q6⟩:=h.blk i e _ he hb
  rcases g2 q1.symm with⟨rfl,rfl,_⟩|⟨g,m,cap',e0,rfl⟩
  exact .inl ⟨rfl,none,0,rfl⟩
  rcases q5 with⟨q5,q7⟩|⟨g',cap,cur,e1,e2,e3,e4,e5,e6,e7⟩
  rw[e0]at q5;cases q5;rw[e0]at e1;cases e1
  have hrows:=Zih (w:=w) (g:=g) xs vals 0 q3 q6 λj u hj=>by
   rw[Zgh e3]
   grind
  obtain⟨k1,vals',k2,k3⟩:=Zsi _ _ (Ztk xs 0 k 0 hrows);rw[Nat.zero_mul,Wbk]at k3
  refine .inr ⟨g,0,cap',vals',gD,k2,k1,λj v hj=>by rw[Zda];exact k3 j v hj⟩
 |ow i t lo hi xs sh hb hl hh=>
  simp only[VR]at hu;obtain⟨_,e,he,g1,g2⟩:=hu;obtain⟨q1,q2,q3,vals,⟨q4,q5⟩,q6⟩:=h.blk i e _ he hb;obtain⟨g,cap',g3,g4,rfl⟩:=g2 q1.symm
  rcases q5 with⟨q5,q7⟩|⟨g',cap,cur,e1,e2,e3,e4,e5,e6,e7⟩
  omega;rw[e1]at g3;simp[Value.ownBlock]at g3;subst g3
  have hrows:=Zih (w:=w) (g:=g') xs vals 0 q3 q6 λj u hj=>by
   rw[Zgh e3]
   grind
  obtain⟨k1,vals',k2,k3⟩:=Zsi _ _ (Ztk xs 0 hi lo hrows);rw[Wbk,←q2]at k3
  refine .inr ⟨g',lo*e.s,cap',vals',gD,k2,k1,λj v hj=>by rw[Zda];exact k3 j v hj⟩
def Wam:=@List.append_nil
def Wb1:=@List.ext_getElem?
def Wcn:=@List.length_pos_iff
def Wfu:=@List.flatten_append
def Wgy:=@grownCap_ge
def Wek:=@grownCap_le_maxLen
def Weo:=@size_zeroCells
def Way:=@Nat.add_mul
def Wc0:=@List.take_left'
def Web:=@Array.toList_append
def Zae4 {c:Ctx} {a:Act} {w:World} {β:List Bnd} (hr:RelB G c β st H a w) {cl:Call} {x y:Operand} {T U e:TypeId} {i s t:Nat} {ti:TypeInfo} {z:Value} {xs ys:List (List PV)} {sh:Bool}
  (ho:o.op=.call cl) (hcl:cl={callee:=.builtin .append,args:=#[x,y],argTypes:=#[T,U]}) (hT:P.underlying T=some (.slice t)) (hU:P.underlying U=some (.slice e)) (hi:P.info? t=some ti) (hz:ti.zero=some z)
  (hs:ti.size=s) (hzs:z.cells.size=s) (hvx:VR (stab c β H w) β w (.own i xs.length) (a.eval x)) (hb:H[i]? = some (.buf s t xs sh))
  (hsrc:(ys=[]∧∃ ad cap,a.eval y=.slice ad 0 cap)∨∃ b off cap vals,a.eval y=.slice (some ⟨b,off,none⟩) ys.length cap∧VRs (stab c β H w) [] w ys.flatten vals∧(∀ x∈ys,x.length=s)∧∀ j v,vals[j]? = some v→w.cell? ((⟨b,off,none⟩:Addr).add j)=some v) (h1:(ys.flatten.all PV.one)=true)
  (hn:(xs.length+ys.length)*ti.bytes≤140737488355328) (hn2:xs.length+ys.length≤140737488355328):wpv P o a w (λv w'=>RelV G c β H w st (H.set i (.buf s t (xs++ys) sh)) a (.own i (xs++ys).length) v w'):=by
 simp only[VR]at hvx;obtain⟨ho1,ed,he,g1,g2⟩:=hvx;obtain⟨q1,q2,q3,vals,hown,q6⟩:=hr.blk i ed _ he hb;have hxv:=g2 q1.symm;have hil:=(We.1 hb).1
 have hex:(execOp a.eval o).run P w=((Builtin.append_ #[T,U] o.type #[ed.v,a.eval y]).run P w).andThen λv w'=>.ok (.value v) w':=by
  simp[execOp,ho,hcl,resolve,invoke,builtin,hxv]
 rw[Zyl hT hU hi]at hex;obtain⟨hvl,hown'⟩:=hown
 have keep:ys=[]→(∃ ad cap,a.eval y=.slice ad 0 cap)→wpv P o a w (λv w'=>RelV G c β H w st (H.set i (.buf s t (xs++ys) sh)) a (.own i (xs++ys).length) v w'):=by
  rintro rfl ⟨ad,cap,hya⟩
  have hrun:(Builtin.append_ #[T,T] o.type #[ed.v,a.eval y]).run P w=.ok ed.v w:=by
   rw[hya]
   rcases hown' with⟨e1,e2⟩|⟨g,cp,cur,e1,e2,e3,e4,_⟩
   rw[e1];exact Zmx hT hi none 0 0 ad cap (Ws _);rw[e1];exact Zmx hT hi _ _ _ ad cap e4
  simp only[wpv,hex,hrun,Wan]
  have hset:H.set i (.buf s t (xs++[]) sh)=H:=by
   rw[Wam]
   refine Wb1 λj=>?_
   grind
  rw[hset]
  refine⟨β,hr,?_,W3 _ _,Wd3 _ _⟩
  simp only[VR,Wam];exact⟨by rw[←hxv];exact ho1,ed,he,g1,λ_=>rfl⟩
 rcases hsrc with⟨hy0,hya⟩|⟨b,off,cap,nvals,hya,k1,k2,k3⟩
 exact keep hy0 hya
 by_cases hy0:ys=[]
 exact keep hy0 ⟨_,_,by rw[hya,hy0];rfl⟩;have hyl:0<ys.length:=Wcn.2 hy0
 have hnl:nvals.length=ys.length*s:=by rw[Wav _ _ k1,Zsd ys k2]
 have hone:∀ u∈nvals,u.oneCell'=true:=Wgf h1 k1
 have hlsx:∀ x∈xs++ys,x.length=s:=λx hx=>by
  rcases Wj.1 hx with hx|hx
  exact q3 x hx;exact k2 x hx
 have hflat:(xs++ys).flatten=xs.flatten++ys.flatten:=Wfu
 have hfin:∀ v' w',(Builtin.append_ #[T,T] o.type #[ed.v,a.eval y]).run P w=.ok v' w'→v'.oneCell'=true→w'.os=w.os→w'.tape=w.tape→w'.output=w.output→w.drawn≤w'.drawn→w.heap.size≤w'.heap.size →
   (∀ b,b<w.heap.size→ed.v.ownBlock≠some b→w'.heap[b]? = w.heap[b]?) →
   (∀ g o u,ed.v.ownBlock=some g→o<xs.length*s→w.cell? ⟨g,o,none⟩=some u→w'.cell? ⟨g,o,none⟩=some u) →
   World.ownsM w' c.w0.heap.size t s v' (xs++ys).length (vals++nvals)→(∀ g,v'.ownBlock=some g→ed.v.ownBlock=some g∨(w.heap.size≤g∧g<w'.heap.size)) →
   wpv P o a w (λv w'=>RelV G c β H w st (H.set i (.buf s t (xs++ys) sh)) a (.own i (xs++ys).length) v w'):=by
  intro v' w' hrun hv1 m1 m2 m3 md m4 m5 m6 m7 m8;simp only[wpv,hex,hrun,Wan]
  obtain⟨r1,r2,r3⟩:=hr.rebuf he hb (xs':=xs++ys) m1 m2 m3 (dle.of md) m4 m5 sM (λhl=>absurd hl (by rw[Wm];omega)) (λ_=>m6) m7 m8 hlsx (λS' hx'=>by
   rw[hflat]
   exact VRs.append _ _ _ _ (Wal hx' (W3 _ _) q6) (Wal hx' (W3 _ _) k1))
  refine⟨_,r1,?_,r3,r2⟩
  simp only[VR];exact⟨Z48 m7,_,W6 (by rw[hr.len];exact hil),Ws _,λ_=>rfl⟩
 have hmax:xs.length+ys.length≤maxLen:=by unfold maxLen;omega
 rcases hown' with⟨e1,e2⟩|⟨g,cp,cur,e1,e2,e3,e4,e5,e6,e7⟩
 have hx0:xs=[]:=Waj e2;have hv0:vals=[]:=Waj (by rw[hvl,e2];simp);subst hx0 hv0
 have hn':ys.length*ti.bytes≤140737488355328:=by simpa using hn
 have hrun:=run_append_nil (P:=P) w T o.type t ti z hT hi hz ⟨b,off,none⟩ ys.length cap nvals (by rw[hnl,hs]) k3 hyl (by have:=hmax;simp[maxLen]at this;omega) om;rw[←hya,←e1]at hrun;have hcap:=Wgy w ys.length 0 t;have hcap2:=Wek w ys.length 0 t (by simpa using hmax)
 refine hfin _ _ hrun rfl rfl rfl rfl (by first|exact Ws _|exact Wcr _ _) sM (λb' hb' _=>heap_alloc_old _ _ _ (by simpa using hb')) (λg o u hg=>by rw[e1]at hg;simp[Value.ownBlock]at hg) ?_ (λg hg=>?_)
 refine⟨by simp[hnl],.inr ⟨w.heap.size,_,_,sM,hr.frm.size,Zy0 w.drew _ _,by simpa using hcap,hcap2,?_,?_⟩⟩
 simp[Weo,hzs,hnl];rw[←Way];congr 1;omega;simp[hnl];simp[Value.ownBlock]at hg;subst hg;exact .inr ⟨Ws _,sM⟩
 have hcells:∀ j u,vals[j]? = some u→w.cell? ((⟨g,0,none⟩:Addr).add j)=some u:=λj u hj=>by
  rw[Zda,Zgh e3];rw[←e7,Wbg]at hj
  split at hj
  simpa using hj
  cases hj
 by_cases hroom:xs.length+ys.length≤cp
 have hfit:xs.length*ti.size+nvals.length≤cur.size:=by
  rw[hs,hnl,e6,←Way];exact W8 s hroom
 have hrun:=Zxn (P:=P) w T o.type t ti hT hi g xs.length cp cur e3 ⟨b,off,none⟩ ys.length cap nvals (by rw[hnl,hs]) k3 hone hroom hfit;rw[←hya,←e1]at hrun
 have hcl2:cur.toList.take (xs.length*ti.size)=vals:=by rw[hs];exact e7
 rw[hcl2]at hrun;have hrow:=Zp6 (us:=(vals++nvals++cur.toList.drop (xs.length*ti.size+nvals.length)).toArray) e3 gD;have hvlen:vals.length=xs.length*s:=hvl
 refine hfin _ _ hrun rfl rfl rfl rfl (by first|exact Ws _|exact Wcr _ _) (by rw[Wea];exact Ws _) (λb' hb' hne=>?_) (λg' o' u hg ho' hu=>?_) ?_ (λg' hg=>?_)
 have:b'≠g:=λeq=>hne (by rw[e1,eq];rfl)
 simp only[World.setRow,Wbt];rw[if_neg (Wcb this)];rw[e1]at hg;simp[Value.ownBlock]at hg;subst hg;rw[Zgh hrow];rw[Zgh e3]at hu
 have h5:vals[o']? = cur.toList[o']?:=by rw[←e7,Wbg,if_pos ho']
 rw[List.getElem?_toArray,Wap,Wac om,h5]
 simpa using hu
 refine⟨by simp only[Wm];rw[hvlen,hnl,←Way],.inr ⟨g,cp,_,sM,e2,hrow,by simpa using hroom,e5,?_,?_⟩⟩
 simp;rw[hvlen,hnl,hs]
 have:xs.length*s+ys.length*s≤cur.size:=by rw[hnl,hs]at hfit;exact hfit
 omega;simp only[];rw[Wc0 (by simp only[Wm];rw[hvlen,hnl,←Way])];simp[Value.ownBlock]at hg;subst hg;exact .inl (by rw[e1];rfl)
 have hgr:cp<xs.length+ys.length:=om
 have hrun:=run_append_grow (P:=P) w T o.type t ti z hT hi hz ⟨g,0,none⟩ xs.length cp vals (by rw[hvl,hs]) hcells ⟨b,off,none⟩ ys.length cap nvals (by rw[hnl,hs]) k3 hgr (by have:=hmax;simp[maxLen]at this;omega) (growslice_fits hgr hn);rw[←hya,←e1]at hrun;have hcap:=Wgy w (xs.length+ys.length) cp t;have hcap2:=Wek w (xs.length+ys.length) cp t hmax
 refine hfin _ _ hrun rfl rfl rfl rfl (by first|exact Ws _|exact Wcr _ _) sM (λb' hb' _=>heap_alloc_old _ _ _ (by simpa using hb')) (λg' o' u hg ho' hu=>?_) ?_ (λg' hg=>?_)
 rw[Wcg];exact hu;exact Wb8 w _ hu
 refine⟨by simp only[Wm];rw[hvl,hnl,←Way],.inr ⟨w.heap.size,_,_,sM,hr.frm.size,Zy0 w.drew _ _,by simpa using hcap,hcap2,?_,?_⟩⟩
 simp[Weo,hzs,hnl,hvl];rw[←Way,←Way];congr 1;omega;simp only[Wm];rw[Web,Web,Wc0 (by simp[hvl,hnl,Way])];simp[Value.ownBlock]at hg;subst hg;exact .inr ⟨Ws _,sM⟩
def Z9e {c:Ctx} {a:Act} {w:World} {β:List Bnd} (hr:RelB G c β st H a w) {cl:Call} {x y:Operand} {T U e:TypeId} {i s t:Nat} {ti:TypeInfo} {z:Value} {xs ys:List (List PV)} {sh:Bool} {q:PV}
  (ho:o.op=.call cl) (hcl:cl={callee:=.builtin .append,args:=#[x,y],argTypes:=#[T,U]}) (hT:P.underlying T=some (.slice t)) (hU:P.underlying U=some (.slice e)) (hi:P.info? t=some ti) (hz:ti.zero=some z)
  (hs:ti.size=s) (hzs:z.cells.size=s) (hvx:VR (stab c β H w) β w (.own i xs.length) (a.eval x)) (hb:H[i]? = some (.buf s t xs sh)) (hy:opd G st y=some q) (hq:Src H s q ys) (h1:(ys.flatten.all PV.one)=true)
  (hn:(xs.length+ys.length)*ti.bytes≤140737488355328) (hn2:xs.length+ys.length≤140737488355328):wpv P o a w (λv w'=>RelV G c β H w st (H.set i (.buf s t (xs++ys) sh)) a (.own i (xs++ys).length) v w'):=Zae4 hr ho hcl hT hU hi hz hs hzs hvx hb (Z2m hr hq (hr.opd hy)) h1 hn hn2
def OpT.append {cl:Call} {x y:Operand} {T U e:TypeId} {i s t:Nat} {ti:TypeInfo} {z:Value} {xs ys:List (List PV)} {sh:Bool} {q:PV}
  (ho:o.op=.call cl) (hcl:cl={callee:=.builtin .append,args:=#[x,y],argTypes:=#[T,U]}) (hT:P.underlying T=some (.slice t)) (hU:P.underlying U=some (.slice e)) (hi:P.info? t=some ti) (hz:ti.zero=some z)
  (hs:ti.size=s) (hzs:z.cells.size=s) (hx:opd G st x=some (.own i xs.length)) (hb:H[i]? = some (.buf s t xs sh)) (hy:opd G st y=some q) (hq:Src H s q ys) (h1:(ys.flatten.all PV.one)=true)
  (hn:(xs.length+ys.length)*ti.bytes≤140737488355328) (hn2:xs.length+ys.length≤140737488355328):OpT P G n0 o st H (.own i (xs++ys).length) (H.set i (.buf s t (xs++ys) sh)):=λ_ _ _ _ _ hr=>Z9e hr ho hcl hT hU hi hz hs hzs (hr.opd hx) hb hy hq h1 hn hn2
end
section
variable {P:Program} {G:Glob} {c:Ctx} {β:List Bnd} {st:St} {H:List Blk} {a:Act} {w:World} {n0 nt:Nat} {o:Oper}
def OpT.index_own {t e:TypeId} {x y:Operand} {k:IntKind} {j:Int} {i s ty:Nat} {xs:List (List PV)} {sh:Bool} (ho:o.op=.indexAddr t x y) (hu:P.underlying t=some (.slice e)) (hz:P.cellsOf e=s) (hs0:s≠0)
  (hx:opd G st x=some (.own i xs.length)) (hb:H[i]? = some (.buf s ty xs sh)) (hy:opd G st y=some (.sc (.int k j))) (h0:0≤j) (h1:j<xs.length):OpT P G n0 o st H (.ept i xs.length j.toNat 0) H:=
 Waa λc a w β hn hr=>by
  have g1:=hr.opd hx;have g2:=hr.opd hy
  simp  [VR]at g1 g2
  obtain⟨_,ed,he,k1,k2⟩:=g1;obtain⟨q1,q2,q3,vals,⟨q4,q5⟩,q6⟩:=hr.blk i ed _ he hb;have hv:=k2 q1.symm
  rcases q5 with⟨q5,q7⟩|⟨g,cap,cur,e1,e2,e3,e4,e5,e6,e7⟩
  omega;rw[e1]at hv;simp[execOp,ho,Instr.indexAt,asIntOf,Wu hu,hv,g2,Zfq hz hs0,Zda,h0,h1];exact⟨rfl,ed,he,k1,λ_=>⟨g,by rw[e1];rfl,gD⟩⟩
def OpT.load_ept {t:TypeId} {x:Operand} {i n k off s ty:Nat} {xs:List (List PV)} {row:List PV} {sh:Bool} {p:PV} (ho:o.op=.load t x) (hx:opd G st x=some (.ept i n k off)) (hb:H[i]? = some (.buf s ty xs sh)) (hn:n=xs.length)
  (hk:xs[k]? = some row) (hl:ldPV P t (row.drop off)=some p):OpT P G n0 o st H p H:=
 Waa λc a w β h0 hr=>by
  obtain⟨_,ed,he,k1,k2⟩:=hr.opd hx;obtain⟨q1,q2,q3,vals,⟨q4,q5⟩,q6⟩:=hr.blk i ed _ he hb;obtain⟨g,k3,k4⟩:=k2 om
  rcases q5 with⟨q5,q7⟩|⟨g',cap,cur,e1,e2,e3,e4,e5,e6,e7⟩
  rw[q5]at k3;simp[Value.ownBlock]at k3;rw[e1]at k3;cases k3
  obtain⟨r1,r2⟩:=VRows.get (Zih (w:=w) (g:=g') xs vals 0 q3 q6 λj u hj=>by
   rw[Zgh e3]
   grind) hk
  obtain⟨v,h6,h7⟩:=run_ld (P:=P) (VRow.nobnd (β:=β) (VRow.drop row _ off r2)) hl;rw[Wbk,←q2]at h6;exact⟨v,by simp[execOp,ho,Instr.loadAt,k4,Instr.sureAddr,h6],h7⟩
def Wdn:=@List.set_cons_succ
def Wc1:=@List.take_length_add_append
def Wc2:=@List.drop_length_add_append
def Wdg:=@Nat.add_zero
def Wdx:=@List.take_take
def Wbp:=@Nat.min_eq_left
def Wdb:=@List.drop_take
def Wa7:=@Array.length_toList
def Wae:=@List.mem_or_eq_of_mem_set
def OpT.store_ept {t:TypeId} {x y:Operand} {i n k off s ty:Nat} {xs:List (List PV)} {row:List PV} {p:PV} (ho:o.op=.store t x y) (hx:opd G st x=some (.ept i n k off)) (hy:opd G st y=some p) (hb:H[i]? = some (.buf s ty xs false)) (hn:n=xs.length)
  (hk:xs[k]? = some row) (ht:P.cellsOf t=p.cells.length) (hti:(P.info? t).isSome=true) (hl:off+p.cells.length≤row.length) (h1:(p.cells.all PV.one)=true) (hcl:PV.idss (λ_=>false) p.cells=true) :
  OpT P G n0 o st H (.sc undef) (H.set i (.buf s ty (xs.set k (row.take off++p.cells++row.drop (off+p.cells.length))) false)):=by
 intro c a w β hn0 hr;have g1:=hr.opd hx;have g2:=(hr.opd hy).cells;simp only[VR]at g1;obtain⟨_,ed,he,k1,k2⟩:=g1;obtain⟨q1,q2,q3,vals,⟨q4,q5⟩,q6⟩:=hr.blk i ed _ he hb;obtain⟨g,k3,k4⟩:=k2 om;have hlu:=Wav _ _ g2
 rcases q5 with⟨q5,q7⟩|⟨g',cap,cur,e1,e2,e3,e4,e5,e6,e7⟩
 rw[q5]at k3;simp[Value.ownBlock]at k3;rw[e1]at k3;simp[Value.ownBlock]at k3;subst k3;have hkl:=(We.1 hk).1;have hrl:row.length=s:=q3 row (Wq hk)
 have hks:k*s+s≤xs.length*s:=by
  have:(k+1)*s≤xs.length*s:=W8 s hkl;rw[Wcw]at this;exact this
 have hcurs:xs.length*s≤cur.size:=by rw[e6];exact W8 s e4
 have hrun:=Zft P g' (k*s+off) ty (a.eval y).cells.toList 0 cur w e3 (by rw[hlu];omega) (Wgf h1 g2);obtain⟨ti,htio⟩:=Was.1 hti
 have hsz:(sizeOf t).run P w=.ok (a.eval y).cells.size w:=by
  rw[Wcj w htio,ht,←hlu];simp
 rw[q2]at k4
 have hex:(execOp a.eval o).run P w=.ok .skip (w.setRow g' (cur.toList.take (k*s+off+0)++(a.eval y).cells.toList++cur.toList.drop (k*s+off+0+(a.eval y).cells.toList.length)).toArray):=by
  simp only[execOp,ho,Instr.storeAt,k4,Instr.sureAddr,storeVar];simp[hsz,hrun]
 simp only[wpv,hex]
 let us:=(a.eval y).cells.toList
 let vals':=vals.take (k*s+off)++us++vals.drop (k*s+off+us.length)
 have hvl:vals.length=xs.length*s:=q4
 have hflat:∀(xs:List (List PV)) (k:Nat),xs[k]? = some row→(∀ x∈xs,x.length=s) →
   (xs.set k (row.take off++p.cells++row.drop (off+p.cells.length))).flatten=xs.flatten.take (k*s+off)++p.cells++xs.flatten.drop (k*s+off+p.cells.length):=by
  intro xs
  induction xs with
  |nil=>intro k hk;simp at hk
  |cons x xs ih=>
   intro k hk hls
   cases k with
   |zero=>
    grind
   |succ k=>
    have hxl:x.length=s:=hls x sM;simp only[Wdn,Wb0];rw[ih k (by simpa using hk) λy hy=>hls y (by simp[hy])];rw[show(k+1)*s+off=x.length+(k*s+off) by rw[hxl,Wcw];omega];rw[Wc1,show x.length+(k*s+off)+p.cells.length=x.length+(k*s+off+p.cells.length) by omega,Wc2];simp only[Wap]
 have hrow:=Zp6 (us:=(cur.toList.take (k*s+off+0)++us++cur.toList.drop (k*s+off+0+us.length)).toArray) e3 gD
 have hlen':(xs.set k (row.take off++p.cells++row.drop (off+p.cells.length))).length=xs.length:=sM
 have hrb:=hr.rebuf he hb (xs':=xs.set k (row.take off++p.cells++row.drop (off+p.cells.length))) (w':=w.setRow g' (cur.toList.take (k*s+off+0)++us++cur.toList.drop (k*s+off+0+us.length)).toArray) (v':=ed.v) (vals:=vals')
  rfl rfl rfl (λ_=>Ws _) (by rw[Wea];exact Ws _) (λb hb' hne=>?_) (by rw[hlen'];exact Ws _) (λ_=>rfl) (λhsh=>by cases hsh) ?_ (λg hg=>.inl hg) (λx hx'=>?_) (λS' hx'=>?_)
 obtain⟨r1,r2,r3⟩:=hrb
 have hset:β.set i ⟨ed.b,ed.v,(xs.set k (row.take off++p.cells++row.drop (off+p.cells.length))).length,s,ed.bs⟩=β:=by
  rw[hlen',←q1,←q2]
  refine Wb1 λj=>?_
  by_cases hji:j=i
  subst hji;rw[W6 (We.1 he).1,he];rw[Wbd (Wcb hji)]
 rw[hset]at r1 r2 r3;exact⟨β,r1,by simp only[VR],r3,r2⟩
 have:b≠g':=λeq=>hne (by rw[e1,eq];rfl)
 simp only[World.setRow,Wbt];rw[if_neg (Wcb this)];have hu2:us.length=p.cells.length:=hlu
 refine⟨by simp only[hlen',vals',Wm,Wad,Wa2];omega,.inr ⟨g',cap,_,by rw[e1,hlen'],e2,hrow,by rw[hlen'];exact e4,e5,?_,?_⟩⟩
 simp;omega;simp only[hlen',vals',Wdg];have hv2:vals=cur.toList.take (xs.length*s):=e7.symm;rw[hv2,Wdx,Wbp (by omega:k*s+off≤xs.length*s),Wdb,Wd1,Wbe (by simp only[Wm,Wad,Wa7];omega)]
 congr 1
 congr 1
 simp only[Wm,Wad,Wa7];omega
 rcases Wae hx' with h3|h3
 exact q3 x h3;rw[h3];simp only[Wm,Wad,Wa2];omega;rw[hflat xs k hk q3];have h4:=Wal hx' (W3 (λ_=>true) ([]:List Bnd)) q6
 have h5:VRs S' [] (w.setRow g' (cur.toList.take (k*s+off+0)++us++cur.toList.drop (k*s+off+0+us.length)).toArray) p.cells us:=
  Wdi hx' (q:=λ_=>false) (λi e hq _=>by cases hq) _ _ hcl g2
 have h6:us.length=p.cells.length:=hlu
 have h7:vals.drop (k*s+off+us.length)=vals.drop (k*s+off+p.cells.length):=by rw[h6]
 simp only[vals'];rw[h7];exact VRs.append _ _ _ _ (VRs.append _ _ _ _ (Wdj _ _ _ h4) h5) (Wdk _ _ _ h4)
def OpT.len_sl {cl:Call} {x:Operand} {T e s:Nat} {xs:List (List PV)} (ho:o.op=.call cl) (hcl:cl={callee:=.builtin .len,args:=#[x],argTypes:=#[T]}) (hT:P.underlying T=some (.slice e)) (hx:opd G st x=some (.sl s xs)) :
  OpT P G n0 o st H (.sc (.int .i64 xs.length)) H:=
 Waa λc a w β h0 hr=>by
  obtain⟨ad,cap,h2,_⟩:=hr.opd hx;exact⟨.int .i64 xs.length,by simp[execOp,ho,hcl,resolve,invoke,builtin,h2,Builtin.len_,Wu hT,goInt],by simp  [VR]⟩
def OpT.len_own {cl:Call} {x:Operand} {T e s t i:Nat} {xs:List (List PV)} {sh:Bool} (ho:o.op=.call cl) (hcl:cl={callee:=.builtin .len,args:=#[x],argTypes:=#[T]}) (hT:P.underlying T=some (.slice e)) (hx:opd G st x=some (.own i xs.length)) (hb:H[i]? = some (.buf s t xs sh)) :
  OpT P G n0 o st H (.sc (.int .i64 xs.length)) H:=
 Waa λc a w β h0 hr=>by
  obtain⟨_,ed,he,k1,k2⟩:=hr.opd hx;obtain⟨q1,q2,q3,vals,⟨q4,q5⟩,q6⟩:=hr.blk i ed _ he hb;have hv:=k2 q1.symm
  refine⟨.int .i64 xs.length,?_,by simp  [VR]⟩
  rcases q5 with⟨q5,q7⟩|⟨g',cap,cur,e1,_⟩
  rw[q5]at hv;simp[execOp,ho,hcl,resolve,invoke,builtin,hv,Builtin.len_,Wu hT,goInt,q7];rw[e1]at hv;simp[execOp,ho,hcl,resolve,invoke,builtin,hv,Builtin.len_,Wu hT,goInt]
def fillPV (place:Nat→Option (Nat×Nat)) (cells:List PV):List (Nat×PV)→Option (List PV)
 |[]=>some cells
 |(i,p)::r=>match place i with
  |none=>none
  |some (off,size)=>if p.cells.length≠size∨off+p.cells.length>cells.length then none
   else fillPV place (cells.take off++p.cells++cells.drop (off+p.cells.length)) r
def Wbm:=@List.take_add_one
def Wfv:=@List.drop_set_of_lt
def splice (off:Nat):∀ vs j (cs:Array Value),off+j+vs.length≤cs.size →
  ((vs.zipIdx j).foldl (λcs x=>cs.setIfInBounds (off+x.2) x.1) cs).toList=cs.toList.take (off+j)++vs++cs.toList.drop (off+j+vs.length)
 |[],j,cs,_=>sM
 |v::vs,j,cs,h=>by
  simp at h
  simp;rw[splice off vs (j+1) _ gD];simp;rw[show off+(j+1)=off+j+1 by omega,Wbm,List.take_set_of_le (Ws _),Wfv om]
  grind
def Z3z {S:Nat→Nat→Prop} (place:Nat→Option (Nat×Nat)):∀ ps us cells out cs,
  ps.map (·.1)=us.map (·.1)→VRs S β w (ps.map (·.2)) (us.map (·.2))→VRs S β w cells cs.toList→fillPV place cells ps=some out→∃ cs',Instr.fill place cs us=some cs'∧VRs S β w out cs'.toList
 |[],[],cells,out,cs,_,_,hc,hf=>by
  cases hf;exact⟨cs,rfl,hc⟩
 |[],_::_,_,_,_,h,_,_,_=>gD
 |_::_,[],_,_,_,h,_,_,_=>gD
 |(i,p)::ps,(i',u)::us,cells,out,cs,hi,hv,hc,hf=>by
  simp at hi
  obtain⟨rfl,hi⟩:=hi;simp only[fillPV]at hf;cases hp:place i;simp[hp]at hf;rename_i os;obtain⟨off,size⟩:=os;simp only[hp]at hf
  split at hf
  cases hf;have hpc:=hv.1.cells;have hlu:=Wav _ _ hpc;have hlc:=Wav _ _ hc
  have h1:¬(u.cells.size≠size∨off+u.cells.size>cs.size):=by
   grind
  have h2:off+u.cells.size≤cs.size:=om
  have h3:=om
  have h5:(u.cells.zipIdx.foldl (λcs x=>cs.setIfInBounds (off+x.2) x.1) cs)=((u.cells.toList.zipIdx 0).foldl (λcs x=>cs.setIfInBounds (off+x.2) x.1) cs):=by
   rw[←Array.foldl_toList];simp
  have h6:VRs S β w (cells.take off++p.cells++cells.drop (off+p.cells.length)) ((u.cells.zipIdx.foldl (λcs x=>cs.setIfInBounds (off+x.2) x.1) cs)).toList:=by
   rw[h5,splice off u.cells.toList 0 cs gD,hlu];exact VRs.append _ _ _ _ (VRs.append _ _ _ _ (Wdj _ _ _ hc) hpc) (Wdk _ _ _ hc)
  obtain⟨cs',h7,h8⟩:=Z3z place ps us _ out _ hi hv.2 h6 hf;simp only[Instr.fill]
  grind
end
section
variable {P:Program} {G:Glob} {c:Ctx} {β:List Bnd} {st:St} {H:List Blk} {a:Act} {w:World} {n0 nt:Nat} {o:Oper}
def opds (G:Glob) (st:St):List (Nat×Operand)→Option (List (Nat×PV))
 |[]=>some []
 |(i,x)::r=>match opd G st x,opds G st r with
  |some p,some ps=>some ((i,p)::ps)
  |_,_=>none
def Wai:=@List.cons.injEq
def Z77 (h:RelB G c β st H a w):∀ parts ps,opds G st parts=some ps →
  ps.map (·.1)=(parts.map λx=>(x.1,a.eval x.2)).map (·.1)∧VRs (stab c β H w) β w (ps.map (·.2)) ((parts.map λx=>(x.1,a.eval x.2)).map (·.2))
 |[],ps,hp=>by cases hp;simp[VRs]
 |(i,x)::r,ps,hp=>by
  simp only[opds]at hp
  split at hp
  rename_i p qs h1 h2;cases hp;obtain⟨h3,h4⟩:=Z77 h r qs h2;simp only[W0,Wai,true_and];exact⟨h3,h.opd h1,h4⟩
  grind
def buildPV (P:Program) (t:TypeId) (ps:List (Nat×PV)):Option PV:=
 match P.info? t with
 |none=>none
 |some ti=>match ti.zero with
  |none=>none
  |some z=>match P.underlying t with
   |some (.struct fs)=>match fs.toList.mapM (λf=>(P.info? f.type).map λi=>(f.offset,i.size))with
    |some places=>(fillPV (places[·]?) (z.cells.toList.map .sc) ps).map mkAgg
    |none=>none
   |some (.array _ e)=>if(P.info? e).isSome then(fillPV (λi=>some (i*P.cellsOf e,P.cellsOf e)) (z.cells.toList.map .sc) ps).map mkAgg else none
   |_=>none
def OpT.build {t:TypeId} {parts:Array (Nat×Operand)} {ps:List (Nat×PV)} {p:PV} (ho:o.op=.build t parts) (hp:opds G st parts.toList=some ps) (hb:buildPV P t ps=some p):OpT P G n0 o st H p H:=
 Waa λc a w β h0 hr=>by
  obtain⟨h1,h2⟩:=Z77 hr _ _ hp
  unfold buildPV at hb
  cases hi:P.info? t;simp[hi]at hb;rename_i ti
  simp  [hi]at hb
  cases hz:ti.zero;simp[hz]at hb;rename_i z
  simp  [hz]at hb
  have hzr:VRs (stab c β H w) β w (z.cells.toList.map .sc) z.cells.toList:=VRs.scs _;cases hu:P.underlying t;simp[hu]at hb;rename_i d;cases d<;>simp only[hu]at hb<;>try grind
  case struct fs=>
   cases hpl:fs.toList.mapM (λf=>(P.info? f.type).map λi=>(f.offset,i.size));simp[hpl]at hb;rename_i places
   simp  [hpl,Wg]at hb
   obtain⟨out,hf,rfl⟩:=hb;obtain⟨cs',h3,h4⟩:=Z3z _ ps _ _ out z.cells h1 h2 hzr hf;have hrp:=run_places (P:=P) w fs.toList places hpl
   refine⟨.agg cs',?_,by have:=Whw h4;omega⟩
   have hpl2:(fs.mapM λf=>Functor.map (Prod.mk f.offset) (sizeOf f.type)).run P w=.ok places.toArray w:=by
    rw[Whg];simp_all
   simp  [execOp,ho,Instr.build,Wbb,zeroValue,typeInfo,hz,Wu hu];simp_all
  case array n e=>
   split at hb
   rename_i hei;obtain⟨ei,hei⟩:=Was.1 hei
   simp at hb
   obtain⟨out,hf,rfl⟩:=hb;obtain⟨cs',h3,h4⟩:=Z3z _ ps _ _ out z.cells h1 h2 hzr hf
   refine⟨.agg cs',?_,by have:=Whw h4;omega⟩
   simp  [execOp,ho,Instr.build,Wbb,zeroValue,typeInfo,run_program,Wan,hi,Wei,hz,Wu hu,Wcj w hei,Array.toList_map];rw[h3];simp
   grind
def rowsOf (s:Nat):Nat→List PV→List (List PV)
 |0,_=>[]
 |n+1,cs=>cs.take s::rowsOf s n (cs.drop s)
def Zp8 (s:Nat):∀ n cs,cs.length=n*s→(rowsOf s n cs).flatten=cs∧(rowsOf s n cs).length=n∧∀ x∈rowsOf s n cs,x.length=s
 |0,cs,h=>by
  have:=Waj (by simpa using h);subst this;simp[rowsOf]
 |n+1,cs,h=>by
  rw[Wcw]at h;obtain⟨h1,h2,h3⟩:=Zp8 s n (cs.drop s) gD;simp  [rowsOf,Wb0,h1]
  grind
def litPV (P:Program) (t len:Nat) (ps:List (Nat×PV)):Option (TypeId×List PV):=
 match P.underlying t with
 |some (.slice e)=>match P.info? e with
  |some ei=>match ei.zero with
   |some z=>if len*ei.size≤16777216&&ei.size=P.cellsOf e&&z.cells.size=ei.size&&decide (0<ei.size)
     then(fillPV (λi=>some (i*ei.size,ei.size)) (((Array.range (len*ei.size)).map (z.cells[·%z.cells.size]!)).toList.map .sc) ps).map λout=>(e,out)else none
   |none=>none
  |none=>none
 |_=>none
def Z03 (place:Nat→Option (Nat×Nat)):∀ ps cells out,fillPV place cells ps=some out→out.length=cells.length
 |[],cells,out,h=>by simp  [fillPV,Wn]at h;rw[h]
 |(i,p)::ps,cells,out,h=>by
  simp  [fillPV]at h
  split at h
  cases h
  split at h
  cases h;rw[Z03 place ps _ out h]
  grind
def Wfw:=@Nat.mul_le_mul_left
def Z78 (hr:RelB G c β st H a w) {t len e:Nat} {parts:Array (Nat×Operand)} {ps:List (Nat×PV)} {out:List PV} (ho:o.op=.buildSlice t len parts) (hp:opds G st parts.toList=some ps) (hl:litPV P t len ps=some (e,out)) :
  ∃ cs,(execOp a.eval o).run P w=.ok (.value (.slice (some ⟨w.heap.size,0,none⟩) len len)) (w.alloc (.cells cs e))∧VRs (stab c β H w) β w out cs.toList∧out.length=len*P.cellsOf e∧0<P.cellsOf e∧len≤16777216:=by
 obtain⟨h1,h2⟩:=Z77 hr _ _ hp
 unfold litPV at hl
 cases hu:P.underlying t;simp[hu]at hl;rename_i d;cases d<;>simp only[hu]at hl<;>try grind
 case slice e'=>
  cases hi:P.info? e';simp[hi]at hl;rename_i ei;simp only[hi]at hl;cases hz:ei.zero;simp[hz]at hl;rename_i z;simp only[hz]at hl
  split at hl
  rename_i hc
  simp at hc
  obtain⟨⟨⟨k1,k2⟩,k3⟩,k4⟩:=hc;simp only[Wg,Wa1]at hl;obtain⟨out',hf,rfl,rfl⟩:=hl;obtain⟨cs',h3,h4⟩:=Z3z _ ps _ _ out' ((Array.range (len*ei.size)).map (z.cells[·%z.cells.size]!)) h1 h2 (VRs.scs _) hf
  refine⟨cs',?_,h4,by rw[Z03 _ _ _ _ hf,←k2];simp,om,?_⟩
  have hng:¬(len*ei.size>2^24):=om
  by_cases hz0:len*ei.size=0
  have hr0:∀ f:Nat→Value,Array.map f (Array.range 0)=#[]:=λf=>Array.eq_empty_of_size_eq_zero sM
  rw[hz0,hr0]at h3;simp[hr0,execOp,ho,Instr.buildSlice,Wu hu,Wcj w hi,←k2,hz0,h3,newRow];simp only[execOp,ho,Instr.buildSlice,Wbb,Wu hu,Wan,Wcj w hi,←k2];rw[if_neg hng,if_neg hz0];simp only[Wbb,zeroValue,typeInfo,run_program,hi,hz,Wan,Wei,Array.toList_map,h3];simp[newRow];have:=Wfw len k4;omega
  grind
def OpT.lit {t len e:Nat} {parts:Array (Nat×Operand)} {ps:List (Nat×PV)} {out:List PV} (ho:o.op=.buildSlice t len parts) (hp:opds G st parts.toList=some ps) (hl:litPV P t len ps=some (e,out)) (hcl:PV.idss (λ_=>false) out=true)
  {p:PV} (hpe:p=.sl (P.cellsOf e) (rowsOf (P.cellsOf e) len out)):OpT P G n0 o st H p H:=by
 intro c a w β h0 hr;obtain⟨cs,h1,h2,h3,h4,h5⟩:=Z78 hr ho hp hl;obtain⟨g1,g2,g3⟩:=hr.anon (.cells cs e);obtain⟨r1,r2,r3⟩:=Zp8 (P.cellsOf e) len out h3;simp  [wpv,h1]
 refine⟨β,g1,?_,W3 _ _,g2⟩
 subst hpe
 refine⟨_,len,by rw[r2],om,.inr ⟨w.heap.size,0,rfl,gD,?_⟩⟩
 refine Zih _ cs.toList 0 r3 (by rw[r1];exact Wdi g2 (q:=λ_=>false) (λi e hq _=>gD) _ _ hcl h2) λj u hj=>?_
 simp_all
def RelB.newbufZ (h:RelB G c β st H a w) {s t n cap:Nat} {fz:Nat×Nat} {cs:Array Value} {xs:List (List PV)} (hz:okz cs.size fz) (hcs:cs.size=cap*s) (hn:n≤cap) (hm:cap≤maxLen) (hxs:xs.length=n) (hls:∀ x∈xs,x.length=s)
  (hv:VRs (stab c β H w) [] w xs.flatten (cs.toList.take (n*s))) :
  RelB G c (β++[⟨0,.slice (some ⟨w.heap.size,0,none⟩) n cap,n,s,[]⟩]) st (H++[.buf s t xs false]) a (w.alloc (.cells cs t fz)) ∧
  Ext (stab c β H w) w (stab c (β++[⟨0,.slice (some ⟨w.heap.size,0,none⟩) n cap,n,s,[]⟩]) (H++[.buf s t xs false]) (w.alloc (.cells cs t fz))) (w.alloc (.cells cs t fz)):=by
 have both:∀ {i:Nat} {e:Bnd} {k:Blk},(β++[(⟨0,.slice (some ⟨w.heap.size,0,none⟩) n cap,n,s,[]⟩:Bnd)])[i]? = some e→(H++[Blk.buf s t xs false])[i]? = some k →
   (β[i]? = some e∧H[i]? = some k)∨(i=H.length∧e=⟨0,.slice (some ⟨w.heap.size,0,none⟩) n cap,n,s,[]⟩∧k=.buf s t xs false):=by
  intro i e k g1 g2
  rcases Zcj g1 with⟨g1,l1⟩|⟨l1,rfl⟩
  rcases Zcj g2 with⟨g2,_⟩|⟨g2,_⟩
  exact .inl ⟨g1,g2⟩;have:=h.len;omega
  rcases Zcj g2 with⟨_,g3⟩|⟨g3,g4⟩
  have:=h.len;omega
  grind
 have hx:Ext (stab c β H w) w (stab c (β++[⟨0,.slice (some ⟨w.heap.size,0,none⟩) n cap,n,s,[]⟩]) (H++[.buf s t xs false]) (w.alloc (.cells cs t fz))) (w.alloc (.cells cs t fz)):=by
  refine⟨λb hi hs=>?_,λb hi o' v hs _ hv=>?_⟩
  rcases hs with hs|⟨h1,h2,h3⟩
  exact .inl hs
  refine .inr ⟨h1,sO,λi e k he hk=>?_⟩
  rcases both he hk with⟨g1,g2⟩|⟨rfl,rfl,rfl⟩
  exact h3 i e k g1 g2;intro hb;simp[Value.ownBlock]at hb;omega;rw[Wcg];exact hv;exact Wb8 w _ hv
 refine⟨h.move hx (Wbz _ _) (by simp[h.len]) ?_ (λi e k he hk=>?_) (λi j e f k l b hij he hk hf hl hb hb'=>?_) (λi e k b h0 he hk hb=>?_) (λi hi=>?_) (h.frm.alloc _),hx⟩
 obtain⟨γ,hγ⟩:=h.pre;exact⟨γ++[⟨0,.slice (some ⟨w.heap.size,0,none⟩) n cap,n,s,[]⟩],by rw[hγ,Wap]⟩
 rcases both he hk with⟨g1,g2⟩|⟨rfl,rfl,rfl⟩
 exact BlkR.keep hx (Wbz _ _) (λb hb=>heap_alloc_old w _ b (at_lt (h.blk i e k g1 g2) hb)) (h.blk i e k g1 g2)
 refine⟨hxs.symm,rfl,hls,cs.toList.take (n*s),⟨?_,.inr ⟨w.heap.size,cap,cs,by rw[hxs],h.frm.size,⟨fz,Wfo w _,hz⟩,by rw[hxs];exact hn,hm,hcs,by rw[hxs]⟩⟩,Wal hx (W3 _ _) hv⟩
 rw[Wad,hxs,Wa7,hcs,Wbp (W8 s hn)]
 rcases both he hk with⟨g1,g2⟩|⟨rfl,rfl,rfl⟩
 rcases both hf hl with⟨g3,g4⟩|⟨rfl,rfl,rfl⟩
 exact h.inj i j e f k l b hij g1 g2 g3 g4 hb hb';have:=at_lt (h.blk i e k g1 g2) hb;simp[Blk.at,Value.ownBlock]at hb';omega
 rcases both hf hl with⟨g3,g4⟩|⟨rfl,rfl,rfl⟩
 have:=at_lt (h.blk j f l g3 g4) hb';simp[Blk.at,Value.ownBlock]at hb;omega;exact hij rfl
 rcases both he hk with⟨g1,g2⟩|⟨rfl,rfl,rfl⟩
 have:=h.loc i e k b h0 g1 g2 hb;simp;omega;simp[Blk.at,Value.ownBlock]at hb;have:=h.frm.size;simp;omega;obtain⟨ds,hc,hcf⟩:=h.cel i hi
 grind
def RelB.newbuf (h:RelB G c β st H a w) {s t n cap:Nat} {cs:Array Value} {xs:List (List PV)} (hcs:cs.size=cap*s) (hn:n≤cap) (hm:cap≤maxLen) (hxs:xs.length=n) (hls:∀ x∈xs,x.length=s)
  (hv:VRs (stab c β H w) [] w xs.flatten (cs.toList.take (n*s))) :
  RelB G c (β++[⟨0,.slice (some ⟨w.heap.size,0,none⟩) n cap,n,s,[]⟩]) st (H++[.buf s t xs false]) a (w.alloc (.cells cs t)) ∧
  Ext (stab c β H w) w (stab c (β++[⟨0,.slice (some ⟨w.heap.size,0,none⟩) n cap,n,s,[]⟩]) (H++[.buf s t xs false]) (w.alloc (.cells cs t))) (w.alloc (.cells cs t)):=
 h.newbufZ (.inl (Ws _)) hcs hn hm hxs hls hv
def OpT.litOwn {t len e:Nat} {parts:Array (Nat×Operand)} {ps:List (Nat×PV)} {out:List PV} (ho:o.op=.buildSlice t len parts) (hp:opds G st parts.toList=some ps) (hl:litPV P t len ps=some (e,out)) (hcl:PV.idss (λ_=>false) out=true) :
  OpT P G n0 o st H (.own H.length len) (H++[.buf (P.cellsOf e) e (rowsOf (P.cellsOf e) len out) false]):=by
 intro c a w β h0 hr;obtain⟨cs,h1,h2,h3,h4,h5⟩:=Z78 hr ho hp hl;obtain⟨r1,r2,r3⟩:=Zp8 (P.cellsOf e) len out h3
 have hcs:cs.size=len*P.cellsOf e:=by have:=Wav _ _ h2;grind
 obtain⟨g1,g2⟩:=hr.newbuf (s:=P.cellsOf e) (t:=e) (n:=len) (cap:=len) (cs:=cs) (xs:=rowsOf (P.cellsOf e) len out) hcs (Ws _) (by unfold maxLen;omega) r2 r3 (by
  rw[r1,Wbe gD]
  exact Wdi (Wd3 _ _) (q:=λ_=>false) (λi e hq _=>gD) _ _ hcl h2)
 simp  [wpv,h1]
 refine⟨_,g1,?_,Wbz _ _,g2⟩
 exact⟨⟨_,_,rfl⟩,⟨0,.slice (some ⟨w.heap.size,0,none⟩) len len,len,P.cellsOf e,[]⟩,by rw[←hr.len];simp,Ws _,λ_=>rfl⟩
def loOf (G:Glob) (st:St):Option Operand→Option Int
 |none=>some 0
 |some x=>match opd G st x with|some (.sc (.int _ i))=>some i|_=>none
def hiOf (G:Glob) (st:St) (n:Nat):Option Operand→Option Int
 |none=>some n
 |some x=>match opd G st x with|some (.sc (.int _ i))=>some i|_=>none
def OpT.slice {t e s:Nat} {x:Operand} {lo hi:Option Operand} {l h:Int} {p q:PV} {xs:List (List PV)} (ho:o.op=.slice t x lo hi none) (hu:P.underlying t=some (.slice e)) (hz:P.cellsOf e=s) (hs0:s≠0)
  (hx:opd G st x=some q) (hq:Wk H false q (.sl s xs)) (hlo:loOf G st lo=some l) (hhi:hiOf G st xs.length hi=some h) (h0:0≤l) (h1:l≤h) (h2:h≤xs.length) (hp:p=.sl s ((xs.take h.toNat).drop l.toNat)):OpT P G n0 o st H p H:=
 Waa λc a w β hn hr=>by
  have g0:=hr.wk (hr.opd hx) hq;simp only[VR]at g0;obtain⟨ad,cap,g1,g2,g3⟩:=g0
  have hlv:∀ x,lo=some x→∃ k,a.eval x=.int k l:=λx hx'=>by
   subst hx';simp only[loOf]at hlo
   cases hox:opd G st x with
   |none=>simp[hox]at hlo
   |some r=>
    have:=hr.opd hox;cases r<;>simp only[hox]at hlo<;>try (cases hlo;done)
    case sc v=>
     cases v<;>simp only[Wn]at hlo<;>try (cases hlo;done)
     case int k i=>
      simp only[VR]at this;exact⟨k,by rw[this,hlo]⟩
  have hhv:∀ x,hi=some x→∃ k,a.eval x=.int k h:=λx hx'=>by
   subst hx';simp only[hiOf]at hhi
   cases hox:opd G st x with
   |none=>simp[hox]at hhi
   |some r=>
    have:=hr.opd hox;cases r<;>simp only[hox]at hhi<;>try (cases hhi;done)
    case sc v=>
     cases v<;>simp only[Wn]at hhi<;>try (cases hhi;done)
     case int k i=>
      simp only[VR]at this;exact⟨k,by rw[this,hhi]⟩
  have hsb:(Instr.sliceBounds true xs.length cap (lo.map a.eval) (hi.map a.eval) none).run P w=.ok (l.toNat,h.toNat,cap) w:=by
   have hh:h≤cap:=om
   cases lo with
   |none=>
    simp only[loOf,Wn]at hlo;subst hlo
    cases hi with
    |none=>
     simp only[hiOf,Wn]at hhi;subst hhi;simp[Instr.sliceBounds]
    |some y=>
     obtain⟨k,hy⟩:=hhv y rfl;simp[Instr.sliceBounds,hy,Instr.sliceBound,asIntOf,hh,h1]
   |some x'=>
    obtain⟨k',hx''⟩:=hlv x' rfl
    cases hi with
    |none=>
     simp only[hiOf,Wn]at hhi;subst hhi;simp[Instr.sliceBounds,hx'',Instr.sliceBound,asIntOf,h0,h1]
    |some y=>
     obtain⟨k,hy⟩:=hhv y rfl
     have h0h:0≤h:=om
     simp[Instr.sliceBounds,hx'',hy,Instr.sliceBound,asIntOf,hh,h0,h0h];omega
  simp[execOp,ho,Instr.sliceAt,Wu hu,Instr.slice,g1,hsb,Zfq hz hs0];subst hp
  have hlen:((xs.take h.toNat).drop l.toNat).length=h.toNat-l.toNat:=by
   rw[Wa2,Wad];omega
  simp only[VR]
  refine⟨_,cap-l.toNat,by rw[hlen],by rw[hlen];omega,?_⟩
  by_cases hlh:l.toNat=h.toNat
  left;exact Waj (by rw[hlen];omega)
  rcases g3 with rfl|⟨b,of,rfl,g4,g5⟩
  simp at h2;omega
  right
  refine⟨b,of+l.toNat*s,?_,hr.ok.stab g4 ?_,?_⟩
  by_cases hc:cap=l.toNat
  omega;rw[if_neg hc];simp[Zda];rw[hlen]
  have:l.toNat*s+(h.toNat-l.toNat)*s=h.toNat*s:=by rw[←Way];congr 1;omega
  have h3:h.toNat*s≤xs.length*s:=W8 s om;omega
  have key:∀(xs:List (List PV)) (of m:Nat),VRows (stab c β H w) [] w b s of xs→VRows (stab c β H w) [] w b s (of+m*s) (xs.drop m):=by
   intro xs
   induction xs with
   |nil=>intro of m _;simp[VRows]
   |cons x xs ih=>
    intro of m hv
    cases m with
    |zero=>simpa using hv
    |succ m=>
     simp only[VRows]at hv
     grind
  have keyt:∀(xs:List (List PV)) (of m:Nat),VRows (stab c β H w) [] w b s of xs→VRows (stab c β H w) [] w b s of (xs.take m):=by
   intro xs
   induction xs with
   |nil=>intro of m _;simp[VRows]
   |cons x xs ih=>
    intro of m hv
    cases m with
    |zero=>simp[VRows]
    |succ m=>
     simp only[VRows]at hv;simp only[List.take_succ_cons,VRows];exact⟨hv.1,ih _ m hv.2⟩
  exact key _ _ _ (keyt _ _ _ g5)
def OpT.makeFunc {f:FuncId} {captured:Array Operand} {ps:List PV} (ho:o.op=.makeFunc (.func f) #[] captured) (hp:captured.toList.map (opd G st)=ps.map some):OpT P G n0 o st H (.fn f ps) H:=
 Waa λc a w β hn hr=>by
  have h1:=We0 hr _ _ hp
  refine⟨.func (.func f) #[] (captured.map a.eval),by simp[execOp,ho,Instr.makeFunc],?_⟩
  simp  [VR]
  grind
end
section
variable {P:Program} {G:Glob} {c:Ctx} {β:List Bnd} {st:St} {H:List Blk} {a:Act} {w:World} {n0 nt:Nat} {o:Oper}
def partV (P:Program) (t:TypeId) (cs:Array Value) (off:Nat):Option Value:=
 match isAggT P t with
 |some true=>some (.agg (cs.extract off (off+P.cellsOf t)))
 |some false=>cs[off]?
 |none=>none
def Zu5 {t:TypeId} {cs:Array Value} {off:Nat} {v:Value} (h:partV P t cs off=some v) (w:World):(part t cs off).run P w=.ok v w:=by
 unfold partV at h
 cases ht:isAggT P t;simp[ht]at h;rename_i g;obtain⟨i,hi⟩:=Zyk ht
 cases g with
 |true=>simp  [ht,Wn]at h;subst h;simp[part,Ztj ht,Wcj w hi]
 |false=>simp  [ht]at h;simp[part,Ztj ht,h]
def flatFields (P:Program) (g:TypeId→Value→Value→Option Bool) (xs ys:Array Value):List Field→Option Bool
 |[]=>some true
 |f::fs=>if f.name≠ "_" then match partV P f.type xs f.offset,partV P f.type ys f.offset with
   |some u,some v=>match g f.type u v,flatFields P g xs ys fs with
    |some b,some r=>some (b&&r)
    |_,_=>none
   |_,_=>none
  else flatFields P g xs ys fs
def flatElems (P:Program) (g:TypeId→Value→Value→Option Bool) (e:TypeId) (xs ys:Array Value):List Nat→Option Bool
 |[]=>some true
 |i::l=>match partV P e xs (i*P.cellsOf e),partV P e ys (i*P.cellsOf e)with
   |some u,some v=>match g e u v,flatElems P g e xs ys l with
    |some b,some r=>some (b&&r)
    |_,_=>none
   |_,_=>none
def flatEq (P:Program):Nat→TypeId→Value→Value→Option Bool
 |0,_,_,_=>none
 |d+1,t,x,y=>match P.underlying t,x,y with
  |some .bool,.bool a,.bool b=>some (a==b)
  |some (.int _),.int k a,.int k' b=>if k=k' then some (a==b)else none
  |some .string,.string a,.string b=>some (a.toList==b.toList)
  |some (.struct fs),.agg xs,.agg ys=>if P.stoodInHeld t then none else flatFields P (flatEq P d) xs ys fs.toList
  |some (.array n e),.agg xs,.agg ys=>if(P.info? e).isSome then flatElems P (flatEq P d) e xs ys (List.range' 0 n)else none
  |_,_,_=>none
def eqElems (d:Nat) (e n:Nat) (xs ys:Array Value):List Nat→Sem Bool
 |[]=>pure true
 |i::l=>do
  let a ←part e xs (i*n)
  let b ←part e ys (i*n)
  let r ←Op.equalIn d e a b
  if(!r)=true then pure false else eqElems d e n xs ys l
def Z36 (d:Nat) (t e n:Nat) (xs ys:Array Value) (ht:P.underlying t=some (.array n e)) {i:TypeInfo} (hi:P.info? e=some i) (w:World) :
  (Op.equalIn (d+1) t (.agg xs) (.agg ys)).run P w=(eqElems d e (P.cellsOf e) xs ys (List.range' 0 n)).run P w:=by
 simp only[Op.equalIn,Wbb,Wu ht,Wan,Wcj w hi,Std.Legacy.Range.forIn_eq_forIn_range',Std.Legacy.Range.size,Nat.add_sub_cancel,Nat.div_one];generalize List.range' 0 n=l
 induction l generalizing w with
 |nil=>simp[eqElems]
 |cons j l ih=>
  simp only[List.forIn_cons,eqElems,Wbb];generalize (part e xs (j*P.cellsOf e)).run P w=r1
  cases r1 with
  |halt x w1=>simp
  |ok u w1=>
   simp;generalize (part e ys (j*P.cellsOf e)).run P w1=r2
   cases r2 with
   |halt x w2=>simp
   |ok v w2=>
    simp;generalize (Op.equalIn d e u v).run P w2=r3
    cases r3 with
    |halt x w3=>simp
    |ok r w3=>
     simp_all
def Zvv:∀ d D t x y b,d≤D→flatEq P d t x y=some b→∀ w,(Op.equalIn D t x y).run P w=.ok b w
 |0,_,_,_,_,_,_,h,_=>by simp[flatEq]at h
 |d+1,0,_,_,_,_,hd,_,_=>om
 |d+1,D+1,t,x,y,b,hd,h,w=>by
  have ih:=λt x y b h w=>Zvv d D t x y b om h w
  simp  [flatEq]at h
  split at h
  rename_i hu;cases h;exact run_equalIn_bool' w D t _ _ hu;rename_i hu
  split at h
  rename_i hk;subst hk;cases h;exact run_equalIn_int w D t _ _ _ _ hu;cases h;rename_i hu;cases h;exact run_equalIn_string w D t _ _ hu;rename_i fs xs ys hu
  split at h
  cases h;rename_i hp
  have hf:P.fieldsOf t=fs:=by simp[Program.fieldsOf,hu]
  rw[run_equalIn_struct w D t xs ys gD gD,hf]
  generalize fs.toList=l at h⊢
  induction l generalizing b with
  |nil=>cases h;simp[Op.eqFields]
  |cons f l ihl=>
   simp only[flatFields]at h;simp only[Op.eqFields];split;rename_i hn;rw[if_pos hn]at h
   split at h
   rename_i u v hu hv
   split at h
   rename_i b1 r1 hb1 hr1;cases h;simp  [Wbb,Zu5 hu w,Wan,Zu5 hv w,ih _ _ _ _ hb1 w];cases b1;simp
   simpa using ihl _ hr1
   cases h;cases h
   grind
  rename_i n e xs ys hu
  split at h
  rename_i hi;obtain⟨i,hi⟩:=Was.1 hi;rw[Z36 D t e n xs ys hu hi]
  generalize List.range' 0 n=l at h⊢
  induction l generalizing b with
  |nil=>cases h;simp[eqElems]
  |cons j l ihl=>
   simp only[flatElems]at h
   split at h
   rename_i u v hu hv
   split at h
   rename_i b1 r1 hb1 hr1;cases h;simp only[eqElems,Wbb,Zu5 hu w,Wan,Zu5 hv w,ih _ _ _ _ hb1 w];cases b1;simp
   simpa using ihl _ hr1
   cases h;cases h
  cases h;cases h
def OpT.eqAgg {t t':TypeId} {x y:Operand} {xs ys:Array Value} {b:Bool} (ho:o.op=.binOp .eql t x y t') (hx:opd G st x=some (.sc (.agg xs))) (hy:opd G st y=some (.sc (.agg ys))) (hg:P.eqGuardType P.depth t=false)
  (h:flatEq P 50 t (.agg xs) (.agg ys)=some b):OpT P G n0 o st H (.sc (.bool b)) H:=
 Waa λc a w β hn hr=>by
  have h1:=hr.opd hx;have h2:=hr.opd hy
  simp  [VR]at h1 h2
  refine⟨.bool b,?_,by simp  [VR]⟩
  simp  [execOp,ho,bind_pure_comp,Sem.run_map,Wbb,h1,h2,run_eqGuard_agg w .eql t x y xs ys hg,Wan,run_eql_struct,Zvv 50 10000 t _ _ b om h w]
def OpT.neqAgg {t t':TypeId} {x y:Operand} {xs ys:Array Value} {b:Bool} (ho:o.op=.binOp .neq t x y t') (hx:opd G st x=some (.sc (.agg xs))) (hy:opd G st y=some (.sc (.agg ys))) (hg:P.eqGuardType P.depth t=false)
  (h:flatEq P 50 t (.agg xs) (.agg ys)=some b):OpT P G n0 o st H (.sc (.bool (!b))) H:=
 Waa λc a w β hn hr=>by
  have h1:=hr.opd hx;have h2:=hr.opd hy
  simp  [VR]at h1 h2
  refine⟨.bool (!b),?_,by simp  [VR]⟩
  simp  [execOp,ho,bind_pure_comp,Sem.run_map,Wbb,h1,h2,run_eqGuard_agg w .neq t x y xs ys hg,Wan,run_neq_struct,Zvv 50 10000 t _ _ b om h w]
def Le (G:Glob) (n0 nt:Nat) (st:St) (H:List Blk) (st':St) (H':List Blk):Prop:=
 ∀ c a w β,c.fit n0→c.nt=nt→RelB G c β st H a w→∃ β',RelB G c β' st' H' a w
variable {st' st'':St} {H' H'':List Blk}
def Le.refl:Le G n0 nt st H st H:=λ_ _ _ β _ _ h=>⟨β,h⟩
def Le.trans (h:Le G n0 nt st H st' H') (k:Le G n0 nt st' H' st'' H''):Le G n0 nt st H st'' H'':=λc a w β h0 h1 hr=>
 let ⟨β',hr'⟩:=h c a w β h0 h1 hr
 k c a w β' h0 h1 hr'
def AWP.le {x:Code} {Q:Exit→St→List Blk→Prop} (h:Le G n0 nt st H st' H') (k:AWP P G n0 nt x Q st' H'):AWP P G n0 nt x Q st H:=λc a w β h0 h1 hr=>
 let ⟨β',hr'⟩:=h c a w β h0 h1 hr
 k c a w β' h0 h1 hr'
def AOps.le {ops:Array Oper} {l:List Nat} {Q:Exit→St→List Blk→Prop} (h:Le G n0 nt st H st' H') (k:AOps P G n0 nt ops l Q st' H'):AOps P G n0 nt ops l Q st H:=λc a w β h0 h1 hr=>
 let ⟨β',hr'⟩:=h c a w β h0 h1 hr
 k c a w β' h0 h1 hr'
def Le.pick {ks:List Nat} (h:st.pick ks=st'):Le G n0 nt st H st' H:=λ_ _ _ β _ _ hr=>⟨β,hr.sub (by subst h;exact Wcy ks st)⟩
def Le.drop {m:Nat} (hm:n0≤m) (hfar:(H.take m).all (Blk.farOk m)=true) (hs:st.all (λx=>x.2.ids (λj=>decide (j<m)))=true):Le G n0 nt st H st (H.take m):=λc _ _ β h0 _ hr=>
 ⟨β.take m,hr.drop (by have:=h0.len;omega) hfar (λx hx=>Wfr (q:=λj=>decide (j<n0)) gD _ (h0.gh x hx)) λx hx=>⟨hx,gD⟩⟩
def Le.keep {ks:List Nat} {m:Nat} (hm:n0≤m) (hfar:(H.take m).all (Blk.farOk m)=true) (h:st.pick ks=st') (hs:st'.all (λx=>x.2.ids (λj=>decide (j<m)))=true):Le G n0 nt st H st' (H.take m):=(Le.pick h).trans (Le.drop hm hfar hs)
def RelB.slot (h:RelB G c β st H a w) {k:Nat} {p:PV} (hk:k<c.nt) (hv:VR (stab c β H w) β w p (a.tmps.getD k undef)):RelB G c β (st.put k p) H a w:=by
 refine⟨h.ok,h.len,h.pre,h.blk,h.inj,h.loc,h.cel,λx hx=>?_,h.nt,h.dfr,h.frm,h.gh⟩
 simp  [St.put,St.del,W1,Wab]at hx
 rcases hx with rfl|⟨hx,_⟩
 exact⟨hk,hv⟩;exact h.slots x hx
def Le.own {k s t:Nat} (hk:st.get k=some (.sc (.slice none 0 0))):Le G n0 nt st H (st.put k (.own H.length 0)) (H++[.buf s t [] false]):=λc a w β _ _ hr=>by
 obtain⟨h1,h2⟩:=hr.own s t;obtain⟨h3,h4⟩:=hr.slots (k,_) (Zgi st k _ hk)
 refine⟨_,h1.slot h3 ?_⟩
 rw[h4];exact⟨⟨_,_,rfl⟩,⟨0,.slice none 0 0,0,s,[]⟩,by rw[←hr.len];simp,Ws _,λ_=>rfl⟩
def Le.share {i s t:Nat} {xs:List (List PV)} {sh:Bool} (hb:H[i]? = some (.buf s t xs sh)):Le G n0 nt st H st (H.set i (.buf s t xs true)):=λ_ _ _ β _ _ hr=>⟨β,hr.share hb⟩
def Le.wk {k:Nat} {p q:PV} (hk:st.get k=some p) (hw:Wk H false p q):Le G n0 nt st H (st.put k q) H:=λc a w β _ _ hr=>by
 obtain⟨h3,h4⟩:=hr.slots (k,_) (Zgi st k _ hk);exact⟨β,hr.slot h3 (hr.wk h4 hw)⟩
def Le.eq (h1:st=st') (h2:H=H'):Le G n0 nt st H st' H':=by subst h1 h2;exact Le.refl
end
end
end Go.AM

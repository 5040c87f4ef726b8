/- Parts of a proof, printed short. No condition. -/
import Derived.Test.YtibpgdnenoehfaaGreatDoorRows
import Derived.Test.YtibpgdnenoehfaaGreatDoorDQ4
set_option maxRecDepth 100000
set_option linter.all false
namespace Go.AM
noncomputable section
open Go
open Go.IntKind(wrap)
section
open Go.RowKit Go.WideShapes Go.ChangeShapes
variable {P:Program} {W:World}
open Go.Proofs.YtibpgdnenoehfaaGreatDoor in
def Sm {H:Type} (d:DataW H):Prop:=Rows.uptoBulk d≤1048576
open Go.Proofs.YtibpgdnenoehfaaGreatDoor in
def Z3i {H:Type} {d:DataW H}:∀ {l:List (DataW H)},d∈l→Rows.uptoBulk d≤Rows.uptoBulkAll l
 |x::r,h=>by
  simp only[Rows.uptoBulkAll]
  rcases Wy.1 h with e|e
  ·subst e;omega
  ·have:=Z3i e;omega
open Go.Proofs.YtibpgdnenoehfaaGreatDoor in
def Zace {H:Type}:∀(l:List (DataW H)),l.length≤Rows.uptoBulkAll l
 |[]=>sM
 |x::r=>by
  have h:1≤Rows.uptoBulk x:=by
   cases x with
   |lit l=>cases l<;>simp[Rows.uptoBulk]
   |_=>simp[Rows.uptoBulk]
  have:=Zace r;simp only[Rows.uptoBulkAll,Waj];omega
def Sm.slice {H:Type} {es rs:List (DataW H)} (h:Sm (.slice es rs)):es.length≤1048576∧∀ e∈es,Sm e:=by
 unfold Sm at h⊢
 simp only[Go.Proofs.YtibpgdnenoehfaaGreatDoor.Rows.uptoBulk]at h;have:=Zace es;exact⟨om,λe he=>by have:=Z3i he;omega⟩
def Sm.agg {H:Type} {es:List (DataW H)} (h:Sm (.agg es)):∀ e∈es,Sm e:=by
 unfold Sm at h⊢
 simp only[Go.Proofs.YtibpgdnenoehfaaGreatDoor.Rows.uptoBulk]at h
 exact λe he=>by have:=Z3i he;omega
def ReadU (P:Program) (W:World) (t:TypeId) {α:Type} (row:α→List PV) (ok:α→Prop):Prop:=
 ∀(H:Type) (enc:TypeId×Value→H) (fuel:Nat) (cs:List Value) (x:DataW H×List MemPlace),Sm x.1→DataW.trod enc P W 0 (λ_=>true) true fuel t cs=some x→∃ a,ok a∧VRs (old W) [] W (row a) cs
def Reads.u {t:TypeId} {α:Type} {row:α→List PV} {ok:α→Prop} (h:Reads P W t row ok):ReadU P W t row ok:=λH enc fuel cs x _ hx=>h H enc fuel cs x hx
def Whz:=@Option.bind_eq_some_iff
def Wu:=@List.getElem_mem
def Wfe:=@List.getElem?_of_mem
def ReadU.slice {t e:TypeId} {s:Nat} {α:Type} {row:α→List PV} {ok:α→Prop} (ht:P.underlying t=some (.slice e)) (hs:P.cellsOf e=s) (hs0:0<s) (h:ReadU P W e row ok) :
  ReadU P W t (λl:List α=>[.sl s (l.map row)]) (λl=>l.length≤1048576∧∀ x∈l,ok x):=by
 intro H enc fuel cs x hS hx
 rcases DataW.trod_slice ht hx with⟨rfl,_⟩|⟨a,len,cap,elems,rest,n,_,rfl,hxe,hb,hl,hm,hlen,hel,_,_⟩
 ·refine⟨[],⟨sM,sM⟩,?_⟩
  simp only[VRs,VR];exact⟨⟨none,0,rfl,Ws _,.inl rfl⟩,trivial⟩
 ·rw[hxe]at hS
  obtain⟨hS1,hS2⟩:=hS.slice;rw[Wt]at hS1
  have first:0<len→a.block<W.heap.size∧a.spot=none:=by
   intro hi;have hE:=hel 0 hi
   have:0<elems.length:=om
   rw[Wo this,Whz]at hE;obtain⟨c1,hc1,_⟩:=hE;obtain⟨_,g2,g3⟩:=World.cells?_some hc1;rw[hs]at g2 g3;have hcell:=g3 0 hs0;rw[Wo (show 0<c1.length by omega)]at hcell
   have e0:(a.add (0*s)).add 0=a:=by simp[Addr.add]
   rw[e0]at hcell
   unfold World.cell? at hcell
   cases hh:W.heap[a.block]? with
   |none=>simp[hh]at hcell
   |some o=>
    refine⟨(Wc5.1 hh).1,?_⟩
    cases hsp:a.spot with
    |none=>rfl
    |some q=>cases o<;>simp[hh,hsp]at hcell
  have each:∀ i,i<len→∃ z,ok z∧a.block<W.heap.size∧a.spot=none∧(row z).length=s∧VRow (old W) [] W a.block (a.off+i*s) (row z):=by
   intro i hi;have hE:=hel i hi
   have:i<elems.length:=om
   rw[Wo this,Whz]at hE;obtain⟨c1,hc1,hy1⟩:=hE;obtain⟨z,hz,hv⟩:=h H enc n c1 _ (hS2 _ (Wbv (Wu this))) hy1;obtain⟨_,g2,g3⟩:=World.cells?_some hc1;rw[hs]at g2 g3
   obtain⟨h8,h9⟩:=first om
   obtain⟨ab,ao,asp⟩:=a
   simp only at h8 h9
   subst h9
   have hat:∀ m,(⟨ab,ao,none⟩:Addr).add m=⟨ab,ao+m,none⟩:=λm=>by
    unfold Addr.add;split
    ·rename_i e;subst e;rfl
    ·rfl
   have hat2:∀ m j,(⟨ab,ao+m,none⟩:Addr).add j=⟨ab,ao+m+j,none⟩:=λm j=>by
    unfold Addr.add;split
    ·rename_i e;subst e;rfl
    ·rfl
   refine⟨z,hz,h8,rfl,by have:=Waw _ _ hv;omega,Whr _ c1 _ hv λj hj=>?_⟩
   have:=g3 j om;rw[hat,hat2]at this;exact this
  obtain⟨l,hll,hlp⟩:=Z5l len each
  refine⟨l,⟨om,λz hz=>?_⟩,?_⟩
  ·obtain⟨i,hi⟩:=Wfe hz
   exact(hlp i z hi).1
  ·simp only[VRs,VR]
   refine⟨⟨some a,cap,by simp[hll],by simp[hll];exact hl,?_⟩,trivial⟩
   cases l with
   |nil=>exact .inl rfl
   |cons z0 l'=>
    right;obtain⟨_,hb0,hsp,_,_⟩:=hlp 0 z0 sM
    refine⟨a.block,a.off,by rw[←hsp],hb0,VRows.of_get _ _ λi y hy=>?_⟩
    rw[Wbf,Wg]at hy;obtain⟨z,hz,rfl⟩:=hy;obtain⟨_,_,_,h5,h6⟩:=hlp i z hz;exact⟨h5,h6⟩
def EachU {H:Type} (enc:TypeId×Value→H) (P:Program) (W:World) (n:Nat):List (TypeId×Nat)→List Value→Prop
 |[],_=>True
 |(t,s)::fs,cs=>(∃ x:DataW H×List MemPlace,Sm x.1∧DataW.trod enc P W 0 (λ_=>true) true n t (cs.take s)=some x)∧EachU enc P W n fs (cs.drop s)
def FRU (P:Program) (W:World) (fs:List (TypeId×Nat)) {γ:Type} (row:γ→List PV) (ok:γ→Prop):Prop:=
 ∀(H:Type) (enc:TypeId×Value→H) (n:Nat) (cs:List Value),cs.length=total fs→EachU enc P W n fs cs→∃ a,ok a∧VRs (old W) [] W (row a) cs
def FRU.nil:FRU P W [] (λ_:Unit=>[]) (λ_=>True):=λH enc n cs hl _=>by
 have:cs=[]:=Wcl.1 hl;subst this;exact⟨(),trivial,by simp only[VRs]⟩
def FRU.cons {t:TypeId} {s:Nat} {fs:List (TypeId×Nat)} {α γ:Type} {ra:α→List PV} {rg:γ→List PV} {oa:α→Prop} {og:γ→Prop} (h:ReadU P W t ra oa) (k:FRU P W fs rg og) :
  FRU P W ((t,s)::fs) (λz:α×γ=>ra z.1++rg z.2) (λz=>oa z.1∧og z.2):=by
 intro H enc n cs hl he;simp only[EachU]at he;simp only[total]at hl;obtain⟨⟨x,hS,hx⟩,he⟩:=he;obtain⟨a,h1,h2⟩:=h H enc n _ x hS hx;obtain⟨b,h3,h4⟩:=k H enc n (cs.drop s) (by rw[Wax];omega) he
 refine⟨(a,b),⟨h1,h3⟩,?_⟩
 have:=VRs.append _ _ _ _ h2 h4
 rwa [Wat]at this
def Zacf {H:Type} {enc:TypeId×Value→H} {n:Nat} {cs:List Value}:∀(fs:List Field) (o:Nat),offsOk P o fs=true →
  (∀ f∈fs,∃ x:DataW H×List MemPlace,Sm x.1∧DataW.trod enc P W 0 (λ_=>true) true n f.type ((cs.drop f.offset).take (P.cellsOf f.type))=some x)→EachU enc P W n (fs.map λf=>(f.type,P.cellsOf f.type)) (cs.drop o)
 |[],_,_,_=>by simp only[Wbt,EachU]
 |f::fs,o,ho,h=>by
  simp only[offsOk,Wh]at ho;have e:=Wd ho.1;simp only[W7,EachU]
  refine⟨by have:=h f sM;rwa [e]at this,?_⟩
  rw[Wcs]
  exact Zacf fs _ ho.2 λg hg=>h g (by simp[hg])
def Wg7:=@List.drop_zero
def ReadU.struct {t:TypeId} {fs:Array Field} {fl:List (TypeId×Nat)} {α γ:Type} {row:α→List PV} {ok:α→Prop} {rg:γ→List PV} {og:γ→Prop} (f:γ→α) (ht:P.underlying t=some (.struct fs))
  (hfl:(fs.toList.map λf=>(f.type,P.cellsOf f.type))=fl) (ho:offsOk P 0 fs.toList=true) (hs:P.cellsOf t=total fl) (k:FRU P W fl rg og) (hr:∀ z,row (f z)=rg z) (hk:∀ z,og z→ok (f z)):ReadU P W t row ok:=by
 intro H enc fuel cs x hS h;obtain⟨xs,n,_,hxe,hlen,hxs,hf⟩:=DataW.trod_struct ht h;rw[hxe]at hS
 have he:=Zacf (P:=P) (W:=W) (enc:=enc) (n:=n) (cs:=cs) fs.toList 0 ho λg hg=>by
  obtain⟨i,hi,rfl⟩:=Wfd.1 hg;simp only[Wa5]at hi;have:=hf i fs[i] (by simp[hi])
  have hi2:i<xs.length:=om
  rw[Wo hi2]at this;exact⟨_,hS.agg _ (Wbv (Wu hi2)),by simpa using this⟩
 rw[hfl,Wg7]at he;obtain⟨a,h1,h2⟩:=k H enc n cs (by rw[hlen,hs]) he;exact⟨f a,hk a h1,by rw[hr];exact h2⟩
def ReadU.at {t:TypeId} {α:Type} {row:α→List PV} {ok:α→Prop} {H:Type} {enc:TypeId×Value→H} {v:Value} {d:DataW H} {ps:List MemPlace} (h:ReadU P W t row ok) (hS:Sm d) (hd:DataW.Trod enc P W 0 (λ_=>true) true t v d ps):∃ a,ok a∧VRs (old W) [] W (row a) v.cells.toList:=by
 obtain⟨fuel,hf⟩:=hd;exact h _ _ _ _ _ hS hf
section
variable {H:Type} {enc:TypeId×Value→H} {w:World} {r:Reach} {base:Nat} {t:TypeId} {α:Type} {row:α→List PV} {ok:α→Prop} {p:α→PV} {v:Value} {d:DataW H} {ps:List MemPlace}
def Zaf6 {e:TypeId} (ht:P.underlying t=some (.slice e)) (hv:Value.okWide P w r base t v) (h:ReadU P W t row ok) (hS:Sm d) (hd:DataW.Trod enc P W 0 (λ_=>true) true t v d ps) (hp:∀ a,row a=[p a]):∃ a,ok a∧VR (old W) [] W (p a) v:=by
 obtain⟨a,len,cap,rfl⟩:=okWide_slice ht hv
 obtain⟨a,h1,h2⟩:=h.at hS hd
 rw[hp]at h2;exact⟨a,h1,h2.1⟩
def Zad2 {fs:Array Field} (ht:P.underlying t=some (.struct fs)) (hv:Value.okWide P w r base t v) (h:ReadU P W t row ok) (hS:Sm d) (hd:DataW.Trod enc P W 0 (λ_=>true) true t v d ps) (hp:∀ a,p a=.agg (row a)):∃ a,ok a∧VR (old W) [] W (p a) v:=by
 obtain⟨us,rfl⟩:=Zaa9 ht hv
 obtain⟨a,h1,h2⟩:=h.at hS hd
 refine⟨a,h1,?_⟩
 rw[hp];simp only[VR];exact⟨us,rfl,h2⟩
end
end
inductive Fr where
 |c (x:Code)
 |b (id:Nat)
 |x (e:Exit)
structure Cf where
 fs:List Fr
 st:St
 H:List Blk
section
variable {P:Program} {G:Glob} {n0 nt:Nat} {st st':St} {H H':List Blk} {fs gs:List Fr} {q:Exit→St→List Blk→Prop}
def runF (P:Program) (G:Glob) (n0 nt:Nat) (q:Exit→St→List Blk→Prop):List Fr→Exit→St→List Blk→Prop
 |[],e,st,H=>q e st H
 |f::fs,e,st,H=>match f with
  |.c x=>match e with
   |.normal=>AWP P G n0 nt x (runF P G n0 nt q fs) st H
   |e=>runF P G n0 nt q fs e st H
  |.b i=>match e with
   |.exit j=>match Nat.beq j i with
    |true=>runF P G n0 nt q fs .normal st H
    |false=>runF P G n0 nt q fs (.exit j) st H
   |e=>runF P G n0 nt q fs e st H
  |.x e'=>match e with
   |.normal=>runF P G n0 nt q fs e' st H
   |e=>runF P G n0 nt q fs e st H
def popE (i:Nat):List Fr→Option (List Fr)
 |[]=>none
 |f::fs=>match f with
  |.b j=>match Nat.beq i j with
   |true=>some fs
   |false=>popE i fs
  |.c _=>popE i fs
  |.x _=>popE i fs
def Zq3 {i:Nat}:∀ {fs:List Fr},popE i fs=some gs→runF P G n0 nt q gs .normal st H→runF P G n0 nt q fs (.exit i) st H
 |[],h,_=>by simp[popE]at h
 |f::fs,h,k=>by
  cases f with
  |c x=>exact Zq3 (fs:=fs) h k
  |x e=>exact Zq3 (fs:=fs) h k
  |b j=>
   simp  [popE]at h
   simp  [runF]
   cases hb:Nat.beq i j with
   |true=>grind
   |false=>simp  [hb]at h⊢;exact Zq3 (fs:=fs) h k
def Zva {i:Nat}:∀ {fs:List Fr},popE i fs=none→q (.exit i) st H→runF P G n0 nt q fs (.exit i) st H
 |[],_,k=>k
 |f::fs,h,k=>by
  cases f with
  |c x=>exact Zva (fs:=fs) h k
  |x e=>exact Zva (fs:=fs) h k
  |b j=>
   simp  [popE]at h
   simp  [runF]
   cases hb:Nat.beq i j with
   |true=>grind
   |false=>simp  [hb]at h⊢;exact Zva (fs:=fs) h k
def Z0q:∀ {fs:List Fr},q .ret st H→runF P G n0 nt q fs .ret st H
 |[],k=>k
 |f::fs,k=>by cases f<;>exact Z0q (fs:=fs) k
inductive Nf where
 |reg (id:Nat) (ops:Array Oper) (d:Bool) (fs:List Fr)
 |cond (x:Operand) (a b:Code) (fs:List Fr)
 |loop (id:Nat) (x:Code) (fs:List Fr)
 |fin (e:Exit)
 |bad
def nf:Nat→List Fr→Nf
 |0,_=>.bad
 |n+1,fs=>match fs with
  |[]=>.fin .normal
  |f::fs=>match f with
   |.b _=>nf n fs
   |.x e=>match e with
    |.normal=>nf n fs
    |.exit i=>match popE i fs with
     |some gs=>nf n gs
     |none=>.fin (.exit i)
    |.ret=>.fin .ret
    |_=>.bad
   |.c x=>match x with
    |.skip=>nf n fs
    |.region id ops d=>.reg id ops d fs
    |.seq a b=>nf n (.c a::.c b::fs)
    |.cond x a b=>.cond x a b fs
    |.block id y=>match y with
     |.loop z=>.loop id z fs
     |y=>nf n (.c y::.b id::fs)
    |.exit i=>match popE i fs with
     |some gs=>nf n gs
     |none=>.fin (.exit i)
    |.ret=>.fin .ret
    |_=>.bad
def Nf.ok (P:Program) (G:Glob) (n0 nt:Nat) (q:Exit→St→List Blk→Prop):Nf→St→List Blk→Prop
 |.reg id ops d fs,st,H=>AWP P G n0 nt (.region id ops d) (runF P G n0 nt q fs) st H
 |.cond x a b fs,st,H=>AWP P G n0 nt (.cond x a b) (runF P G n0 nt q fs) st H
 |.loop id x fs,st,H=>AWP P G n0 nt (.block id (.loop x)) (runF P G n0 nt q fs) st H
 |.fin e,st,H=>q e st H
 |.bad,_,_=>False
def Zacg {a b:Code} (h:runF P G n0 nt q (.c a::.c b::fs) .normal st H):runF P G n0 nt q (.c (.seq a b)::fs) .normal st H:=
 AWP.seq (Wc3 h λe st H h=>by cases e<;>exact h)
def Z7l {id:Nat} {y:Code} (h:runF P G n0 nt q (.c y::.b id::fs) .normal st H):runF P G n0 nt q (.c (.block id y)::fs) .normal st H:=
 Wfx (Wc3 h λe st H h=>by cases e<;>exact h)
def nf_ok:∀ n fs,Nf.ok P G n0 nt q (nf n fs) st H→runF P G n0 nt q fs .normal st H
 |0,_,h=>by simp  [nf,Nf.ok]at h
 |n+1,[],h=>h
 |n+1,f::fs,h=>by
  cases f with
  |b i=>exact nf_ok n fs h
  |x e=>
   cases e with
   |normal=>exact nf_ok n fs h
   |exit i=>
    simp  [nf]at h
    cases hp:popE i fs;rw[hp]at h;exact Zva hp h;rename_i gs;rw[hp]at h;exact Zq3 hp (nf_ok n gs h)
   |ret=>exact Z0q (fs:=fs) h
   |goto l=>exact h.elim
   |panic c=>exact h.elim
   |outgrown=>exact h.elim
  |c x=>
   cases x with
   |skip=>exact AWP.skip (nf_ok n fs h)
   |region id ops d=>exact h
   |seq a b=>exact Zacg (nf_ok n _ h)
   |cond x a b=>exact h
   |block id y=>
    cases y with
    |loop z=>exact h
    |_=>exact Z7l (nf_ok n _ h)
   |exit i=>
    refine AWP.exit ?_
    simp  [nf]at h
    cases hp:popE i fs;rw[hp]at h;exact Zva hp h;rename_i gs;rw[hp]at h;exact Zq3 hp (nf_ok n gs h)
   |ret=>exact AWP.ret (Z0q (fs:=fs) h)
   |_=>exact h.elim
def unr:Nat→Nat→List Fr→List Fr
 |0,_,fs=>fs
 |n+1,d,fs=>match fs with
  |[]=>[]
  |f::fs=>match f with
   |.b _=>unr n d fs
   |.x e=>match e with
    |.normal=>unr n d fs
    |.exit i=>match popE i fs with
     |some gs=>unr n d gs
     |none=>f::fs
    |_=>f::fs
   |.c x=>match d with
    |0=>f::fs
    |d+1=>match x with
     |.seq a b=>unr n d (.c a::.c b::fs)
     |.block id y=>unr n d (.c y::.b id::fs)
     |.skip=>unr n d fs
     |.exit i=>match popE i fs with
      |some gs=>unr n d gs
      |none=>f::fs
     |_=>f::fs
def unr_ok:∀ n d fs,runF P G n0 nt q (unr n d fs) .normal st H→runF P G n0 nt q fs .normal st H
 |0,_,_,h=>h
 |n+1,_,[],h=>h
 |n+1,d,f::fs,h=>by
  cases f with
  |b i=>exact unr_ok n d fs h
  |x e=>
   cases e with
   |normal=>exact unr_ok n d fs h
   |exit i=>
    simp  [unr]at h
    cases hp:popE i fs
    grind
    rename_i gs;rw[hp]at h;exact Zq3 (fs:=fs) hp (unr_ok n d gs h)
   |_=>exact h
  |c x=>
   cases d;exact h;rename_i d
   cases x with
   |seq a b=>exact Zacg (unr_ok n d _ h)
   |block id y=>exact Z7l (unr_ok n d _ h)
   |skip=>exact AWP.skip (unr_ok n d fs h)
   |exit i=>
    simp  [unr]at h
    cases hp:popE i fs
    grind
    rename_i gs;rw[hp]at h;exact AWP.exit (Zq3 hp (unr_ok n d gs h))
   |_=>exact h
def LeC (G:Glob) (n0 nt:Nat) (q:Exit→St→List Blk→Prop):Prop:=∀ e st H st' H',Le G n0 nt st H st' H'→q e st' H'→q e st H
def LeC.leq (q:Exit→St→List Blk→Prop):LeC G n0 nt (LeQ G n0 nt q):=λ_ _ _ _ _ h k=>LeQ.le h k
def LeC.round {id n:Nat} {I:Nat→St→List Blk→Prop} (hq:LeC G n0 nt q):LeC G n0 nt (roundQ G n0 nt id I n q):=λe st H st' H' h k=>by
 cases e with
 |normal=>exact LeQ.le h k
 |exit j=>
  simp  [roundQ]at k⊢
  cases hb:Nat.beq j id
  simp  [hb]at k⊢;exact hq _ _ _ _ _ h k
  simp  [hb]at k⊢;exact hq _ _ _ _ _ h k
 |_=>exact hq _ _ _ _ _ h k
def LeC.run (hq:LeC G n0 nt q):∀ fs ,LeC G n0 nt (runF P G n0 nt q fs)
 |[]=>hq
 |f::fs=>λe st H st' H' h k=>by
  have ih:=LeC.run hq fs;cases f
  cases e with
  |normal=>exact AWP.le h k
  |_=>exact ih _ _ _ _ _ h k
  rename_i i
  cases e with
  |exit j=>
   simp  [runF]at k⊢
   cases hb:Nat.beq j i
   simp  [hb]at k⊢;exact ih _ _ _ _ _ h k
   simp  [hb]at k⊢;exact ih _ _ _ _ _ h k
  |_=>exact ih _ _ _ _ _ h k
  cases e with
  |normal=>exact ih _ _ _ _ _ h k
  |_=>exact ih _ _ _ _ _ h k
def hasC:List Fr→Bool
 |[]=>false
 |f::fs=>match f with
  |.c _=>true
  |.b _=>hasC fs
  |.x e=>match e with
   |.normal=>hasC fs
   |_=>false
def Z86:∀ {fs:List Fr},hasC fs=true→Le G n0 nt st H st' H'→runF P G n0 nt q fs .normal st' H'→runF P G n0 nt q fs .normal st H
 |[],h,_,_=>by simp[hasC]at h
 |f::fs,h,hl,k=>by
  cases f with
  |c x=>exact AWP.le hl k
  |b i=>exact Z86 (fs:=fs) h hl k
  |x e=>cases e with
   |normal=>exact Z86 (fs:=fs) h hl k
   |_=>simp[hasC]at h
end
def Hnd.rd {P:Program} {G:Glob} (k:Hnd P G):Hnd P G where
 run o st H:=k.run o (st.pick (readsOf o)) H
 sound:=by
  intro n0 o st H x h he
  exact(k.sound h he).at (Wcw _ _)
def Hnd.lenO {P:Program} {G:Glob}:Hnd P G where
 run o st H:=match o.op with
  |.call cl=>match cl with
   |{callee:=.builtin .len,args:=⟨[x]⟩,argTypes:=⟨[T0]⟩}=>match P.underlying T0,opd G st x with
    |some (.slice _),some (.own _ n)=>some ⟨.sc (.int .i64 n),H,[],[]⟩
    |_,_=>none
   |_=>none
  |_=>none
 sound:=by
  intro n0 o st H x h he
  split at h
  rename_i cl ho
  split at h
  split at h
  rename_i e i n hu hx;cases h
  refine(W4 λc a w β hn hr=>?_).weak
  have hv:=hr.opd hx;obtain⟨⟨ad,cap,hv⟩,_⟩:=hv
  refine⟨.int .i64 n,?_,by simp  [VR]⟩
  simp[execOp,ho,resolve,invoke,builtin,hv,Builtin.len_,Ww hu,goInt];cases h;cases h;cases h
def Zach {p:PV} (h:PV.isNil p=true):p=.sc (.slice none 0 0):=by
 unfold PV.isNil at h
 grind
def Hnd.appN {P:Program} {G:Glob} {α:Type} (row:α→List PV) (hrow:∀ z,((row z).all PV.one)=true) {m:List α} (hn:m.length≤lim):Hnd P G where
 run o st H:=match o.op with
  |.call cl=>match cl with
   |{callee:=.builtin .append,args:=⟨[x,y]⟩,argTypes:=⟨[T0,U]⟩}=>match P.underlying T0,P.underlying U,opd G st x with
    |some (.slice t),some (.slice _),some px=>match P.info? t with
     |some ti=>match ti.zero with
      |some z=>match PV.isNil px&&Nat.beq z.cells.size ti.size&&Nat.ble ti.bytes 65536 with
       |true=>match opd G st y with
        |some (.sl s2 ys)=>match Nat.beq ti.size s2 with
         |true=>some ⟨.own H.length m.length,H++[.buf ti.size t (m.map row) false],[.rs ys],[.rs (m.map row)]⟩
         |false=>none
        |some (.own j n2)=>match H[j]? with
         |some (.buf s2 _ ys _)=>match Nat.beq ti.size s2 with
          |true=>some ⟨.own H.length m.length,H++[.buf ti.size t (m.map row) false],[.n n2,.rs ys],[.n m.length,.rs (m.map row)]⟩
          |false=>none
         |_=>none
        |_=>none
       |false=>none
      |none=>none
     |none=>none
    |_,_,_=>none
   |_=>none
  |_=>none
 sound:=by
  intro n0 o st H x h he
  suffices hT:OpT P G n0 o st H x.p x.H from hT.weak
  split at h
  rename_i cl ho
  split at h
  rename_i x y T0 U
  split at h
  rename_i t e px hu1 hu2 hx
  split at h
  rename_i ti hti
  split at h
  rename_i z hz
  split at h
  rename_i hc;simp only[Wh]at hc;obtain⟨⟨c1,c2⟩,c3⟩:=hc;have c1:=Zach c1;subst c1;have hby:=W1 c3
  have hlim:=by
   have:m.length*ti.bytes≤2147483648*65536:=Wdp hn hby
   omega
  have hn2:m.length≤140737488355328:=by unfold lim at hn;omega
  have hall:((m.map row).flatten.all PV.one)=true:=by
   grind
  have main:∀ q,opd G st y=some q→Src (H++[Blk.buf ti.size t [] false]) ti.size q (m.map row)→OpT P G n0 o st H (.own H.length m.length) (H++[.buf ti.size t (m.map row) false]):=by
   intro q hy hq c a w β h0 hr;obtain⟨h1,hx1⟩:=hr.own ti.size t
   have hb:(H++[Blk.buf ti.size t [] false])[H.length]? = some (.buf ti.size t [] false):=sM
   have hnil:=hr.opd hx
   have hvx:VR (stab c (β++[⟨0,.slice none 0 0,0,ti.size,[]⟩]) (H++[.buf ti.size t [] false]) w) (β++[⟨0,.slice none 0 0,0,ti.size,[]⟩]) w (.own H.length ([]:List (List PV)).length) (a.eval x):=by
    rw[hnil];exact⟨⟨_,_,rfl⟩,⟨0,.slice none 0 0,0,ti.size,[]⟩,by rw[←hr.len];simp,Ws _,λ_=>rfl⟩
   have key:=Z3f h1 ho rfl hu1 hu2 hti hz rfl (Wd c2) hvx hb hy hq hall gD gD
   refine Zjp key λv w' ⟨β',g1,g2,g3,g4⟩=>?_
   have hset:(H++[Blk.buf ti.size t [] false]).set H.length (.buf ti.size t ([]++m.map row) false)=H++[.buf ti.size t (m.map row) false]:=by
    simp
   rw[hset]at g1 g2 g4
   refine⟨β',g1,gD,λi e _ he=>?_,hx1.trans g4⟩
   exact g3 i e rfl gD
  split at h
  rename_i s2 ys hy
  split at h
  rename_i hs;have hs:=Wd hs;subst hs;cases h;cases he;exact main _ hy (.sl _);cases h;rename_i j n2 hy
  split at h
  rename_i s2 t2 ys sh2 hb2
  split at h
  rename_i hs;have hs:=Wd hs;subst hs;cases h;cases he;exact main _ hy (Src.ownT (by rw[W8 (We.1 hb2).1];omega));cases h;cases h;cases h;cases h;cases h;cases h;cases h;cases h;cases h
structure SW (P:Program) (G:Glob) (n0 nt:Nat) {A:Type} (E:List (Nat×Hnd P G)) (F:Option A) (Q:A→Exit→St→List Blk→Prop) (Z:Cf):Prop where
 run:∀ r,F=some r→runF P G n0 nt (Q r) Z.fs .normal Z.st Z.H
inductive En where
 |at (e:Exit) (st:St) (H:List Blk)
 |q (Q:Exit→St→List Blk→Prop)
def En.sat:En→Exit→St→List Blk→Prop
 |.at e st H,e',st',H'=>e'=e∧st'=st∧H'=H
 |.q Q,e',st',H'=>e'=.ret∧Q e' st' H'
def mdQ {A:Type} (G:Glob) (n0 nt:Nat) (Qm:A→En) (a:A):Exit→St→List Blk→Prop:=LeQ G n0 nt (Qm a).sat
def lpQ {A σ:Type} (G:Glob) (n0 nt:Nat) (id:Nat) (L:Nat→σ→Option A) (hd:σ→St×List Blk) (n:Nat) (Qm:A→En) (a:A):Exit→St→List Blk→Prop:=
 roundQ G n0 nt id (λn st H=>∃ s,L n s=some a∧st=(hd s).1∧H=(hd s).2) (n+1) (LeQ G n0 nt (Qm a).sat)
def fnQ {A:Type} (P:Program) (rs:Array ResultVar) (n0:Nat) (p1:A→PV) (K1:A→List Blk) (a:A):Exit→St→List Blk→Prop:=FnQ P rs n0 λp K=>p=p1 a∧K=K1 a
structure Aft (P:Program) (G:Glob) (n0 nt:Nat) {A:Type} (F:Option A) (Q:A→Exit→St→List Blk→Prop) (fs:List Fr) (E:En):Prop where
 run:∀ e st H,E.sat e st H→∀ r,F=some r→runF P G n0 nt (Q r) fs e st H
structure Zt (G:Glob) (n0 nt:Nat) where
 run:St→List Blk→Option (St×List Blk×List T×List T)
 sound:∀ {st:St} {H:List Blk} {x:St×List Blk×List T×List T},run st H=some x→x.2.2.1=x.2.2.2→Le G n0 nt st H x.1 x.2.1
section
variable {P:Program} {G:Glob} {n0 nt:Nat}
def Zt.own (k s t:Nat):Zt G n0 nt where
 run st H:=match st.get k with
  |some p=>match PV.isNil p with
   |true=>some (st.put k (.own H.length 0),H++[.buf s t [] false],[],[])
   |false=>none
  |none=>none
 sound:=by
  intro st H x h _
  split at h
  rename_i p hk
  split at h
  rename_i hn;cases h
  refine Le.own ?_
  rw[hk]
  unfold PV.isNil at hn
  split at hn
  rfl;cases hn;cases h;cases h
def Zt.share (i:Nat):Zt G n0 nt where
 run st H:=match H[i]? with
  |some (.buf s t xs _)=>some (st,H.set i (.buf s t xs true),[],[])
  |_=>none
 sound:=by
  intro st H x h _
  split at h
  rename_i hb;cases h;exact Le.share hb;cases h
def Zt.wn (k s:Nat):Zt G n0 nt where
 run st H:=match st.get k with
  |some p=>match PV.isNil p with
   |true=>some (st.put k (.sl s []),H,[],[])
   |false=>none
  |none=>none
 sound:=by
  intro st H x h _
  split at h
  rename_i p hk
  split at h
  rename_i hn;cases h
  refine Le.wk hk ?_
  unfold PV.isNil at hn
  split at hn
  exact .nil s;cases hn;cases h;cases h
def Zt.wo {α:Type} (k:Nat) (row:α→List PV) (l:List α):Zt G n0 nt where
 run st H:=match st.get k with
  |some (.own i n)=>match H[i]? with
   |some (.buf s _ xs true)=>some (st.put k (.sl s (l.map row)),H,[.n n,.rs xs],[.n l.length,.rs (l.map row)])
   |_=>none
  |_=>none
 sound:=by
  intro st H x h he
  split at h
  rename_i i n hk
  split at h
  rename_i s t xs hb;cases h;cases he;exact Le.wk hk (Wk.ownT hb (.inr rfl));cases h;cases h
def Zt.kp (ks:List Nat) (m:Nat):Zt G n0 nt where
 run st H:=match Nat.ble n0 m&&(st.pick ks).all (λx=>x.2.ids (λj=>decide (j<m)))&&(H.take m).all (Blk.farOk m)with
  |true=>some (st.pick ks,H.take m,[],[])
  |false=>none
 sound:=by
  intro st H x h _
  split at h
  rename_i hc;simp only[Wh]at hc;cases h;exact Le.keep sA hc.2 rfl hc.1.2;cases h
def Zt.pick (ks:List Nat):Zt G n0 nt where
 run st H:=some (st.pick ks,H,[],[])
 sound:=by
  intro st H x h _;cases h;exact Le.pick rfl
def Zt.kq (ks:List Nat) (m:Nat):Zt G n0 nt where
 run st H:=match Nat.beq m H.length with
  |true=>some (st.pick ks,H,[],[])
  |false=>(Zt.kp (G:=G) (n0:=n0) (nt:=nt) ks m).run st H
 sound:=by
  intro st H x h he
  split at h
  exact(Zt.pick ks).sound h he;exact(Zt.kp ks m).sound h he
inductive Ch where
 |s (k:Nat) (p:PV)
 |k (i:Nat) (b:Blk)
 |b (i:Nat) (xs:List (List PV)) (n:Nat)
 |f (i k:Nat) (p:PV)
def Ch.c (i:Nat) (cs:List PV):Ch:=.k i (.cells cs)
def Ch.l {α:Type} (i:Nat) (row:α→List PV) (l:List α):Ch:=.b i (l.map row) l.length
def setS (k:Nat) (p:PV):St→St
 |[]=>[(k,p)]
 |x::l=>match Nat.beq x.1 k with
  |true=>(k,p)::l
  |false=>x::setS k p l
def rehd (i n:Nat):PV→PV
 |.own j m=>match Nat.beq j i with
  |true=>.own j n
  |false=>.own j m
 |p=>p
def reblk (i n:Nat):Blk→Blk
 |.far cs=>.far (cs.map (rehd i n))
 |b=>b
def upc (z:St×List Blk):Ch→St×List Blk
 |.s k p=>(setS k p z.1,z.2)
 |.k i b=>(z.1,match Nat.ble z.2.length i with|true=>z.2++[b]|false=>z.2.set i b)
 |.b i xs n=>match z.2[i]? with
  |some (.buf s t _ sh)=>(z.1.map λx=>(x.1,rehd i n x.2),(z.2.map (reblk i n)).set i (.buf s t xs sh))
  |_=>z
 |.f i k p=>match z.2[i]? with
  |some (.far cs)=>(z.1,z.2.set i (.far (cs.set k p)))
  |some (.cells cs)=>(z.1,z.2.set i (.cells (cs.set k p)))
  |_=>z
def ups (ch:List Ch) (z:St×List Blk):St×List Blk:=ch.foldl upc z
def tgt (Z:Cf) (ks:List Nat) (m:Nat) (ch:List Ch):St×List Blk:=ups ch (Z.st.pick ks,Z.H.take m)
inductive Q1 where
 |n (ks:List Nat) (m:Nat) (ch:List Ch)
 |x (id:Nat) (ks:List Nat) (m:Nat) (ch:List Ch)
 |q (Q:Exit→St→List Blk→Prop)
def Q1.en (Z:Cf):Q1→En
 |.n ks m ch=>.at .normal (tgt Z ks m ch).1 (tgt Z ks m ch).2
 |.x i ks m ch=>.at (.exit i) (tgt Z ks m ch).1 (tgt Z ks m ch).2
 |.q Q=>.q Q
def St_ext {S S':St} (e1:S.map (·.1)=S'.map (·.1)) (e2:S.map (·.2)=S'.map (·.2)):S=S':=by
 induction S generalizing S' with
 |nil=>simp_all
 |cons x l ih=>cases S' with
  |nil=>grind
  |cons y m=>
   grind
def ownN (j:Nat):PV→List Nat
 |.own i m=>match Nat.beq i j with
  |true=>[m]
  |false=>[]
 |_=>[]
def lnB (j n:Nat):Nat→List Blk→List Blk
 |_,[]=>[]
 |i,b::H=>(match b with
  |.far cs=>.far (cs.map (rehd j n))
  |.tr t s m cs=>match Nat.beq i j with
   |true=>.tr t s n cs
   |false=>.tr t s m cs
  |b=>b)::lnB j n (i+1) H
def ownB (j:Nat):Nat→List Blk→List Nat
 |_,[]=>[]
 |i,b::H=>(match b with
  |.far cs=>cs.flatMap (ownN j)
  |.tr _ _ m _=>match Nat.beq i j with
   |true=>[m]
   |false=>[]
  |_=>[])++ownB j (i+1) H
def Zajv {j n:Nat} {p:PV} (h:∀ m∈ownN j p,m=n):rehd j n p=p:=by
 unfold rehd;split;rename_i i m
 unfold ownN at h
 split;rename_i hb
 dsimp  at h
 rw[hb]at h;rw[h m (Wj.2 rfl)];rfl;rfl
def Wgb:=@List.flatMap_cons
def Z6c {j n:Nat}:∀ {l:List PV},(∀ m∈l.flatMap (ownN j),m=n)→l.map (rehd j n)=l
 |[],_=>rfl
 |p::l,h=>by
  simp only[Wgb,Wl]at h;rw[W7,Zajv λm hm=>h m (.inl hm),Z6c λm hm=>h m (.inr hm)]
def lnB_id {j n:Nat}:∀ {i:Nat} {H:List Blk},(∀ m∈ownB j i H,m=n)→lnB j n i H=H
 |_,[],_=>rfl
 |i,b::H,h=>by
  simp  [ownB,Wl]at h
  unfold lnB;rw[lnB_id λm hm=>h m (.inr hm)];split;rw[Z6c λm hm=>h m (.inl hm)];rename_i m _;split;rename_i hb;rw[h m (.inl gD)];rfl;rfl
def Zajw {n:Nat}:∀ {l:List Nat},l=l.map (λ_=>n)→∀ m∈l,m=n
 |x::l,h,m,hm=>by
  grind
def Zt.ln (j:Nat) {n' n:Nat} (h:n'=n):Zt G n0 nt where
 run st H:=some (st.map λx=>(x.1,rehd j n' x.2),lnB j n' 0 H,[.ns ((st.map (·.2)).flatMap (ownN j)++ownB j 0 H)],[.ns (((st.map (·.2)).flatMap (ownN j)++ownB j 0 H).map λ_=>n)])
 sound:=by
  intro st H x hx he;cases hx;subst h;simp only[Wak,T.ns.injEq,and_true]at he;have:=Zajw he
  refine Le.eq ?_ (lnB_id λm hm=>this m gD).symm
  have h2:=Z6c (l:=st.map (·.2)) λm hm=>this m (Wl.2 (.inl hm))
  rw[Wa3]at h2
  refine(St_ext ?_ ?_).symm
  rw[Wa3];rfl;rw[Wa3];exact h2
def Wa6:=@List.length_set
def lset {α:Type} (l:List α) (i:Nat) (x:α):(l.set i x).length=l.length:=Wa6 ..
structure FC where
 cs:List OV
 h:OV.idss (λ_=>false) cs=true
def FC.of {α:Type} (orow:α→List OV) (l:List α) (h:∀ z,OV.idss (λ_=>false) (orow z)=true):FC:=⟨cellsO orow l,Ztp h⟩
def farL (os:List (Nat×FC)) (m:Nat):Nat→List Blk→Option (List T×List T)
 |_,[]=>some ([],[])
 |i,b::H=>match farL os m (i+1) H with
  |none=>none
  |some r=>match b with
   |.tr t s n cs=>match os.lookup i with
    |some f=>some (.bs [some (.tr t s n cs)]::r.1,.bs [some (.tr t s n f.cs)]::r.2)
    |none=>none
   |b=>match b.farOk m with
    |true=>some r
    |false=>none
def Z87 {os:List (Nat×FC)} {m:Nat}:∀ {i:Nat} {H:List Blk} {r:List T×List T},farL os m i H=some r→r.1=r.2→H.all (Blk.farOk m)=true
 |_,[],_,_,_=>rfl
 |i,b::H,r,h,he=>by
  unfold farL at h
  split at h
  cases h;rename_i q hq;rw[Wfv]
  split at h
  split at h
  rename_i f _;cases h
  simp at he
  rw[Z87 hq he.2,he.1];simp;exact Wd9 (λ_ h=>by cases h) _ f.h;cases h
  split at h
  rename_i hb;cases h;rw[hb,Z87 hq he];rfl;cases h
def Zt.kpt (ks:List Nat) (m:Nat) (os:List (Nat×FC)):Zt G n0 nt where
 run st H:=match Nat.ble n0 m&&(st.pick ks).all (λx=>x.2.ids (λj=>decide (j<m))),farL os m 0 (H.take m)with
  |true,some r=>some (st.pick ks,H.take m,r.1,r.2)
  |_,_=>none
 sound:=by
  intro st H x h he
  split at h
  rename_i hc hf;simp only[Wh]at hc;cases h;exact Le.keep sA (Z87 hf he) rfl hc.2;cases h
def Zt.gst (g:Gst G):Zt G n0 nt where
 run st H:=(g.run H).map λr=>(st,r.1,r.2.1,r.2.2)
 sound:=by
  intro st H x h he;simp only[Wg]at h;obtain⟨r,h1,rfl⟩:=h;exact Gst.le g (H':=r.1) (by rw[h1];rfl) (by rw[h1];exact he)
def Zt.swap (i j:Nat):Zt G n0 nt where
 run st H:=match H[i]?,H[j]? with
  |some a,some b=>match Nat.ble n0 i&&Nat.ble n0 j&&okIds (swapB i j a b H)with
   |true=>some (st.map λz=>(z.1,z.2.ren (sw i j)),swapB i j a b H,[],[])
   |false=>none
  |_,_=>none
 sound:=by
  intro st H x h _
  split at h
  rename_i a b hi hj
  split at h
  rename_i hc
  simp  [Wh]at hc
  cases h
  exact λ_ _ _ _ h0 _ hr=>hr.swap hi hj h0 gD gD hc.2
  cases h;cases h
def wkL (any:Bool) (H:List Blk):List PV→List PV→List Ow→Option (List T×List T)
 |[],qs,_=>match qs with
  |[]=>some ([],[])
  |_::_=>none
 |p::ps,qs,ws=>match qs with
  |[]=>none
  |q::qs=>match p,q with
   |.own i n,.sl _ _=>match ws with
    |w::ws=>match H[i]? with
     |some (.buf s _ xs sh)=>match any||sh with
      |true=>(wkL any H ps qs ws).map λr=>(.n n::.rs xs::.p q::r.1,.n w.n::.rs w.xs::.p (.sl s w.xs)::r.2)
      |false=>none
     |_=>none
    |[]=>none
   |p,.sl s xs=>match PV.isNil p with
    |true=>(wkL any H ps qs ws).map λr=>(.rs xs::r.1,.rs []::r.2)
    |false=>(wkL any H ps qs ws).map λr=>(.p p::r.1,.p (.sl s xs)::r.2)
   |p,q=>(wkL any H ps qs ws).map λr=>(.p p::r.1,.p q::r.2)
def wkL_ok {any:Bool} {H:List Blk}:∀ ps qs ws x,wkL any H ps qs ws=some x→x.1=x.2→Wks H any ps qs
 |[],[],ws,x,_,_=>.nil
 |[],_::_,ws,x,h,_=>by simp[wkL]at h
 |p::ps,[],ws,x,h,_=>by simp[wkL]at h
 |p::ps,q::qs,ws,x,h,he=>by
  unfold wkL at h
  simp at h
  split at h
  rename_i i n s0 x0
  split at h
  rename_i w ws'
  split at h
  rename_i s t xs sh hb
  split at h
  rename_i hs;simp only[Wg]at h;obtain⟨r,hr,rfl⟩:=h;simp only[Wak,Wd6,Wf9,T.p.injEq]at he;obtain⟨h1,h2,h3,h4⟩:=he
  have hw:n=xs.length:=by rw[h1,←w.h,h2]
  subst hw;rw[h3,←h2];exact .cons _ _ _ _ (.own i s t xs sh hb gD) (wkL_ok _ _ _ r hr h4);cases h;cases h;cases h
  split at h
  rename_i hn;simp only[Wg]at h;obtain⟨r,hr,rfl⟩:=h
  simp at he
  rw[he.1,Zach hn];exact .cons _ _ _ _ (.nil _) (wkL_ok _ _ _ r hr he.2);simp only[Wg]at h;obtain⟨r,hr,rfl⟩:=h
  simp at he
  rw[he.1];exact .cons _ _ _ _ (.refl _) (wkL_ok _ _ _ r hr he.2);simp only[Wg]at h;obtain⟨r,hr,rfl⟩:=h
  simp at he
  rw[he.1];exact .cons _ _ _ _ (.refl _) (wkL_ok _ _ _ r hr he.2)
def Hnd.wkP (qs:List PV) (ws:List Ow) (k:Hnd P G):Hnd P G where
 run o st H:=match k.run o st H with
  |some x=>match x.p with
   |.agg cs=>match wkL false x.H cs qs ws with
    |some r=>match Nat.beq r.1.length r.2.length with
     |true=>some ⟨.agg qs,x.H,r.1++x.l,r.2++x.r⟩
     |false=>none
    |none=>none
   |_=>none
  |none=>none
 sound:=by
  intro n0 o st H x h he
  split at h
  rename_i y hy
  split at h
  rename_i cs hp
  split at h
  rename_i r hr
  split at h
  rename_i hl;cases h;obtain⟨h1,h2⟩:=We9 he (Wd hl);have h3:=k.sound (n0:=n0) hy h2;rw[hp]at h3;intro c a w β h0 hrl
  refine Zjp (h3 c a w β h0 hrl) λv w' ⟨β',g1,g2⟩=>⟨β',g1,?_⟩
  obtain⟨us,rfl,g2⟩:=g2;exact⟨us,rfl,g1.wks (wkL_ok _ _ _ r hr h1) _ g2⟩;cases h;cases h;cases h;cases h
def Zt.wkc (i:Nat) (cs':List PV) (ws:List Ow):Zt G n0 nt where
 run st H:=match H[i]? with
  |some (.cells cs)=>match PV.idss (λj=>decide (j<i)) cs' with
   |true=>(wkL false H cs cs' ws).map λr=>(st,H.set i (.cells cs'),r.1,r.2)
   |false=>none
  |some (.far cs)=>match PV.idss (λj=>decide (j<i)) cs' with
   |true=>(wkL false H cs cs' ws).map λr=>(st,H.set i (.cells cs'),r.1,r.2)
   |false=>none
  |_=>none
 sound:=by
  intro st H x h he
  split at h
  rename_i cs hb
  split at h
  rename_i hi;simp only[Wg]at h;obtain⟨r,hr,rfl⟩:=h;exact Le.wkc hb (wkL_ok _ _ _ r hr he) hi;cases h;rename_i cs hb
  split at h
  rename_i hi;simp only[Wg]at h;obtain⟨r,hr,rfl⟩:=h;exact Le.frF hb (wkL_ok _ _ _ r hr he) hi;cases h;cases h
def Zt.toFar (i:Nat):Zt G n0 nt where
 run st H:=match H[i]? with
  |some (.cells cs)=>some (st,H.set i (.far cs),[],[])
  |_=>none
 sound:=by
  intro st H x h _
  split at h
  rename_i hb;cases h;exact Le.toFar hb;cases h
def Zt.re {S S':St} {K K':List Blk} (h1:S=S') (h2:K=K'):Zt G n0 nt where
 run st H:=some (S',K',[.ns (st.map (·.1)),.ps (st.map (·.2)),.bs (H.map some)],[.ns (S.map (·.1)),.ps (S.map (·.2)),.bs (K.map some)])
 sound:=by
  intro st H x h he;cases h
  simp at he
  obtain⟨e1,e2,e3⟩:=he
  have:st=S:=by
   clear h1
   induction st generalizing S with
   |nil=>simp_all
   |cons x l ih=>cases S with
    |nil=>grind
    |cons y m=>
     grind
  exact Le.eq (this.trans h1) ((Zbv e3).trans h2)
def ztO (t:Zt G n0 nt) (Z:Cf):Option (Cf×List T×List T):=(t.run Z.st Z.H).map λr=>(⟨Z.fs,r.1,r.2.1⟩,r.2.2.1,r.2.2.2)
def tZ (r:Option (Cf×List T×List T)):Cf:=match r with|some r=>r.1|none=>⟨[],[],[]⟩
def tL (r:Option (Cf×List T×List T)):List T:=match r with|some r=>r.2.1|none=>[.n 0]
def tR (r:Option (Cf×List T×List T)):List T:=match r with|some r=>r.2.2|none=>[]
def ztO_le {t:Zt G n0 nt} {Z:Cf} (ok:tL (ztO t Z)=tR (ztO t Z)):Le G n0 nt Z.st Z.H (tZ (ztO t Z)).st (tZ (ztO t Z)).H∧(tZ (ztO t Z)).fs=Z.fs:=by
 unfold ztO at ok⊢
 cases hr:t.run Z.st Z.H;rw[hr]at ok;simp[tL,tR]at ok;rw[hr]at ok;exact⟨t.sound hr ok,rfl⟩
variable {A B:Type} {E:List (Nat×Hnd P G)} {F X Y:Option A} {Q:A→Exit→St→List Blk→Prop} {Z:Cf}
def SW.b {x:Option B} {f:B→Option A} (k:∀ v,x=some v→SW P G n0 nt E (f v) Q Z):SW P G n0 nt E (x.bind f) Q Z:=.mk λr hr=>
 let ⟨v,h1,h2⟩:=bindb hr
 (k v h1).run r h2
def SW.l {e:B} {f:B→Option A} (k:∀ v,e=v→SW P G n0 nt E (f v) Q Z):SW P G n0 nt E ((some e).bind f) Q Z:=.mk λr hr=>(k e rfl).run r hr
def SW.c {p:Prop} [Decidable p] (k:p→SW P G n0 nt E F Q Z):SW P G n0 nt E (if p then F else none) Q Z:=.mk λr hr=>
 let ⟨h1,h2⟩:=chkb hr
 (k h1).run r h2
def SW.n:SW P G n0 nt E none Q Z:=.mk λ_ hr=>noneb hr
def SW.j {p:Prop} [Decidable p] (a:p→SW P G n0 nt E X Q Z) (b:¬p→SW P G n0 nt E Y Q Z):SW P G n0 nt E (if p then X else Y) Q Z:=.mk λr hr=>by
 by_cases hp:p
 rw[if_pos hp]at hr;exact(a hp).run r hr;rw[if_neg hp]at hr;exact(b hp).run r hr
def hasN (k:Nat):List Nat→Bool
 |[]=>false
 |x::l=>match Nat.beq x k with
  |true=>true
  |false=>hasN k l
def ksA (st:List Nat) (ops:Array Oper):List Nat:=st++ops.toList.filterMap λo=>match o.dst with
 |some k=>match hasN k st with
  |true=>none
  |false=>some k
 |none=>none
def ksO (ks:Option (List Nat)) (st:St) (ops:Array Oper):List Nat:=match ks with
 |some ks=>ks
 |none=>ksA (st.map (·.1)) ops
def rgO (nt:Nat) (hs:List (Nat×Hnd P G)) (ks:Option (List Nat)) (Z:Cf):Option (Cf×Eqs):=match nf 1000 Z.fs with
 |.reg _ ops d fs=>match d with
  |false=>(Reg nt ops hs (ksO ks Z.st ops) Z.st Z.H).map λr=>(⟨fs,r.1,r.2.1⟩,r.2.2)
  |true=>none
 |_=>none
def drO (n0 nt:Nat) (hs:List (Nat×Hnd P G)) (k:Nat) (ord ch:List Nat) (sws:List (Nat×Nat)) (ks:Option (List Nat)) (Z:Cf):Option (Cf×Eqs):=match nf 1000 Z.fs with
 |.reg _ ops d fs=>match d with
  |true=>(Dr n0 nt ops hs k ord ch sws (ksO ks Z.st ops) Z.st Z.H).map λr=>(⟨fs,r.1,r.2.1⟩,r.2.2)
  |false=>none
 |_=>none
def zZ (r:Option (Cf×Eqs)):Cf:=match r with|some r=>r.1|none=>⟨[],[],[]⟩
def zL (r:Option (Cf×Eqs)):List (List T):=match r with|some r=>r.2.map (·.1)|none=>[[.n 0]]
def zR (r:Option (Cf×Eqs)):List (List T):=match r with|some r=>r.2.map (·.2)|none=>[]
def Z88 {r:Option (Cf×Eqs)} (h:zL r=zR r):∃ x,r=some x∧Eqs.ok x.2:=by
 cases r;cases h;rename_i x;exact⟨x,rfl,Eqs.of h⟩
def Zae8 {ops:Array Oper} {id:Nat} {q:Exit→St→List Blk→Prop} {hs:List (Nat×Hnd P G)} {ks:List Nat} {st:St} {H:List Blk} {r:St×List Blk×Eqs} (h1:Reg nt ops hs ks st H=some r) (h2:Eqs.ok r.2.2) (hq:q .normal r.1 r.2.1):AWP P G n0 nt (.region id ops false) q st H:=by
 unfold Reg at h1
 simp only[Wg]at h1;obtain⟨r',h3,rfl⟩:=h1
 refine Whb rfl ?_
 have:=We6 (n0:=n0) (Q:=q) (l2:=[]) h3 h2 (Whp (st':=r'.1.pick ks) (Wcw _ _) (Wgi hq))
 grind
def dr_awp {ops:Array Oper} {q:Exit→St→List Blk→Prop} {hs:List (Nat×Hnd P G)} {k:Nat} {ord ch:List Nat} {sws:List (Nat×Nat)} {ks:List Nat} {st:St} {H:List Blk} {r:St×List Blk×Eqs} (h1:Dr n0 nt ops hs k ord ch sws ks st H=some r) (h2:Eqs.ok r.2.2) (hq:q .normal r.1 r.2.1):ADraw P G n0 nt ops q st H:=by
 unfold Dr at h1
 split at h1
 cases h1;simp only[]at h1
 split at h1
 rename_i hc
 simp at hc
 split at h1
 rename_i es' H0 Hf g1 g2 g3
 split at h1
 rename_i r1 hr
 split at h1
 rename_i q1 hsw;cases h1;obtain⟨e1,e2⟩:=Wcm h2;obtain⟨e3,e4⟩:=Wd7 e2
 simp at e1
 have hH0:=Zbv e1;subst hH0;have tail:=We6 (n0:=n0) (Q:=q) (l2:=[]) hr e4 (Whg hsw (Whp (st':=q1.1.pick ks) (Wcw _ _) (Wgi hq)));rw[War]at tail;exact ADraw.drawn (rkOf k ord) k (st.map (·.1)) _ _ rfl hc.1 (all_ok g1 e3) g2 g3 rfl rfl tail;cases h1;cases h1;cases h1;cases h1
def SW.r (hs:List (Nat×Hnd P G)) (k:SW P G n0 nt [] F Q (zZ (rgO nt (E++hs) none Z))) (ok:zL (rgO nt (E++hs) none Z)=zR (rgO nt (E++hs) none Z):=by kernel_rfl):SW P G n0 nt E F Q Z:=.mk λr hr=>by
 obtain⟨x,h1,h2⟩:=Z88 ok;have h3:=k.run r hr;rw[h1]at h3
 refine nf_ok 1000 _ ?_
 unfold rgO at h1
 split at h1
 rename_i hn;rw[hn]
 split at h1
 simp only[Wg]at h1;obtain⟨y,h4,rfl⟩:=h1;exact Zae8 h4 h2 h3;cases h1
 grind
def SW.d0 (hs:List (Nat×Hnd P G)) (k:Nat) (ord ch:List Nat) (sws:List (Nat×Nat)) (c:SW P G n0 nt [] F Q (zZ (drO n0 nt (E++hs) k ord ch sws none Z))) (hm:P.follows .mixedOrders=true:=by kernel_rfl)
  (ok:zL (drO n0 nt (E++hs) k ord ch sws none Z)=zR (drO n0 nt (E++hs) k ord ch sws none Z):=by kernel_rfl):SW P G n0 nt E F Q Z:=.mk λr hr=>by
 obtain⟨x,h1,h2⟩:=Z88 ok;have h3:=c.run r hr;rw[h1]at h3
 refine nf_ok 1000 _ ?_
 unfold drO at h1
 split at h1
 rename_i hn;rw[hn]
 split at h1
 simp only[Wg]at h1;obtain⟨y,h4,rfl⟩:=h1;exact Wfp hm (dr_awp h4 h2 h3);cases h1
 grind
def SW.d (hs:List (Nat×Hnd P G)) (k:Nat) (c:SW P G n0 nt [] F Q (zZ (drO n0 nt (E++hs) k [] [] [] none Z))) (hm:P.follows .mixedOrders=true:=by kernel_rfl)
  (ok:zL (drO n0 nt (E++hs) k [] [] [] none Z)=zR (drO n0 nt (E++hs) k [] [] [] none Z):=by kernel_rfl):SW P G n0 nt E F Q Z:=SW.d0 hs k [] [] [] c hm ok
def SW.a (k:SW P G n0 nt [] F Q (zZ (rgO nt (E++[]) none Z))) (ok:zL (rgO nt (E++[]) none Z)=zR (rgO nt (E++[]) none Z):=by kernel_rfl):SW P G n0 nt E F Q Z:=SW.r [] k ok
def TO0 (P:Program) (G:Glob) (n0 nt:Nat) (Z:Cf) (S:St) (K:List Blk):Prop:=match nf 1000 Z.fs with
 |.reg id ops d _=>AWP P G n0 nt (.region id ops d) (To S K) Z.st Z.H
 |_=>False
structure TO (P:Program) (G:Glob) (n0 nt:Nat) (Z:Cf) (S:St) (K:List Blk):Prop where
 run:TO0 P G n0 nt Z S K
def tlZ (Z:Cf) (S:St) (K:List Blk):Cf:=match nf 1000 Z.fs with
 |.reg _ _ _ fs=>⟨fs,S,K⟩
 |_=>⟨[],[],[]⟩
def SW.to (ks:List Nat) (ch:List Ch) (p:TO P G n0 nt Z (ups ch (Z.st.pick ks,Z.H)).1 (ups ch (Z.st.pick ks,Z.H)).2) (k:SW P G n0 nt [] F Q (tlZ Z (ups ch (Z.st.pick ks,Z.H)).1 (ups ch (Z.st.pick ks,Z.H)).2)):SW P G n0 nt E F Q Z:=.mk λr hr=>by
 have h3:=k.run r hr
 refine nf_ok 1000 _ ?_
 replace p:=p.run
 unfold TO0 at p
 unfold tlZ at h3
 split at p
 rename_i hn
 simp  [hn]at h3
 rw[hn];exact AWP.to _ _ p h3
 grind
def toS (r:Option (Cf×Eqs)):List Nat×List PV×List (Option Blk)×List (List T):=match r with
 |some r=>(r.1.st.map (·.1),r.1.st.map (·.2),r.1.H.map some,r.2.map (·.1))
 |none=>([],[],[],[[.n 0]])
variable {S:St} {K:List Blk}
def Zaci {r:Option (Cf×Eqs)} (h:toS r=(S.map (·.1),S.map (·.2),K.map some,zR r)):∃ x,r=some x∧Eqs.ok x.2∧x.1.st=S∧x.1.H=K:=by
 cases r;simp[toS,zR]at h;rename_i x;simp only[toS,Wa9]at h;exact⟨x,rfl,Eqs.of h.2.2.2,St_ext h.1 h.2.1,Zbv h.2.2.1⟩
def TO.r (hs:List (Nat×Hnd P G)) (ok:toS (rgO nt hs (some (S.map (·.1))) Z)=(S.map (·.1),S.map (·.2),K.map some,zR (rgO nt hs (some (S.map (·.1))) Z)):=by kernel_rfl):TO P G n0 nt Z S K:=by
 obtain⟨x,h1,h2,h3,h4⟩:=Zaci ok
 unfold rgO at h1
 refine .mk ?_
 unfold TO0
 split at h1
 split at h1
 simp only[Wg]at h1;obtain⟨y,h5,rfl⟩:=h1;exact Zae8 h5 h2 (To.mk h3 h4);cases h1
 grind
def TO.d0 (hs:List (Nat×Hnd P G)) (k:Nat) (ord ch:List Nat) (sws:List (Nat×Nat)) (hm:P.follows .mixedOrders=true:=by kernel_rfl)
  (ok:toS (drO n0 nt hs k ord ch sws (some (S.map (·.1))) Z)=(S.map (·.1),S.map (·.2),K.map some,zR (drO n0 nt hs k ord ch sws (some (S.map (·.1))) Z)):=by kernel_rfl):TO P G n0 nt Z S K:=by
 obtain⟨x,h1,h2,h3,h4⟩:=Zaci ok
 unfold drO at h1
 refine .mk ?_
 unfold TO0
 split at h1
 split at h1
 simp only[Wg]at h1;obtain⟨y,h5,rfl⟩:=h1;exact Wfp hm (dr_awp h5 h2 (To.mk h3 h4));cases h1
 grind
def TO.d (hs:List (Nat×Hnd P G)) (k:Nat) (hm:P.follows .mixedOrders=true:=by kernel_rfl)
  (ok:toS (drO n0 nt hs k [] [] [] (some (S.map (·.1))) Z)=(S.map (·.1),S.map (·.2),K.map some,zR (drO n0 nt hs k [] [] [] (some (S.map (·.1))) Z)):=by kernel_rfl):TO P G n0 nt Z S K:=TO.d0 hs k [] [] [] hm ok
structure TD (P:Program) (G:Glob) (n0 nt:Nat) (hs:List (Nat×Hnd P G)) (k:Nat) (ops:Array Oper) (st:St) (H:List Blk) (S:St) (K:List Blk):Prop where
 run:ADraw P G n0 nt ops (LeQ G n0 nt (To S K)) st H
def opsZ (Z:Cf):Array Oper:=match nf 1000 Z.fs with
 |.reg _ ops _ _=>ops
 |_=>#[]
def isD (Z:Cf):Bool:=match nf 1000 Z.fs with
 |.reg _ _ d _=>d
 |_=>false
def TO.g (hs:List (Nat×Hnd P G)) (k:Nat) (h:TD P G n0 nt hs k (opsZ Z) Z.st Z.H S K) (hm:P.follows .mixedOrders=true:=by kernel_rfl) (ok:isD Z=true:=by kernel_rfl):TO P G n0 nt Z S K:=by
 refine .mk ?_
 have h1:=h.run
 unfold opsZ at h1
 unfold isD at ok
 unfold TO0
 split at ok
 rename_i hn
 simp  [hn]at h1⊢
 subst ok
 exact AWP.mid (To S K) (Wfp hm h1) λ_ _ _ h=>h
 grind
def TD.e {hs:List (Nat×Hnd P G)} {k:Nat} {ops:Array Oper} {st:St} {H:List Blk} (x y:Nat) (h1:TD P G n0 nt hs k (addEdge ops x y) st H S K) (h2:TD P G n0 nt hs k (addEdge ops y x) st H S K) (hxy:Nat.beq x y=false:=by kernel_rfl):TD P G n0 nt hs k ops st H S K:=
 ⟨ADraw.either x y hxy h1.run h2.run⟩
def dS (r:Option (St×List Blk×Eqs)):List Nat×List PV×List (Option Blk)×List (List T):=match r with
 |some r=>(r.1.map (·.1),r.1.map (·.2),r.2.1.map some,r.2.2.map (·.1))
 |none=>([],[],[],[[.n 0]])
def dR (r:Option (St×List Blk×Eqs)):List (List T):=match r with|some r=>r.2.2.map (·.2)|none=>[]
def TD.d {ops:Array Oper} {st:St} {H:List Blk} {hs:List (Nat×Hnd P G)} {k:Nat} (ord ch:List Nat) (sws:List (Nat×Nat))
  (ok:dS (Dr n0 nt ops hs k ord ch sws (S.map (·.1)) st H)=(S.map (·.1),S.map (·.2),K.map some,dR (Dr n0 nt ops hs k ord ch sws (S.map (·.1)) st H)):=by kernel_rfl):TD P G n0 nt hs k ops st H S K:=by
 cases hr:Dr n0 nt ops hs k ord ch sws (S.map (·.1)) st H;rw[hr]at ok;simp[dS,dR]at ok;rw[hr]at ok
 simp  [dS,Wa9]at ok
 exact⟨dr_awp hr (Eqs.of ok.2.2.2) (Wbu (To.mk (St_ext ok.1 ok.2.1) (Zbv ok.2.2.1)))⟩
def unf (i:Nat) (r:Option (St×List Blk×Eqs)):Option (St×List Blk×Eqs):=match r with
 |some r=>match r.2.1[i]? with
  |some (.far cs)=>match PV.idss (λj=>decide (j<i)) cs with
   |true=>some (r.1,r.2.1.set i (.cells cs),r.2.2)
   |false=>none
  |_=>none
 |none=>none
def TD.x {ops:Array Oper} {st:St} {H:List Blk} {hs:List (Nat×Hnd P G)} {k:Nat} (ord ch:List Nat) (sws:List (Nat×Nat)) (i:Nat)
  (ok:dS (unf i (Dr n0 nt ops hs k ord ch sws (S.map (·.1)) st H))=(S.map (·.1),S.map (·.2),K.map some,dR (unf i (Dr n0 nt ops hs k ord ch sws (S.map (·.1)) st H))):=by kernel_rfl):TD P G n0 nt hs k ops st H S K:=by
 cases hr:Dr n0 nt ops hs k ord ch sws (S.map (·.1)) st H;rw[hr]at ok;simp[unf,dS,dR]at ok;rw[hr]at ok
 unfold unf at ok
 dsimp  at ok
 split at ok
 rename_i cs hb
 split at ok
 rename_i hi;simp only[dS,Wa9]at ok;exact⟨dr_awp hr (Eqs.of ok.2.2.2) ⟨_,_,Le.frF hb (Wer _ _ _) hi,To.mk (St_ext ok.1 ok.2.1) (Zbv ok.2.2.1)⟩⟩;simp[dS,dR]at ok;simp[dS,dR]at ok
structure HC (P:Program) (G:Glob) where
 b:Bool
 w:Bool
 run:Oper→St→List Blk→Option Out
 sound:b=w→∀ {n0:Nat} {o:Oper} {st:St} {H:List Blk} {x:Out},run o st H=some x→x.l=x.r→OpW P G n0 o st H x.p x.H
def HC.idx {α:Type} {b w:Bool} (row:α→List PV) {l:List α} {j:Int} {z:α} (hz:b=w→AM.idx l j=some z):HC P G where
 b:=b
 w:=w
 run:=idxR P G row l j z l.length
 sound hb:=(Hnd.idx row (hz hb)).sound
def HC.str {b w:Bool} {s:ByteArray} {i z:Int} (hz:b=w→sidx s i=some z):HC P G where
 b:=b
 w:=w
 run:=strR P G s i z
 sound hb:=(Hnd.str (hz hb)).sound
def one3 (hs:List (Nat×Hnd P G)) (cs:List (Nat×HC P G)) (π:Option (Nat×Bool×Bool)) (i:Nat) (o:Oper) (st:St) (H:List Blk):Option Out:=match cs.lookup i with
 |some c=>match π with
  |some q=>(c.run o st H).map λx=>⟨x.p,x.H,.ps [.sc (.bool c.b),.sc (.bool c.w)]::x.l,.ps [.sc (.bool q.2.1),.sc (.bool q.2.2)]::x.r⟩
  |none=>none
 |none=>one2 hs i o st H
def OpW.of_one3 {o:Oper} {st:St} {H:List Blk} {hs:List (Nat×Hnd P G)} {cs:List (Nat×HC P G)} {π:Option (Nat×Bool×Bool)} {i:Nat} {x:Out} (h:one3 hs cs π i o st H=some x) (he:x.l=x.r) (hπ:∀ q∈π,q.2.1=q.2.2):OpW P G n0 o st H x.p x.H:=by
 unfold one3 at h
 split at h
 rename_i c _
 split at h
 simp at h
 obtain⟨y,hy,rfl⟩:=h
 simp at he
 obtain⟨⟨h1,h2⟩,h3⟩:=he;exact c.sound gD (x:=y) hy h3;cases h;exact Wfq h he
inductive Gk where
 |go
 |as (d:Nat) (g:Bool)
 |sp (d:Nat) (w:Bool)
 |no
def slotOf (ops:Array Oper) (j:Nat):Option Nat:=(ops[j]?).bind (·.dst)
def gdK (ops:Array Oper) (π:Option (Nat×Bool×Bool)) (o:Oper):Gk:=match o.guard with
 |none=>.go
 |some (j,w)=>match slotOf ops j with
  |none=>.no
  |some d=>match π with
   |none=>.sp d w
   |some (d0,g,w0)=>match Nat.beq d d0&&(w==w0)with
    |true=>.as d g
    |false=>.sp d w
def gOk (st:St):Gk→Option Eqs
 |.go=>some []
 |.as d g=>match st.get d with
  |some (.sc (.bool g'))=>some [([.p (.sc (.bool g'))],[.p (.sc (.bool g))])]
  |_=>none
 |_=>none
def isPk (ops:Array Oper) (d m:Nat):Bool:=match ops[m]? with
 |some o=>match o.op with
  |.pick (.tmp k) _ _=>Nat.beq k d
  |_=>false
 |none=>false
def fpk (ops:Array Oper) (d:Nat):List Nat→List Nat→Option (List Nat×Nat×List Nat)
 |_,[]=>none
 |a,m::l=>match isPk ops d m with
  |true=>some (a.reverse,m,l)
  |false=>fpk ops d (m::a) l
def fpk_eq {ops:Array Oper} {d:Nat}:∀ {l a:List Nat} {x:List Nat×Nat×List Nat},fpk ops d a l=some x→a.reverse++l=x.1++x.2.1::x.2.2
 |m::l,a,x,h=>by
  unfold fpk at h
  split at h
  cases h;rfl;rw[←fpk_eq h,List.reverse_cons,Wan];rfl
def skR (ops:Array Oper):List Nat→St→St
 |[],st=>st
 |i::l,st=>match ops[i]? with
  |some o=>skR ops l (st.putD o.dst (.sc undef))
  |none=>st
def skOk (nt:Nat) (ops:Array Oper) (d:Nat) (w:Bool):List Nat→List Nat→Bool
 |_,[]=>true
 |dn,i::l=>match ops[i]? with
  |none=>false
  |some o=>match o.guard,o.dst with
   |some (j,w'),some k=>match slotOf ops j with
    |some d'=>(Nat.beq d' d&&(w'==w)||hasN d' dn)&&dstOk nt o&&!(Nat.beq k d)&&skOk nt ops d w (k::dn) l
    |none=>false
   |_,_=>false
def Wz:=@List.mem_cons_self
def Zacj {k:Nat}:∀ {l:List Nat},hasN k l=true→k∈l
 |x::l,h=>by
  unfold hasN at h
  split at h
  rename_i hx;rw[Wd hx];exact Wz;exact Wc7 _ (Zacj h)
def AOps.skips {ops:Array Oper} {d:Nat} {g w:Bool} {Q:Exit→St→List Blk→Prop} {H:List Blk} {l2:List Nat} (hne:(g==w)=false):∀ {l dn:List Nat} {st:St},skOk nt ops d w dn l=true→st.get d=some (.sc (.bool g))→(∀ k∈dn,st.get k=some (.sc undef))→AOps P G n0 nt ops l2 Q (skR ops l st) H→AOps P G n0 nt ops (l++l2) Q st H
 |[],_,_,_,_,_,h=>h
 |i::l,dn,st,hk,hd,hu,h=>by
  unfold skOk at hk
  unfold skR at h
  split at hk
  cases hk;rename_i o ho;rw[ho]at h
  split at hk
  rename_i j w' k hg hdst
  split at hk
  rename_i d' hs;simp only[Wh,Wbz]at hk;obtain⟨⟨⟨h1,h2⟩,h3⟩,h4⟩:=hk
  have hkd:d≠k:=λe=>sA
  have hw:wantA ops st o=some false:=by
   unfold wantA;rw[hg];dsimp only
   unfold slotOf at hs
   rw[hs];dsimp
   rcases h1 with⟨e1,e2⟩|e1
   rw[Wd e1,hd,eq_of_beq e2];dsimp only;rw[hne];rw[hu d' (Zacj e1)];rfl
  refine AOps.skip ho h2 hw (AOps.skips hne h4 ?_ ?_ h)
  rw[hdst];exact(Z7i _ _ hkd).trans hd;intro x hx;rw[hdst]
  by_cases hxk:x=k
  subst hxk;exact Zaca _ _ _;exact(Z7i _ _ hxk).trans gD;cases hk
  grind
def pkV (G:Glob) (o:Oper) (w:Bool) (s1 st:St):Option (Bool×Bool):=match o.op with
 |.pick _ y z=>match opd G s1 (match w with|true=>y|false=>z),opd G st (match w with|true=>z|false=>y)with
  |some (.sc (.bool a)),some (.sc (.bool b))=>some (match w with|true=>(a,b)|false=>(b,a))
  |_,_=>none
 |_=>none
def stEq (s1 st:St):List T×List T:=([.ns ((s1.pick (st.map (·.1))).map (·.1)),.ps ((s1.pick (st.map (·.1))).map (·.2))],[.ns (st.map (·.1)),.ps (st.map (·.2))])
def Zack {s1 st:St} {d:Option Nat} {p:PV} (h:∀ x∈st,x∈s1):∀ x∈st.putD d p,x∈s1.putD d p:=by
 cases d;exact h;intro x hx
 simp  [St.putD,St.put,St.del]at hx⊢
 grind
def Zacl {s1 st:St} (h:(stEq s1 st).1=(stEq s1 st).2):∀ x∈st,x∈s1:=by
 simp  [stEq,Wak,T.ns.injEq,T.ps.injEq,and_true]at h
 exact λx hx=>Wcw (st.map (·.1)) s1 x (by rw[St_ext h.1 h.2];omega)
structure NB where
 {c:Bool}
 {b:Bool}
 h:c=b
def nbO (ps:List (Nat×NB)) (m:Nat) (e:Bool):Bool×Eqs:=match ps.lookup m with
 |some x=>(x.b,[([.p (.sc (.bool e))],[.p (.sc (.bool x.c))])])
 |none=>(e,[])
def nbO_eq {ps:List (Nat×NB)} {m:Nat} {e:Bool} (h:Eqs.ok (nbO ps m e).2):(nbO ps m e).1=e:=by
 unfold nbO at h⊢
 split;rename_i x hx;rw[hx]at h;have:=h _ (Wj.2 rfl)
 simp at this
 rw[this,x.h];rfl
def rC (nt:Nat) (ops:Array Oper) (hs:List (Nat×Hnd P G)) (cs:List (Nat×HC P G)) (ps:List (Nat×NB)):Nat→Option (Nat×Bool×Bool)→List Nat→St→List Blk→Option (St×List Blk×Eqs)
 |0,_,_,_,_=>none
 |n+1,π,l,st,H=>match l with
  |[]=>some (st,H,[])
  |i::l=>match ops[i]? with
   |none=>none
   |some o=>match gdK ops π o with
    |.sp d w=>match st.get d,fpk ops d [] (i::l)with
     |some (.sc (.bool g)),some (bl,m,rest)=>match skOk nt ops d w [] bl,rC nt ops hs cs ps n (some (d,g,w)) bl st H,ops[m]? with
      |true,some r,some o'=>match dstOk nt o',pkV G o' w r.1 (skR ops bl st),gOk r.1 (gdK ops π o'),gOk (skR ops bl st) (gdK ops π o'),r.1.get d,(skR ops bl st).get d,isPk ops d m with
       |true,some ab,some e1,some e2,some (.sc (.bool g2)),some (.sc (.bool g3)),true=>(rC nt ops hs cs ps n π rest (st.putD o'.dst (.sc (.bool (nbO ps m (bif g then ab.1 else ab.2)).1))) H).map λq=>
        (q.1,q.2.1,([.ps [.sc (.bool g2),.sc (.bool g3)],.bs (r.2.1.map some)],[.ps [.sc (.bool g),.sc (.bool g)],.bs (H.map some)])::stEq r.1 st::stEq (skR ops bl st) st::(e1++(e2++(r.2.2++((nbO ps m (bif g then ab.1 else ab.2)).2++q.2.2)))))
       |_,_,_,_,_,_,_=>none
      |_,_,_=>none
     |_,_=>none
    |k=>match dstOk nt o,gOk st k,one3 hs cs π i o st H with
     |true,some e,some x=>(rC nt ops hs cs ps n π l (st.putD o.dst x.p) x.H).map λr=>(r.1,r.2.1,e++((x.l,x.r)::r.2.2))
     |_,_,_=>none
def Z3j {ops:Array Oper} {st:St} {o:Oper} {π:Option (Nat×Bool×Bool)} {e:Eqs} (h:gOk st (gdK ops π o)=some e) (he:e.ok) (hπ:∀ q∈π,q.2.1=q.2.2):wantA ops st o=some true:=by
 unfold gdK at h
 unfold wantA
 split at h
 rename_i hg;rw[hg];rename_i j w hg;rw[hg];dsimp only
 split at h
 cases h;rename_i d hs
 unfold slotOf at hs
 rw[hs]
 split at h
 cases h;rename_i d0 g w0
 split at h
 rename_i hc;simp only[Wh]at hc
 unfold gOk at h
 dsimp only at h
 split at h
 rename_i g' hd;cases h;have:=he _ (Wj.2 rfl)
 simp at this
 dsimp only;rw[hd];dsimp only;rw[this,eq_of_beq hc.2,show g=w0 from hπ _ rfl];simp;cases h;cases h
def AOps.rC {ops:Array Oper} {Q:Exit→St→List Blk→Prop} {hs:List (Nat×Hnd P G)} {cs:List (Nat×HC P G)} {ps:List (Nat×NB)}:∀ {n:Nat} {l2:List Nat} {π:Option (Nat×Bool×Bool)} {l:List Nat} {st:St} {H:List Blk} {r:St×List Blk×Eqs},rC nt ops hs cs ps n π l st H=some r→Eqs.ok r.2.2→(∀ q∈π,q.2.1=q.2.2)→AOps P G n0 nt ops l2 Q r.1 r.2.1→AOps P G n0 nt ops (l++l2) Q st H
 |0,_,_,_,_,_,_,hr,_,_,_=>by simp[AM.rC]at hr
 |n+1,l2,π,l,st,H,r,hr,he,hπ,h=>by
  unfold AM.rC at hr
  split at hr
  cases hr;exact h;rename_i i l
  split at hr
  cases hr;rename_i o ho
  split at hr
  rename_i d w hk
  split at hr
  rename_i g bl m rest hd hf
  split at hr
  rename_i s o' hsk hrun hm
  split at hr
  rename_i ab e1 e2 g2 g3 hdst hpk hg1 hg2 hd2 hd3 hip;simp only[Wg]at hr;obtain⟨q,hq,rfl⟩:=hr;obtain⟨a1,c1⟩:=Wcm he;obtain⟨a2,c2⟩:=Wcm c1;obtain⟨a3,c3⟩:=Wcm c2;obtain⟨a4,c4⟩:=Wd7 c3;obtain⟨a5,c5⟩:=Wd7 c4;obtain⟨a6,c6⟩:=Wd7 c5;obtain⟨a7,c7⟩:=Wd7 c6
  simp at a1
  obtain⟨⟨b1,b2⟩,a1⟩:=a1;subst b1 b2;have a1:=Zbv a1;have hl:i::l=bl++m::rest:=fpk_eq (a:=[]) hf;rw[hl,Wan];have tail:=AOps.rC (n:=n) (l2:=l2) hq c7 hπ h;rw[nbO_eq a7]at tail
  unfold isPk at hip
  rw[hm]at hip
  dsimp  at hip
  split at hip
  rename_i k y z hop;have hip:=Wd hip;subst hip
  unfold pkV at hpk
  rw[hop]at hpk
  dsimp  at hpk
  split at hpk
  rename_i x1 x2 hx1 hx2;cases hpk
  by_cases hw:g3=w
  refine AOps.rC (n:=n) (l2:=m::(rest++l2)) hrun a6 gD ?_
  refine Wgm hm hdst (Z3j hg1 a4 hπ) (OpT.pick (p:=.sc (.bool x1)) hop hd2 ?_).weak ?_
  subst hw;cases g3<;>exact hx1;subst hw;rw[a1]
  refine Whp (Zack (Zacl a2)) ?_
  cases g3<;>exact tail
  have hne:(g3==w)=false:=gD
  refine AOps.skips hne hsk hd (λ_ hx=>(by cases hx)) ?_
  refine Wgm hm hdst (Z3j hg2 a5 hπ) (OpT.pick (b:=g3) (p:=.sc (.bool x2)) hop hd3 ?_).weak ?_
  cases g3<;>cases w<;>first|grind|grind
  refine Whp (Zack (Zacl a3)) ?_
  cases g3<;>cases w<;>first|exact tail|grind
  cases hpk;cases hip;cases hr;cases hr;cases hr
  split at hr
  rename_i e x hdst hg hx;simp only[Wg]at hr;obtain⟨q,hq,rfl⟩:=hr;obtain⟨a1,he⟩:=Wd7 he;obtain⟨a2,he⟩:=Wcm he;exact Wgm ho hdst (Z3j hg a1 hπ) (OpW.of_one3 hx a2 hπ) (AOps.rC hq he hπ h)
  grind
def rcO (nt:Nat) (hs:List (Nat×Hnd P G)) (cs:List (Nat×HC P G)) (ps:List (Nat×NB)) (Z:Cf):Option (Cf×Eqs):=match nf 1000 Z.fs with
 |.reg _ ops d fs=>match d with
  |false=>(rC nt ops hs cs ps 1000 none (List.range ops.size) Z.st Z.H).map λr=>(⟨fs,r.1,r.2.1⟩,r.2.2)
  |true=>none
 |_=>none
def SW.rc (hs:List (Nat×Hnd P G)) (cs:List (Nat×HC P G)) (ps:List (Nat×NB)) (k:SW P G n0 nt [] F Q (zZ (rcO nt (E++hs) cs ps Z))) (ok:zL (rcO nt (E++hs) cs ps Z)=zR (rcO nt (E++hs) cs ps Z):=by kernel_rfl):SW P G n0 nt E F Q Z:=.mk λr hr=>by
 obtain⟨x,h1,h2⟩:=Z88 ok;have h3:=k.run r hr;rw[h1]at h3
 refine nf_ok 1000 _ ?_
 unfold rcO at h1
 split at h1
 rename_i hn;rw[hn]
 split at h1
 simp only[Wg]at h1;obtain⟨y,h4,rfl⟩:=h1
 refine Whb rfl ?_
 have:=AOps.rC (n0:=n0) (l2:=[]) h4 h2 (λ_ h=>(by cases h)) (Wgi h3)
 rwa [War]at this
 cases h1
 grind
def SW.bi {α:Type} {l:List α} {j:Int} {f:α→Option A} (i:Nat) (row:α→List PV) (k:∀ {z:α} {h:AM.idx l j=some z},SW P G n0 nt (E++[(i,Hnd.idx row h)]) (f z) Q Z):SW P G n0 nt E ((AM.idx l j).bind f) Q Z:=.mk λr hr=>
 let ⟨v,h1,h2⟩:=bindb hr
 (k (z:=v) (h:=h1)).run r h2
def SW.v {e:B} {f:B→Option A} (k:SW P G n0 nt E (f e) Q Z):SW P G n0 nt E ((some e).bind f) Q Z:=k
section
variable {C:Type} {b:Bool} {x:Option C} {g:C→Option B} {Y:Option B} {f:B→Option A}
def SW.gt [Inhabited C] (k:∀ v,(b=true→x=some v)→SW P G n0 nt E ((if b=true then g v else Y).bind f) Q Z):SW P G n0 nt E ((if b=true then x.bind g else Y).bind f) Q Z:=by
 refine .mk λr hr=>?_
 cases b;exact(k default (λh=>by cases h)).run r hr;cases x;cases hr;rename_i v;exact(k v (λ_=>rfl)).run r hr
def SW.ge [Inhabited C] (k:∀ v,(b=false→x=some v)→SW P G n0 nt E ((if b=true then Y else g v).bind f) Q Z):SW P G n0 nt E ((if b=true then Y else x.bind g).bind f) Q Z:=by
 refine .mk λr hr=>?_
 cases b with
 |true=>exact(k default (λh=>by cases h)).run r hr
 |false=>
  cases x;cases hr;rename_i v;exact(k v (λ_=>rfl)).run r hr
def SW.gl {e:C} (k:∀ v,e=v→SW P G n0 nt E ((if b=true then g v else Y).bind f) Q Z):SW P G n0 nt E ((if b=true then(some e).bind g else Y).bind f) Q Z:=k e rfl
def SW.gm {e:C} (k:∀ v,e=v→SW P G n0 nt E ((if b=true then Y else g v).bind f) Q Z):SW P G n0 nt E ((if b=true then Y else(some e).bind g).bind f) Q Z:=k e rfl
def SW.gv {c d:B} (k:∀ v,(bif b then c else d)=v→SW P G n0 nt E (f v) Q Z):SW P G n0 nt E ((if b=true then some c else some d).bind f) Q Z:=by
 grind
def SW.gw {c d:B} (k:SW P G n0 nt E (f (bif b then c else d)) Q Z):SW P G n0 nt E ((if b=true then some c else some d).bind f) Q Z:=SW.gv λ_ h=>h▸k
end
def cdO (G:Glob) (Z:Cf):Option (PV×Cf×Cf):=match nf 1000 Z.fs with
 |.cond x a b fs=>(opd G Z.st x).map λp=>(p,⟨.c a::fs,Z.st,Z.H⟩,⟨.c b::fs,Z.st,Z.H⟩)
 |_=>none
def cdP (r:Option (PV×Cf×Cf)):Option PV:=match r with|some r=>some r.1|none=>none
def cdT (r:Option (PV×Cf×Cf)):Cf:=match r with|some r=>r.2.1|none=>⟨[],[],[]⟩
def cdF (r:Option (PV×Cf×Cf)):Cf:=match r with|some r=>r.2.2|none=>⟨[],[],[]⟩
def cd_ok {b:Bool} (ok:cdP (cdO G Z)=some (.sc (.bool b))) {q:Exit→St→List Blk→Prop} (h1:b=true→runF P G n0 nt q (cdT (cdO G Z)).fs .normal (cdT (cdO G Z)).st (cdT (cdO G Z)).H)
  (h2:b=false→runF P G n0 nt q (cdF (cdO G Z)).fs .normal (cdF (cdO G Z)).st (cdF (cdO G Z)).H):runF P G n0 nt q Z.fs .normal Z.st Z.H:=by
 refine nf_ok 1000 _ ?_
 unfold cdO at ok h1 h2
 split at ok
 rename_i hn
 simp  [hn]at h1 h2
 rw[hn];rename_i x a b' fs;cases hx:opd G Z.st x;rw[hx]at ok;simp[cdP]at ok;rw[hx]at ok h1 h2;cases ok;exact AWP.cond hx h1 h2;simp[cdP]at ok
def SW.i {b:Bool} (h1:SW P G n0 nt [] X Q (cdT (cdO G Z))) (h2:SW P G n0 nt [] Y Q (cdF (cdO G Z))) (ok:cdP (cdO G Z)=some (.sc (.bool b)):=by kernel_rfl):SW P G n0 nt E (if b=true then X else Y) Q Z:=.mk λr hr=>
 cd_ok ok (λhb=>h1.run r (ifT hr hb)) λhb=>h2.run r (ifF hr hb)
def SW.t (h1:SW P G n0 nt [] F Q (cdT (cdO G Z))) (ok:cdP (cdO G Z)=some (.sc (.bool true)):=by kernel_rfl):SW P G n0 nt E F Q Z:=.mk λr hr=>
 cd_ok ok (λ_=>h1.run r hr) λhb=>gD
def SW.f (h1:SW P G n0 nt [] F Q (cdF (cdO G Z))) (ok:cdP (cdO G Z)=some (.sc (.bool false)):=by kernel_rfl):SW P G n0 nt E F Q Z:=.mk λr hr=>
 cd_ok ok (λhb=>gD) λ_=>h1.run r hr
def SW.z (t:Zt G n0 nt) (k:SW P G n0 nt [] F Q (tZ (ztO t Z))) (ok:tL (ztO t Z)=tR (ztO t Z):=by kernel_rfl) (hc:hasC Z.fs=true:=by kernel_rfl):SW P G n0 nt E F Q Z:=.mk λr hr=>by
 obtain⟨h1,h2⟩:=ztO_le ok;have h3:=k.run r hr;rw[h2]at h3;exact Z86 hc h1 h3
def SW.y {Qm:A→En} (t:Zt G n0 nt) (k:SW P G n0 nt [] F (mdQ G n0 nt Qm) (tZ (ztO t Z))) (ok:tL (ztO t Z)=tR (ztO t Z):=by kernel_rfl):SW P G n0 nt E F (mdQ G n0 nt Qm) Z:=.mk λr hr=>by
 obtain⟨h1,h2⟩:=ztO_le ok;have h3:=k.run r hr;rw[h2]at h3;exact LeC.run (LeC.leq _) _ _ _ _ _ _ h1 h3
def SW.w {σ:Type} {id n:Nat} {L:Nat→σ→Option A} {hd:σ→St×List Blk} {Qm:A→En} (t:Zt G n0 nt) (k:SW P G n0 nt [] F (lpQ G n0 nt id L hd n Qm) (tZ (ztO t Z))) (ok:tL (ztO t Z)=tR (ztO t Z):=by kernel_rfl):SW P G n0 nt E F (lpQ G n0 nt id L hd n Qm) Z:=.mk λr hr=>by
 obtain⟨h1,h2⟩:=ztO_le ok;have h3:=k.run r hr;rw[h2]at h3;exact LeC.run (LeC.round (LeC.leq _)) _ _ _ _ _ _ h1 h3
variable {C:Type} {f:C→Option A} {V:Option C}
def mdC (d:Nat) (Z:Cf):Option (Code×List Fr):=match unr 1000 d Z.fs with
 |f::fs=>match f with
  |.c x=>some (x,fs)
  |_=>none
 |[]=>none
def mdZ (d:Nat) (Z:Cf):Cf:=match mdC d Z with|some r=>⟨[.c r.1],Z.st,Z.H⟩|none=>⟨[],[],[]⟩
def mdT (d:Nat) (Z:Cf):List Fr:=match mdC d Z with|some r=>r.2|none=>[]
def SW.m (d:Nat) (q:C→Q1) (h:SW P G n0 nt [] V (mdQ G n0 nt λa=>(q a).en Z) (mdZ d Z)) (k:∀ a,Aft P G n0 nt (f a) Q (mdT d Z) ((q a).en Z)) (ok:(mdC d Z).isSome=true:=by kernel_rfl):SW P G n0 nt E (V.bind f) Q Z:=.mk λr hr=>by
 obtain⟨a,h1,h2⟩:=bindb hr
 refine unr_ok 1000 d _ ?_
 have h3:=h.run a h1
 have h4:=λe st H hs=>(k a).run e st H hs r h2
 unfold mdZ at h3
 unfold mdT at h4
 cases hm:mdC d Z;rw[hm]at ok;cases ok;rw[hm]at h3 h4
 unfold mdC at hm
 split at hm
 rename_i hu
 split at hm
 cases hm;rw[hu];exact AWP.mid ((q a).en Z).sat h3 h4;cases hm
 grind
def lpC (Z:Cf):Option (Nat×Code×List Fr):=match nf 1000 Z.fs with|.loop id x fs=>some (id,x,fs)|_=>none
def lpI (Z:Cf):Nat:=match lpC Z with|some r=>r.1|none=>0
def lpX (Z:Cf):Code:=match lpC Z with|some r=>r.2.1|none=>.skip
def lpT (Z:Cf):List Fr:=match lpC Z with|some r=>r.2.2|none=>[]
def lpO0 (G:Glob) (n0 nt:Nat) (ks:List Nat) (m:Nat) (Z:Cf):Option (List Nat×List PV×List (Option Blk)):=match lpC Z with
 |some _=>((Zt.kq ks m:Zt G n0 nt).run Z.st Z.H).map λr=>(r.1.map (·.1),r.1.map (·.2),r.2.1.map some)
 |none=>none
def kq_eq {ks:List Nat} {m:Nat} {st:St} {H:List Blk} {x:St×List Blk×List T×List T} (h:(Zt.kq ks m:Zt G n0 nt).run st H=some x):x.2.2.1=x.2.2.2:=by
 simp  [Zt.kq,Zt.kp]at h
 grind
def SW.pg {σ:Type} (ks:List Nat) (mb:Nat) (q:C→Q1) (L:Nat→σ→Option C) (hd:σ→List Ch) (s0:σ) (h0:∀ s,L 0 s=none) (h:∀ n s,SW P G n0 nt [] (L (n+1) s) (lpQ G n0 nt (lpI Z) L (λs=>tgt Z ks mb (hd s)) n λa=>(q a).en Z) ⟨[.c (lpX Z)],(tgt Z ks mb (hd s)).1,(tgt Z ks mb (hd s)).2⟩)
  (k:∀ a,Aft P G n0 nt (f a) Q (lpT Z) ((q a).en Z)) (ok:lpO0 G n0 nt ks mb Z=some ((tgt Z ks mb (hd s0)).1.map (·.1),(tgt Z ks mb (hd s0)).1.map (·.2),(tgt Z ks mb (hd s0)).2.map some)) {m:Nat} (hV:V=L m s0):SW P G n0 nt E (V.bind f) Q Z:=.mk λr hr=>by
 subst hV;obtain⟨a,h1,h2⟩:=bindb hr
 refine nf_ok 1000 _ ?_
 have h4:=λe st H hs=>(k a).run e st H hs r h2
 unfold lpT at h4
 unfold lpO0 at ok
 cases hm:lpC Z;rw[hm]at ok;cases ok;rename_i x;rw[hm]at h4
 have hi:lpI Z=x.1:=by unfold lpI;rw[hm]
 have hx:lpX Z=x.2.1:=by unfold lpX;rw[hm]
 simp only[hm,Wg,Wa9]at ok;obtain⟨y,hy,e1,e2,e3⟩:=ok
 unfold lpC at hm
 split at hm
 rename_i hu;cases hm;rw[hu]
 refine AWP.mid ((q a).en Z).sat ?_ h4
 refine AWP.le ((Zt.kq ks mb).sound hy (kq_eq hy)) ?_
 rw[St_ext e1 e2,Zbv e3]
 refine AWP.bround (λn st H=>∃ s,L n s=some a∧st=(tgt Z ks mb (hd s)).1∧H=(tgt Z ks mb (hd s)).2) m ⟨s0,h1,rfl,rfl⟩ ?_
 rintro n st H ⟨s,hs,rfl,rfl⟩;cases n;rw[h0]at hs;cases hs;rename_i n;have h5:=(h n s).run a hs;rw[hx,hi]at h5;exact h5
 grind
def cu1 {S0:Type} (f:Nat→S0→Option C) (n:Nat) (s:S0):Option C:=f n s
def SW.p1 {S0:Type} {L:Nat→S0→Option C} {m:Nat} {e0:S0} (ks:List Nat) (mb:Nat) (hd:S0→List Ch) (q:C→Q1)
  (h:∀ n u0,SW P G n0 nt [] (L (n+1) u0) (lpQ G n0 nt (lpI Z) (cu1 L) (λs=>tgt Z ks mb (hd s)) n λa=>(q a).en Z) ⟨[.c (lpX Z)],(tgt Z ks mb (hd u0)).1,(tgt Z ks mb (hd u0)).2⟩)
  (k:∀ a,Aft P G n0 nt (f a) Q (lpT Z) ((q a).en Z)) (h0:∀ u0,L 0 u0=none:=by exact λ_=>rfl) (ok:lpO0 G n0 nt ks mb Z=some ((tgt Z ks mb (hd e0)).1.map (·.1),(tgt Z ks mb (hd e0)).1.map (·.2),(tgt Z ks mb (hd e0)).2.map some):=by kernel_rfl):SW P G n0 nt E ((L m e0).bind f) Q Z:=
 SW.pg ks mb q (cu1 L) (λs=>(hd s)) e0 (λs=>h0 s) (λn s=>h n s) k ok rfl
def cu2 {S0 S1:Type} (f:Nat→S0→S1→Option C) (n:Nat) (s:S0×S1):Option C:=f n s.1 s.2
def SW.p2 {S0 S1:Type} {L:Nat→S0→S1→Option C} {m:Nat} {e0:S0} {e1:S1} (ks:List Nat) (mb:Nat) (hd:S0→S1→List Ch) (q:C→Q1)
  (h:∀ n u0 u1,SW P G n0 nt [] (L (n+1) u0 u1) (lpQ G n0 nt (lpI Z) (cu2 L) (λs=>tgt Z ks mb (hd s.1 s.2)) n λa=>(q a).en Z) ⟨[.c (lpX Z)],(tgt Z ks mb (hd u0 u1)).1,(tgt Z ks mb (hd u0 u1)).2⟩)
  (k:∀ a,Aft P G n0 nt (f a) Q (lpT Z) ((q a).en Z)) (h0:∀ u0 u1,L 0 u0 u1=none:=by exact λ_ _=>rfl) (ok:lpO0 G n0 nt ks mb Z=some ((tgt Z ks mb (hd e0 e1)).1.map (·.1),(tgt Z ks mb (hd e0 e1)).1.map (·.2),(tgt Z ks mb (hd e0 e1)).2.map some):=by kernel_rfl):SW P G n0 nt E ((L m e0 e1).bind f) Q Z:=
 SW.pg ks mb q (cu2 L) (λs=>(hd s.1 s.2)) (e0,e1) (λs=>h0 s.1 s.2) (λn s=>h n s.1 s.2) k ok rfl
def cu3 {S0 S1 S2:Type} (f:Nat→S0→S1→S2→Option C) (n:Nat) (s:S0×S1×S2):Option C:=f n s.1 s.2.1 s.2.2
def SW.p3 {S0 S1 S2:Type} {L:Nat→S0→S1→S2→Option C} {m:Nat} {e0:S0} {e1:S1} {e2:S2} (ks:List Nat) (mb:Nat) (hd:S0→S1→S2→List Ch) (q:C→Q1)
  (h:∀ n u0 u1 u2,SW P G n0 nt [] (L (n+1) u0 u1 u2) (lpQ G n0 nt (lpI Z) (cu3 L) (λs=>tgt Z ks mb (hd s.1 s.2.1 s.2.2)) n λa=>(q a).en Z) ⟨[.c (lpX Z)],(tgt Z ks mb (hd u0 u1 u2)).1,(tgt Z ks mb (hd u0 u1 u2)).2⟩)
  (k:∀ a,Aft P G n0 nt (f a) Q (lpT Z) ((q a).en Z)) (h0:∀ u0 u1 u2,L 0 u0 u1 u2=none:=by exact λ_ _ _=>rfl) (ok:lpO0 G n0 nt ks mb Z=some ((tgt Z ks mb (hd e0 e1 e2)).1.map (·.1),(tgt Z ks mb (hd e0 e1 e2)).1.map (·.2),(tgt Z ks mb (hd e0 e1 e2)).2.map some):=by kernel_rfl):SW P G n0 nt E ((L m e0 e1 e2).bind f) Q Z:=
 SW.pg ks mb q (cu3 L) (λs=>(hd s.1 s.2.1 s.2.2)) (e0,e1,e2) (λs=>h0 s.1 s.2.1 s.2.2) (λn s=>h n s.1 s.2.1 s.2.2) k ok rfl
def cu4 {S0 S1 S2 S3:Type} (f:Nat→S0→S1→S2→S3→Option C) (n:Nat) (s:S0×S1×S2×S3):Option C:=f n s.1 s.2.1 s.2.2.1 s.2.2.2
def SW.p4 {S0 S1 S2 S3:Type} {L:Nat→S0→S1→S2→S3→Option C} {m:Nat} {e0:S0} {e1:S1} {e2:S2} {e3:S3} (ks:List Nat) (mb:Nat) (hd:S0→S1→S2→S3→List Ch) (q:C→Q1)
  (h:∀ n u0 u1 u2 u3,SW P G n0 nt [] (L (n+1) u0 u1 u2 u3) (lpQ G n0 nt (lpI Z) (cu4 L) (λs=>tgt Z ks mb (hd s.1 s.2.1 s.2.2.1 s.2.2.2)) n λa=>(q a).en Z) ⟨[.c (lpX Z)],(tgt Z ks mb (hd u0 u1 u2 u3)).1,(tgt Z ks mb (hd u0 u1 u2 u3)).2⟩)
  (k:∀ a,Aft P G n0 nt (f a) Q (lpT Z) ((q a).en Z)) (h0:∀ u0 u1 u2 u3,L 0 u0 u1 u2 u3=none:=by exact λ_ _ _ _=>rfl) (ok:lpO0 G n0 nt ks mb Z=some ((tgt Z ks mb (hd e0 e1 e2 e3)).1.map (·.1),(tgt Z ks mb (hd e0 e1 e2 e3)).1.map (·.2),(tgt Z ks mb (hd e0 e1 e2 e3)).2.map some):=by kernel_rfl):SW P G n0 nt E ((L m e0 e1 e2 e3).bind f) Q Z:=
 SW.pg ks mb q (cu4 L) (λs=>(hd s.1 s.2.1 s.2.2.1 s.2.2.2)) (e0,e1,e2,e3) (λs=>h0 s.1 s.2.1 s.2.2.1 s.2.2.2) (λn s=>h n s.1 s.2.1 s.2.2.1 s.2.2.2) k ok rfl
def cu5 {S0 S1 S2 S3 S4:Type} (f:Nat→S0→S1→S2→S3→S4→Option C) (n:Nat) (s:S0×S1×S2×S3×S4):Option C:=f n s.1 s.2.1 s.2.2.1 s.2.2.2.1 s.2.2.2.2
def SW.p5 {S0 S1 S2 S3 S4:Type} {L:Nat→S0→S1→S2→S3→S4→Option C} {m:Nat} {e0:S0} {e1:S1} {e2:S2} {e3:S3} {e4:S4} (ks:List Nat) (mb:Nat) (hd:S0→S1→S2→S3→S4→List Ch) (q:C→Q1)
  (h:∀ n u0 u1 u2 u3 u4,SW P G n0 nt [] (L (n+1) u0 u1 u2 u3 u4) (lpQ G n0 nt (lpI Z) (cu5 L) (λs=>tgt Z ks mb (hd s.1 s.2.1 s.2.2.1 s.2.2.2.1 s.2.2.2.2)) n λa=>(q a).en Z) ⟨[.c (lpX Z)],(tgt Z ks mb (hd u0 u1 u2 u3 u4)).1,(tgt Z ks mb (hd u0 u1 u2 u3 u4)).2⟩)
  (k:∀ a,Aft P G n0 nt (f a) Q (lpT Z) ((q a).en Z)) (h0:∀ u0 u1 u2 u3 u4,L 0 u0 u1 u2 u3 u4=none:=by exact λ_ _ _ _ _=>rfl) (ok:lpO0 G n0 nt ks mb Z=some ((tgt Z ks mb (hd e0 e1 e2 e3 e4)).1.map (·.1),(tgt Z ks mb (hd e0 e1 e2 e3 e4)).1.map (·.2),(tgt Z ks mb (hd e0 e1 e2 e3 e4)).2.map some):=by kernel_rfl):SW P G n0 nt E ((L m e0 e1 e2 e3 e4).bind f) Q Z:=
 SW.pg ks mb q (cu5 L) (λs=>(hd s.1 s.2.1 s.2.2.1 s.2.2.2.1 s.2.2.2.2)) (e0,e1,e2,e3,e4) (λs=>h0 s.1 s.2.1 s.2.2.1 s.2.2.2.1 s.2.2.2.2) (λn s=>h n s.1 s.2.1 s.2.2.1 s.2.2.2.1 s.2.2.2.2) k ok rfl
def cu6 {S0 S1 S2 S3 S4 S5:Type} (f:Nat→S0→S1→S2→S3→S4→S5→Option C) (n:Nat) (s:S0×S1×S2×S3×S4×S5):Option C:=f n s.1 s.2.1 s.2.2.1 s.2.2.2.1 s.2.2.2.2.1 s.2.2.2.2.2
def SW.p6 {S0 S1 S2 S3 S4 S5:Type} {L:Nat→S0→S1→S2→S3→S4→S5→Option C} {m:Nat} {e0:S0} {e1:S1} {e2:S2} {e3:S3} {e4:S4} {e5:S5} (ks:List Nat) (mb:Nat) (hd:S0→S1→S2→S3→S4→S5→List Ch) (q:C→Q1)
  (h:∀ n u0 u1 u2 u3 u4 u5,SW P G n0 nt [] (L (n+1) u0 u1 u2 u3 u4 u5) (lpQ G n0 nt (lpI Z) (cu6 L) (λs=>tgt Z ks mb (hd s.1 s.2.1 s.2.2.1 s.2.2.2.1 s.2.2.2.2.1 s.2.2.2.2.2)) n λa=>(q a).en Z) ⟨[.c (lpX Z)],(tgt Z ks mb (hd u0 u1 u2 u3 u4 u5)).1,(tgt Z ks mb (hd u0 u1 u2 u3 u4 u5)).2⟩)
  (k:∀ a,Aft P G n0 nt (f a) Q (lpT Z) ((q a).en Z)) (h0:∀ u0 u1 u2 u3 u4 u5,L 0 u0 u1 u2 u3 u4 u5=none:=by exact λ_ _ _ _ _ _=>rfl) (ok:lpO0 G n0 nt ks mb Z=some ((tgt Z ks mb (hd e0 e1 e2 e3 e4 e5)).1.map (·.1),(tgt Z ks mb (hd e0 e1 e2 e3 e4 e5)).1.map (·.2),(tgt Z ks mb (hd e0 e1 e2 e3 e4 e5)).2.map some):=by kernel_rfl):SW P G n0 nt E ((L m e0 e1 e2 e3 e4 e5).bind f) Q Z:=
 SW.pg ks mb q (cu6 L) (λs=>(hd s.1 s.2.1 s.2.2.1 s.2.2.2.1 s.2.2.2.2.1 s.2.2.2.2.2)) (e0,e1,e2,e3,e4,e5) (λs=>h0 s.1 s.2.1 s.2.2.1 s.2.2.2.1 s.2.2.2.2.1 s.2.2.2.2.2) (λn s=>h n s.1 s.2.1 s.2.2.1 s.2.2.2.1 s.2.2.2.2.1 s.2.2.2.2.2) k ok rfl
def cu7 {S0 S1 S2 S3 S4 S5 S6:Type} (f:Nat→S0→S1→S2→S3→S4→S5→S6→Option C) (n:Nat) (s:S0×S1×S2×S3×S4×S5×S6):Option C:=f n s.1 s.2.1 s.2.2.1 s.2.2.2.1 s.2.2.2.2.1 s.2.2.2.2.2.1 s.2.2.2.2.2.2
def SW.p7 {S0 S1 S2 S3 S4 S5 S6:Type} {L:Nat→S0→S1→S2→S3→S4→S5→S6→Option C} {m:Nat} {e0:S0} {e1:S1} {e2:S2} {e3:S3} {e4:S4} {e5:S5} {e6:S6} (ks:List Nat) (mb:Nat) (hd:S0→S1→S2→S3→S4→S5→S6→List Ch) (q:C→Q1)
  (h:∀ n u0 u1 u2 u3 u4 u5 u6,SW P G n0 nt [] (L (n+1) u0 u1 u2 u3 u4 u5 u6) (lpQ G n0 nt (lpI Z) (cu7 L) (λs=>tgt Z ks mb (hd s.1 s.2.1 s.2.2.1 s.2.2.2.1 s.2.2.2.2.1 s.2.2.2.2.2.1 s.2.2.2.2.2.2)) n λa=>(q a).en Z) ⟨[.c (lpX Z)],(tgt Z ks mb (hd u0 u1 u2 u3 u4 u5 u6)).1,(tgt Z ks mb (hd u0 u1 u2 u3 u4 u5 u6)).2⟩)
  (k:∀ a,Aft P G n0 nt (f a) Q (lpT Z) ((q a).en Z)) (h0:∀ u0 u1 u2 u3 u4 u5 u6,L 0 u0 u1 u2 u3 u4 u5 u6=none:=by exact λ_ _ _ _ _ _ _=>rfl) (ok:lpO0 G n0 nt ks mb Z=some ((tgt Z ks mb (hd e0 e1 e2 e3 e4 e5 e6)).1.map (·.1),(tgt Z ks mb (hd e0 e1 e2 e3 e4 e5 e6)).1.map (·.2),(tgt Z ks mb (hd e0 e1 e2 e3 e4 e5 e6)).2.map some):=by kernel_rfl):SW P G n0 nt E ((L m e0 e1 e2 e3 e4 e5 e6).bind f) Q Z:=
 SW.pg ks mb q (cu7 L) (λs=>(hd s.1 s.2.1 s.2.2.1 s.2.2.2.1 s.2.2.2.2.1 s.2.2.2.2.2.1 s.2.2.2.2.2.2)) (e0,e1,e2,e3,e4,e5,e6) (λs=>h0 s.1 s.2.1 s.2.2.1 s.2.2.2.1 s.2.2.2.2.1 s.2.2.2.2.2.1 s.2.2.2.2.2.2) (λn s=>h n s.1 s.2.1 s.2.2.1 s.2.2.2.1 s.2.2.2.2.1 s.2.2.2.2.2.1 s.2.2.2.2.2.2) k ok rfl
def cu8 {S0 S1 S2 S3 S4 S5 S6 S7:Type} (f:Nat→S0→S1→S2→S3→S4→S5→S6→S7→Option C) (n:Nat) (s:S0×S1×S2×S3×S4×S5×S6×S7):Option C:=f n s.1 s.2.1 s.2.2.1 s.2.2.2.1 s.2.2.2.2.1 s.2.2.2.2.2.1 s.2.2.2.2.2.2.1 s.2.2.2.2.2.2.2
def SW.p8 {S0 S1 S2 S3 S4 S5 S6 S7:Type} {L:Nat→S0→S1→S2→S3→S4→S5→S6→S7→Option C} {m:Nat} {e0:S0} {e1:S1} {e2:S2} {e3:S3} {e4:S4} {e5:S5} {e6:S6} {e7:S7} (ks:List Nat) (mb:Nat) (hd:S0→S1→S2→S3→S4→S5→S6→S7→List Ch) (q:C→Q1)
  (h:∀ n u0 u1 u2 u3 u4 u5 u6 u7,SW P G n0 nt [] (L (n+1) u0 u1 u2 u3 u4 u5 u6 u7) (lpQ G n0 nt (lpI Z) (cu8 L) (λs=>tgt Z ks mb (hd s.1 s.2.1 s.2.2.1 s.2.2.2.1 s.2.2.2.2.1 s.2.2.2.2.2.1 s.2.2.2.2.2.2.1 s.2.2.2.2.2.2.2)) n λa=>(q a).en Z) ⟨[.c (lpX Z)],(tgt Z ks mb (hd u0 u1 u2 u3 u4 u5 u6 u7)).1,(tgt Z ks mb (hd u0 u1 u2 u3 u4 u5 u6 u7)).2⟩)
  (k:∀ a,Aft P G n0 nt (f a) Q (lpT Z) ((q a).en Z)) (h0:∀ u0 u1 u2 u3 u4 u5 u6 u7,L 0 u0 u1 u2 u3 u4 u5 u6 u7=none:=by exact λ_ _ _ _ _ _ _ _=>rfl) (ok:lpO0 G n0 nt ks mb Z=some ((tgt Z ks mb (hd e0 e1 e2 e3 e4 e5 e6 e7)).1.map (·.1),(tgt Z ks mb (hd e0 e1 e2 e3 e4 e5 e6 e7)).1.map (·.2),(tgt Z ks mb (hd e0 e1 e2 e3 e4 e5 e6 e7)).2.map some):=by kernel_rfl):SW P G n0 nt E ((L m e0 e1 e2 e3 e4 e5 e6 e7).bind f) Q Z:=
 SW.pg ks mb q (cu8 L) (λs=>(hd s.1 s.2.1 s.2.2.1 s.2.2.2.1 s.2.2.2.2.1 s.2.2.2.2.2.1 s.2.2.2.2.2.2.1 s.2.2.2.2.2.2.2)) (e0,e1,e2,e3,e4,e5,e6,e7) (λs=>h0 s.1 s.2.1 s.2.2.1 s.2.2.2.1 s.2.2.2.2.1 s.2.2.2.2.2.1 s.2.2.2.2.2.2.1 s.2.2.2.2.2.2.2) (λn s=>h n s.1 s.2.1 s.2.2.1 s.2.2.2.1 s.2.2.2.2.1 s.2.2.2.2.2.1 s.2.2.2.2.2.2.1 s.2.2.2.2.2.2.2) k ok rfl
def atZ (Z:Cf):Option (Exit×List Nat×List PV×List (Option Blk)):=match nf 1000 Z.fs with
 |.fin e=>some (e,Z.st.map (·.1),Z.st.map (·.2),Z.H.map some)
 |_=>none
def atX (id:Nat) (Z:Cf):Option (Exit×List Nat×List PV×List (Option Blk)):=match nf 1000 Z.fs with
 |.fin e=>match e with
  |.exit j=>some (match Nat.beq j id with|true=>.normal|false=>.exit j,Z.st.map (·.1),Z.st.map (·.2),Z.H.map some)
  |_=>none
 |_=>none
def atN (Z:Cf):Option (List Nat×List PV×List (Option Blk)):=match nf 1000 Z.fs with
 |.fin e=>match e with
  |.normal=>some (Z.st.map (·.1),Z.st.map (·.2),Z.H.map some)
  |_=>none
 |_=>none
def enO:En→Option (Exit×List Nat×List PV×List (Option Blk))
 |.at e st H=>some (e,st.map (·.1),st.map (·.2),H.map some)
 |.q _=>none
def SW.k0 {Qm:A→En} {v:A} (ok:(enO (Qm v),true)=(atZ Z,(atZ Z).isSome):=by kernel_rfl):SW P G n0 nt E (some v) (mdQ G n0 nt Qm) Z:=.mk λr hr=>by
 cases hr
 simp at ok
 obtain⟨o1,o2⟩:=ok
 unfold atZ at o1 o2
 refine nf_ok 1000 _ ?_
 cases hn:nf 1000 Z.fs with
 |fin e=>
  simp  [hn]at o1
  show LeQ G n0 nt (Qm v).sat e Z.st Z.H
  cases hq:Qm v with
  |q Q=>rw[hq]at o1;simp[enO]at o1
  |_ e' st H=>
   rw[hq]at o1
   simp  [enO,Wn,Wa9]at o1
   obtain⟨rfl,e1,e2,e3⟩:=o1;exact Wbu ⟨rfl,(St_ext e1 e2).symm,(Zbv e3).symm⟩
 |_=>grind
def SW.u0 {σ:Type} {id n:Nat} {L:Nat→σ→Option A} {hd:σ→St×List Blk} {Qm:A→En} {v:A} (ok:(enO (Qm v),true)=(atX id Z,(atX id Z).isSome):=by kernel_rfl):SW P G n0 nt E (some v) (lpQ G n0 nt id L hd n Qm) Z:=.mk λr hr=>by
 cases hr
 simp at ok
 obtain⟨o1,o2⟩:=ok
 unfold atX at o1 o2
 refine nf_ok 1000 _ ?_
 cases hn:nf 1000 Z.fs with
 |fin e=>cases e with
  |exit j=>
   simp  [hn]at o1
   unfold Nf.ok lpQ;simp  [roundQ]
   cases hq:Qm v with
   |q Q=>rw[hq]at o1;simp[enO]at o1
   |_ e' st H=>
    rw[hq]at o1
    simp  [enO,Wn,Wa9]at o1
    obtain⟨h1,e1,e2,e3⟩:=o1;cases hb:Nat.beq j id
    simp  [hb]at h1⊢;exact Wbu ⟨h1.symm,(St_ext e1 e2).symm,(Zbv e3).symm⟩
    simp  [hb]at h1⊢;exact Wbu ⟨h1.symm,(St_ext e1 e2).symm,(Zbv e3).symm⟩
  |_=>grind
 |_=>grind
def SW.xo {σ:Type} {id n:Nat} {L:Nat→σ→Option A} {hd:σ→St×List Blk} {Qm:A→En} (s:σ) (ok:some ((hd s).1.map (·.1),(hd s).1.map (·.2),(hd s).2.map some)=atN Z:=by kernel_rfl) (hF:F=L n s:=by exact rfl):SW P G n0 nt E F (lpQ G n0 nt id L hd n Qm) Z:=.mk λr hr=>by
 subst hF
 unfold atN at ok
 refine nf_ok 1000 _ ?_
 split at ok
 rename_i e hn;rw[hn]
 split at ok
 simp at ok
 exact Wbu ⟨n,Nat.lt_succ_self _,s,hr,(St_ext ok.1 ok.2.1).symm,(Zbv ok.2.2).symm⟩;cases ok
 grind
def enK:En→List Nat×Nat
 |.at _ st H=>(st.map (·.1),H.length)
 |.q _=>([],0)
def SW.k {Qm:A→En} {v:A} (ok:tL (ztO (.kq (enK (Qm v)).1 (enK (Qm v)).2:Zt G n0 nt) Z)=tR (ztO (.kq (enK (Qm v)).1 (enK (Qm v)).2:Zt G n0 nt) Z):=by kernel_rfl)
  (o2:(enO (Qm v),true)=(atZ (tZ (ztO (.kq (enK (Qm v)).1 (enK (Qm v)).2:Zt G n0 nt) Z)),(atZ (tZ (ztO (.kq (enK (Qm v)).1 (enK (Qm v)).2:Zt G n0 nt) Z))).isSome):=by kernel_rfl):SW P G n0 nt E (some v) (mdQ G n0 nt Qm) Z:=
 SW.y (.kq (enK (Qm v)).1 (enK (Qm v)).2) (SW.k0 o2) ok
def SW.u {σ:Type} {id n:Nat} {L:Nat→σ→Option A} {hd:σ→St×List Blk} {Qm:A→En} {v:A} (ok:tL (ztO (.kq (enK (Qm v)).1 (enK (Qm v)).2:Zt G n0 nt) Z)=tR (ztO (.kq (enK (Qm v)).1 (enK (Qm v)).2:Zt G n0 nt) Z):=by kernel_rfl)
  (o2:(enO (Qm v),true)=(atX id (tZ (ztO (.kq (enK (Qm v)).1 (enK (Qm v)).2:Zt G n0 nt) Z)),(atX id (tZ (ztO (.kq (enK (Qm v)).1 (enK (Qm v)).2:Zt G n0 nt) Z))).isSome):=by kernel_rfl):SW P G n0 nt E (some v) (lpQ G n0 nt id L hd n Qm) Z:=
 SW.w (.kq (enK (Qm v)).1 (enK (Qm v)).2) (SW.u0 o2) ok
def kqs (z:St×List Blk):Zt G n0 nt:=.kq (z.1.map (·.1)) z.2.length
def SW.xg {σ:Type} {id n:Nat} {L:Nat→σ→Option A} {hd:σ→St×List Blk} {Qm:A→En} (s:σ) (ok:tL (ztO (kqs (hd s):Zt G n0 nt) Z)=tR (ztO (kqs (hd s):Zt G n0 nt) Z))
  (o2:some ((hd s).1.map (·.1),(hd s).1.map (·.2),(hd s).2.map some)=atN (tZ (ztO (kqs (hd s):Zt G n0 nt) Z))) (hF:F=L n s):SW P G n0 nt E F (lpQ G n0 nt id L hd n Qm) Z:=
 SW.w (kqs (hd s)) (SW.xo s o2 hF) ok
def SW.x1 {S0:Type} {L:Nat→S0→Option A} {id n:Nat} {hd:S0→St×List Blk} {Qm:A→En} {e0:S0} (ok:tL (ztO (kqs (hd e0):Zt G n0 nt) Z)=tR (ztO (kqs (hd e0):Zt G n0 nt) Z):=by kernel_rfl)
  (o2:some ((hd e0).1.map (·.1),(hd e0).1.map (·.2),(hd e0).2.map some)=atN (tZ (ztO (kqs (hd e0):Zt G n0 nt) Z)):=by kernel_rfl):SW P G n0 nt E (L n e0) (lpQ G n0 nt id (cu1 L) hd n Qm) Z:=SW.xg e0 ok o2 rfl
def SW.x2 {S0 S1:Type} {L:Nat→S0→S1→Option A} {id n:Nat} {hd:S0×S1→St×List Blk} {Qm:A→En} {e0:S0} {e1:S1} (ok:tL (ztO (kqs (hd (e0,e1)):Zt G n0 nt) Z)=tR (ztO (kqs (hd (e0,e1)):Zt G n0 nt) Z):=by kernel_rfl)
  (o2:some ((hd (e0,e1)).1.map (·.1),(hd (e0,e1)).1.map (·.2),(hd (e0,e1)).2.map some)=atN (tZ (ztO (kqs (hd (e0,e1)):Zt G n0 nt) Z)):=by kernel_rfl):SW P G n0 nt E (L n e0 e1) (lpQ G n0 nt id (cu2 L) hd n Qm) Z:=SW.xg (e0,e1) ok o2 rfl
def SW.x3 {S0 S1 S2:Type} {L:Nat→S0→S1→S2→Option A} {id n:Nat} {hd:S0×S1×S2→St×List Blk} {Qm:A→En} {e0:S0} {e1:S1} {e2:S2} (ok:tL (ztO (kqs (hd (e0,e1,e2)):Zt G n0 nt) Z)=tR (ztO (kqs (hd (e0,e1,e2)):Zt G n0 nt) Z):=by kernel_rfl)
  (o2:some ((hd (e0,e1,e2)).1.map (·.1),(hd (e0,e1,e2)).1.map (·.2),(hd (e0,e1,e2)).2.map some)=atN (tZ (ztO (kqs (hd (e0,e1,e2)):Zt G n0 nt) Z)):=by kernel_rfl):SW P G n0 nt E (L n e0 e1 e2) (lpQ G n0 nt id (cu3 L) hd n Qm) Z:=SW.xg (e0,e1,e2) ok o2 rfl
def SW.x4 {S0 S1 S2 S3:Type} {L:Nat→S0→S1→S2→S3→Option A} {id n:Nat} {hd:S0×S1×S2×S3→St×List Blk} {Qm:A→En} {e0:S0} {e1:S1} {e2:S2} {e3:S3} (ok:tL (ztO (kqs (hd (e0,e1,e2,e3)):Zt G n0 nt) Z)=tR (ztO (kqs (hd (e0,e1,e2,e3)):Zt G n0 nt) Z):=by kernel_rfl)
  (o2:some ((hd (e0,e1,e2,e3)).1.map (·.1),(hd (e0,e1,e2,e3)).1.map (·.2),(hd (e0,e1,e2,e3)).2.map some)=atN (tZ (ztO (kqs (hd (e0,e1,e2,e3)):Zt G n0 nt) Z)):=by kernel_rfl):SW P G n0 nt E (L n e0 e1 e2 e3) (lpQ G n0 nt id (cu4 L) hd n Qm) Z:=SW.xg (e0,e1,e2,e3) ok o2 rfl
def SW.x5 {S0 S1 S2 S3 S4:Type} {L:Nat→S0→S1→S2→S3→S4→Option A} {id n:Nat} {hd:S0×S1×S2×S3×S4→St×List Blk} {Qm:A→En} {e0:S0} {e1:S1} {e2:S2} {e3:S3} {e4:S4} (ok:tL (ztO (kqs (hd (e0,e1,e2,e3,e4)):Zt G n0 nt) Z)=tR (ztO (kqs (hd (e0,e1,e2,e3,e4)):Zt G n0 nt) Z):=by kernel_rfl)
  (o2:some ((hd (e0,e1,e2,e3,e4)).1.map (·.1),(hd (e0,e1,e2,e3,e4)).1.map (·.2),(hd (e0,e1,e2,e3,e4)).2.map some)=atN (tZ (ztO (kqs (hd (e0,e1,e2,e3,e4)):Zt G n0 nt) Z)):=by kernel_rfl):SW P G n0 nt E (L n e0 e1 e2 e3 e4) (lpQ G n0 nt id (cu5 L) hd n Qm) Z:=SW.xg (e0,e1,e2,e3,e4) ok o2 rfl
def SW.x6 {S0 S1 S2 S3 S4 S5:Type} {L:Nat→S0→S1→S2→S3→S4→S5→Option A} {id n:Nat} {hd:S0×S1×S2×S3×S4×S5→St×List Blk} {Qm:A→En} {e0:S0} {e1:S1} {e2:S2} {e3:S3} {e4:S4} {e5:S5} (ok:tL (ztO (kqs (hd (e0,e1,e2,e3,e4,e5)):Zt G n0 nt) Z)=tR (ztO (kqs (hd (e0,e1,e2,e3,e4,e5)):Zt G n0 nt) Z):=by kernel_rfl)
  (o2:some ((hd (e0,e1,e2,e3,e4,e5)).1.map (·.1),(hd (e0,e1,e2,e3,e4,e5)).1.map (·.2),(hd (e0,e1,e2,e3,e4,e5)).2.map some)=atN (tZ (ztO (kqs (hd (e0,e1,e2,e3,e4,e5)):Zt G n0 nt) Z)):=by kernel_rfl):SW P G n0 nt E (L n e0 e1 e2 e3 e4 e5) (lpQ G n0 nt id (cu6 L) hd n Qm) Z:=SW.xg (e0,e1,e2,e3,e4,e5) ok o2 rfl
def SW.x7 {S0 S1 S2 S3 S4 S5 S6:Type} {L:Nat→S0→S1→S2→S3→S4→S5→S6→Option A} {id n:Nat} {hd:S0×S1×S2×S3×S4×S5×S6→St×List Blk} {Qm:A→En} {e0:S0} {e1:S1} {e2:S2} {e3:S3} {e4:S4} {e5:S5} {e6:S6} (ok:tL (ztO (kqs (hd (e0,e1,e2,e3,e4,e5,e6)):Zt G n0 nt) Z)=tR (ztO (kqs (hd (e0,e1,e2,e3,e4,e5,e6)):Zt G n0 nt) Z):=by kernel_rfl)
  (o2:some ((hd (e0,e1,e2,e3,e4,e5,e6)).1.map (·.1),(hd (e0,e1,e2,e3,e4,e5,e6)).1.map (·.2),(hd (e0,e1,e2,e3,e4,e5,e6)).2.map some)=atN (tZ (ztO (kqs (hd (e0,e1,e2,e3,e4,e5,e6)):Zt G n0 nt) Z)):=by kernel_rfl):SW P G n0 nt E (L n e0 e1 e2 e3 e4 e5 e6) (lpQ G n0 nt id (cu7 L) hd n Qm) Z:=SW.xg (e0,e1,e2,e3,e4,e5,e6) ok o2 rfl
def SW.x8 {S0 S1 S2 S3 S4 S5 S6 S7:Type} {L:Nat→S0→S1→S2→S3→S4→S5→S6→S7→Option A} {id n:Nat} {hd:S0×S1×S2×S3×S4×S5×S6×S7→St×List Blk} {Qm:A→En} {e0:S0} {e1:S1} {e2:S2} {e3:S3} {e4:S4} {e5:S5} {e6:S6} {e7:S7} (ok:tL (ztO (kqs (hd (e0,e1,e2,e3,e4,e5,e6,e7)):Zt G n0 nt) Z)=tR (ztO (kqs (hd (e0,e1,e2,e3,e4,e5,e6,e7)):Zt G n0 nt) Z):=by kernel_rfl)
  (o2:some ((hd (e0,e1,e2,e3,e4,e5,e6,e7)).1.map (·.1),(hd (e0,e1,e2,e3,e4,e5,e6,e7)).1.map (·.2),(hd (e0,e1,e2,e3,e4,e5,e6,e7)).2.map some)=atN (tZ (ztO (kqs (hd (e0,e1,e2,e3,e4,e5,e6,e7)):Zt G n0 nt) Z)):=by kernel_rfl):SW P G n0 nt E (L n e0 e1 e2 e3 e4 e5 e6 e7) (lpQ G n0 nt id (cu8 L) hd n Qm) Z:=SW.xg (e0,e1,e2,e3,e4,e5,e6,e7) ok o2 rfl
def Aft.n {fs:List Fr} {e:Exit} {st:St} {H:List Blk} (h:SW P G n0 nt [] F Q ⟨.x e::fs,st,H⟩):Aft P G n0 nt F Q fs (.at e st H):=.mk λe' st' H' hs r hr=>by
 obtain⟨rfl,rfl,rfl⟩:=hs;exact h.run r hr
def Aft.r {fs:List Fr} {v:A} {Qr:Exit→St→List Blk→Prop} (h:∀ st H,Qr .ret st H→Q v .ret st H):Aft P G n0 nt (some v) Q fs (.q Qr):=.mk λe' st' H' hs r hr=>by
 obtain⟨rfl,hs⟩:=hs;cases hr;exact Z0q (h _ _ hs)
def feO (P:Program) (rs:Array ResultVar) (n0:Nat) (any:Bool) (m:Nat) (ws:List Ow) (q:PV) (Z:Cf):Option (List T×List T):=match nf 1000 Z.fs with
 |.fin e=>match(match e with|.normal=>true|.ret=>true|_=>false)with
  |true=>match ares P Z.st Z.H rs with
   |some p=>match Nat.ble n0 m&&Nat.ble m Z.H.length&&q.ids (λj=>decide (j<m))with
    |true=>match p,q with
     |.tup ps,.tup qs=>wkL any Z.H ps qs ws
     |p,q=>wkL any Z.H [p] [q] ws
    |false=>none
   |none=>none
  |false=>none
 |_=>none
def feL (r:Option (List T×List T)):List T:=match r with|some r=>r.1|none=>[.n 0]
def feR (r:Option (List T×List T)):List T:=match r with|some r=>r.2|none=>[]
def feO_ok {rs:Array ResultVar} {any:Bool} {m:Nat} {ws:List Ow} {p1:PV} {K1:List Blk} (ok:feL (feO P rs n0 any m ws p1 Z)=feR (feO P rs n0 any m ws p1 Z)) (hK:Z.H.take m=K1) (ha:any=true→K1.all Blk.isCells=true) (hb:any=false→okOut n0 m Z.H=true) :
  ∃ e,nf 1000 Z.fs=.fin e∧(e=.normal∨e=.ret)∧FnQ P rs n0 (λp K=>p=p1∧K=K1) e Z.st Z.H:=by
 unfold feO at ok
 split at ok
 rename_i e hn
 split at ok
 have he:e=.normal∨e=.ret:=gD
 split at ok
 rename_i p hp
 split at ok
 rename_i hc;simp only[Wh]at hc
 have hw:WkG any Z.H p p1:=by
  split at ok
  rename_i ps qs;cases hr:wkL any Z.H ps qs ws;rw[hr]at ok;simp[feL,feR]at ok;rename_i x;rw[hr]at ok;exact .inr ⟨ps,qs,rfl,rfl,wkL_ok _ _ _ x hr ok⟩;cases hr:wkL any Z.H [p] [p1] ws;rw[hr]at ok;simp[feL,feR]at ok;rename_i x;rw[hr]at ok;have:=wkL_ok _ _ _ x hr ok;cases this;rename_i _ _ _ _ h1 h2;exact .inl h1
 refine⟨e,hn,he,?_⟩
 cases any with
 |true=>exact fin he p1 m hp hw hc.1.1 hc.1.2 hc.2 gD ⟨rfl,hK⟩
 |false=>exact finO he p1 m hp hw hc.1.1 hc.1.2 hc.2 (hb rfl) ⟨rfl,hK⟩
 simp[feL,feR]at ok;simp[feL,feR]at ok;simp[feL,feR]at ok;simp[feL,feR]at ok
variable {rs:Array ResultVar} {p1:A→PV} {K1:A→List Blk} {v:A}
def SW.e (m:Nat) (ws:List Ow) (ok:feL (feO P rs n0 true m ws (p1 v) Z)=feR (feO P rs n0 true m ws (p1 v) Z):=by kernel_rfl) (hK:Z.H.take m=K1 v:=by kernel_rfl) (ha:(K1 v).all Blk.isCells=true:=by kernel_rfl):SW P G n0 nt E (some v) (fnQ P rs n0 p1 K1) Z:=.mk λr hr=>by
 cases hr;obtain⟨e,h1,h2,h3⟩:=feO_ok (any:=true) ok hK (λ_=>ha) (λh=>by cases h)
 refine nf_ok 1000 _ ?_
 rw[h1];exact h3
def SW.o (m:Nat) (ws:List Ow) (ok:feL (feO P rs n0 false m ws (p1 v) Z)=feR (feO P rs n0 false m ws (p1 v) Z):=by kernel_rfl) (hK:Z.H.take m=K1 v:=by kernel_rfl) (ho:okOut n0 m Z.H=true:=by kernel_rfl):SW P G n0 nt E (some v) (fnQ P rs n0 p1 K1) Z:=.mk λr hr=>by
 cases hr;obtain⟨e,h1,h2,h3⟩:=feO_ok (any:=false) ok hK (λh=>by cases h) (λ_=>ho)
 refine nf_ok 1000 _ ?_
 rw[h1];exact h3
def SW.o3 (m:Nat) (ws:List Ow) (h6:retL m ((K1 v).drop n0)) (ok:feL (feO P rs n0 false m ws (p1 v) Z)=feR (feO P rs n0 false m ws (p1 v) Z):=by kernel_rfl) (hK:Z.H.take m=K1 v:=by kernel_rfl) (h0:((K1 v).take n0).all Blk.isCells=true:=by kernel_rfl) (h3:Nat.ble n0 m=true:=by kernel_rfl):SW P G n0 nt E (some v) (fnQ P rs n0 p1 K1) Z:=.mk λr hr=>by
 cases hr
 have ho:okOut n0 m Z.H=true:=by
  rw[←hK,Weh,Wbr (W1 h3)]at h0;simp only[okOut,h0];rw[hK];exact h6
 obtain⟨e,h1,h2,h3⟩:=feO_ok (any:=false) ok hK (λh=>by cases h) (λ_=>ho)
 refine nf_ok 1000 _ ?_
 rw[h1];exact h3
def SW.q {Qm:A→En} {p0:PV} {K0:List Blk} (m:Nat) (ws:List Ow) (hq:Qm v=.q (FnQ P rs n0 λp K=>p=p0∧K=K0)) (ok:feL (feO P rs n0 true m ws p0 Z)=feR (feO P rs n0 true m ws p0 Z):=by kernel_rfl) (hK:Z.H.take m=K0:=by kernel_rfl) (ha:K0.all Blk.isCells=true:=by kernel_rfl)
  (hr:(match nf 1000 Z.fs with|.fin e=>(match e with|.ret=>true|_=>false)|_=>false)=true:=by kernel_rfl):SW P G n0 nt E (some v) (mdQ G n0 nt Qm) Z:=.mk λr hr'=>by
 cases hr';obtain⟨e,h1,h2,h3⟩:=feO_ok (any:=true) ok hK (λ_=>ha) (λh=>by cases h)
 refine nf_ok 1000 _ ?_
 rw[h1]at hr⊢
 have he:e=.ret:=gD
 subst he
 refine Wbu ?_
 rw[hq];exact⟨rfl,h3⟩
def SW.s {σ:Type} {id n:Nat} {L:Nat→σ→Option A} {hd:σ→St×List Blk} {Qm:A→En} {p0:PV} {K0:List Blk} (m:Nat) (ws:List Ow) (hq:Qm v=.q (FnQ P rs n0 λp K=>p=p0∧K=K0)) (ok:feL (feO P rs n0 true m ws p0 Z)=feR (feO P rs n0 true m ws p0 Z):=by kernel_rfl) (hK:Z.H.take m=K0:=by kernel_rfl) (ha:K0.all Blk.isCells=true:=by kernel_rfl)
  (hr:(match nf 1000 Z.fs with|.fin e=>(match e with|.ret=>true|_=>false)|_=>false)=true:=by kernel_rfl):SW P G n0 nt E (some v) (lpQ G n0 nt id L hd n Qm) Z:=.mk λr hr'=>by
 cases hr';obtain⟨e,h1,h2,h3⟩:=feO_ok (any:=true) ok hK (λ_=>ha) (λh=>by cases h)
 refine nf_ok 1000 _ ?_
 rw[h1]at hr⊢
 have he:e=.ret:=gD
 subst he
 refine Wbu ?_
 rw[hq];exact⟨rfl,h3⟩
structure KF {A:Type} (P:Program) (G:Glob) (f:FuncId) (fn:Func) (args:List PV) (H:List Blk) (F:Option A) (p1:A→PV) (K1:A→List Blk):Prop where
 fn:P.funcs[f]? = some fn
 run:∀ r:A,F=some r→ACall P G f args H λp K=>p=p1 r∧K=K1 r
def bodyC (fn:Func):Code:=match fn.body with|some c=>c|none=>.ret
def KF.of {f:FuncId} {fn:Func} {args:List PV} {H:List Blk} (hfn:P.funcs[f]? = some fn) (h:SW P G H.length fn.ntmps [] F (fnQ P fn.results H.length p1 K1) ⟨[.c (bodyC fn)],numb 0 args,H⟩) (hnt:Nat.ble args.length fn.ntmps=true:=by kernel_rfl) (hb:fn.body.isSome=true:=by kernel_rfl):KF P G f fn args H F p1 K1:=by
 refine⟨hfn,λr hF=>?_⟩
 obtain⟨c,hc⟩:=Wap.1 hb;have h1:=h.run _ hF
 have h2:bodyC fn=c:=by unfold bodyC;rw[hc]
 rw[h2]at h1;exact ACall.body hfn hc hnt (Wc3 h1 λ_ _ _ h=>h)
def Wv:=@KF.of
def Hnd.ca {f:FuncId} {fn:Func} {args:List PV} {H:List Blk} (h:KF P G f fn args H F p1 K1) {r:A} (hr:F=some r):Hnd P G:=.call h.fn [] (h.run r hr)
def Hnd.cw {f:FuncId} {fn:Func} {args:List PV} {H:List Blk} (ws:List Ow) (h:KF P G f fn args H F p1 K1) {r:A} (hr:F=some r):Hnd P G:=.call h.fn ws (h.run r hr)
def HC.ca {f:FuncId} {fn:Func} {args:List PV} {H:List Blk} {b w:Bool} (h:KF P G f fn args H F p1 K1) {r:A} (hr:b=w→F=some r):HC P G where
 b:=b
 w:=w
 run:=callR P G f fn args H (K1 r) (p1 r) []
 sound hb:=(Hnd.ca h (hr hb)).sound
def SW.bc {Q:B→Exit→St→List Blk→Prop} {F:Option A} {fn:Func} {f0:FuncId} {args:List PV} {H:List Blk} {f:A→Option B} (i:Nat) (h:KF P G f0 fn args H F p1 K1) (k:∀ {v:A} {g:F=some v},SW P G n0 nt (E++[(i,Hnd.ca h g)]) (f v) Q Z):SW P G n0 nt E (F.bind f) Q Z:=.mk λr hr=>
 let ⟨v,h1,h2⟩:=bindb hr
 (k (v:=v) (g:=h1)).run r h2
def inQ {A:Type} (P:Program) (rs:Array ResultVar) (n0:Nat) (p1:A→PV) (K1:A→List Blk) (a:A):Exit→St→List Blk→Prop:=InQ P rs n0 (p1 a) (K1 a)
structure KI {A:Type} (P:Program) (G:Glob) (fn:Func) (args:List PV) (H:List Blk) (F:Option A) (p1:A→PV) (K1:A→List Blk):Prop where
 run:∀ r:A,F=some r→AWP P G H.length fn.ntmps (bodyC fn) (InQ P fn.results H.length (p1 r) (K1 r)) (numb 0 args) H
def KI.mk1 {fn:Func} {args:List PV} {H:List Blk} (h:SW P G H.length fn.ntmps [] F (inQ P fn.results H.length p1 K1) ⟨[.c (bodyC fn)],numb 0 args,H⟩):KI P G fn args H F p1 K1:=
 ⟨λr hF=>Wc3 (h.run r hF) λ_ _ _ h=>h⟩
def fiO (P:Program) (rs:Array ResultVar) (n0:Nat) (Z:Cf):Option PV:=match nf 1000 Z.fs with
 |.fin e=>match(match e with|.normal=>true|.ret=>true|_=>false)&&Nat.ble n0 Z.H.length with
  |true=>ares P Z.st Z.H rs
  |false=>none
 |_=>none
def fiO_ok {p1:PV} {K1:List Blk} {rs:Array ResultVar} {m:Nat} (ok:fiO P rs n0 Z=some p1) (hi:(Nat.ble n0 m&&p1.ids (λj=>decide (j<m))&&((Z.H.take m).all (Blk.farOk m)||Nat.ble Z.H.length m))=true) (hK:(Z.H.take m).map some=K1.map some):∃ e,nf 1000 Z.fs=.fin e∧(e=.normal∨e=.ret)∧InQ P rs n0 p1 K1 e Z.st Z.H:=by
 simp only[Wh,Wbz]at hi
 unfold fiO at ok
 split at ok
 rename_i e hn
 split at ok
 have he:e=.normal∨e=.ret:=gD
 refine⟨e,hn,he,he,ok,m,W1 hi.1.1,hi.1.2,?_,Zbv hK.symm⟩
 rcases hi.2 with h|h
 exact .inl h;exact .inr (W1 h);cases ok
 grind
def SW.g (m:Nat) (ok:fiO P rs n0 Z=some (p1 v):=by kernel_rfl) (hi:(Nat.ble n0 m&&(p1 v).ids (λj=>decide (j<m))&&((Z.H.take m).all (Blk.farOk m)||Nat.ble Z.H.length m))=true:=by kernel_rfl) (hK:(Z.H.take m).map some=(K1 v).map some:=by kernel_rfl):SW P G n0 nt E (some v) (inQ P rs n0 p1 K1) Z:=.mk λr hr=>by
 cases hr;obtain⟨e,h1,h2,h3⟩:=fiO_ok ok hi hK
 refine nf_ok 1000 _ ?_
 rw[h1];exact h3
def SW.gq {Qm:A→En} {p0:PV} {K0:List Blk} (m:Nat) (hq:Qm v=.q (InQ P rs n0 p0 K0)) (ok:fiO P rs n0 Z=some p0:=by kernel_rfl) (hi:(Nat.ble n0 m&&p0.ids (λj=>decide (j<m))&&((Z.H.take m).all (Blk.farOk m)||Nat.ble Z.H.length m))=true:=by kernel_rfl) (hK:(Z.H.take m).map some=K0.map some:=by kernel_rfl)
  (hr:(match nf 1000 Z.fs with|.fin e=>(match e with|.ret=>true|_=>false)|_=>false)=true:=by kernel_rfl):SW P G n0 nt E (some v) (mdQ G n0 nt Qm) Z:=.mk λr hr'=>by
 cases hr';obtain⟨e,h1,h2,h3⟩:=fiO_ok ok hi hK
 refine nf_ok 1000 _ ?_
 rw[h1]at hr⊢
 have he:e=.ret:=gD
 subst he
 refine Wbu ?_
 rw[hq];exact⟨rfl,h3⟩
def Hnd.inl {f:FuncId} {fn:Func} {args:List PV} {H0:List Blk} {p0:PV} {K0:List Blk} (hfn:P.funcs[f]? = some fn) (h:AWP P G H0.length fn.ntmps (bodyC fn) (InQ P fn.results H0.length p0 K0) (numb 0 args) H0):Hnd P G where
 run o st H:=match o.op with
  |.call cl=>match cl.callee with
   |.value x=>match opd G st x,opdL G st cl.args.toList with
    |some px,some ps=>match fn.body.isSome&&!(fn.name== "runtime.NumGoroutine")&&Nat.ble args.length fn.ntmps with
     |true=>some ⟨p0,K0,[.p px,.ps ps,.bs (H.map some)],[.p (.sc (.func (.func f) #[] #[])),.ps args,.bs (H0.map some)]⟩
     |false=>none
    |_,_=>none
   |_=>none
  |_=>none
 sound:=by
  intro n0 o st H x h1 he
  split at h1
  rename_i cl ho
  split at h1
  rename_i y hc
  split at h1
  rename_i px ps hx hps
  split at h1
  rename_i hcond;simp only[Wh,Wej]at hcond;cases h1
  simp at he
  obtain⟨rfl,rfl,e3⟩:=he;have e3:=Zbv e3;obtain⟨c,hb⟩:=Wap.1 hcond.1.1
  have h2:bodyC fn=c:=by unfold bodyC;rw[hb]
  refine OpW.inline (caps:=[]) ho hc (.inl ⟨hx,rfl⟩) hfn hb hcond.1.2 (Zm5 _ _ hps) sA gD
  cases h1;cases h1;cases h1
  grind
end
section
variable {P:Program} {G:Glob} {n0 nt:Nat} {o:Oper} {st:St} {H:List Blk}
def Hnd.dep (f:Oper→St→List Blk→Option (Hnd P G)):Hnd P G where
 run o st H:=match f o st H with
  |some k=>k.run o st H
  |none=>none
 sound:=by
  intro n0 o st H x h he
  split at h
  exact Hnd.sound _ h he;cases h
def Hnd.or (a b:Hnd P G):Hnd P G where
 run o st H:=match a.run o st H with
  |some x=>some x
  |none=>b.run o st H
 sound:=by
  intro n0 o st H x h he
  split at h
  rename_i h1;cases h;exact a.sound h1 he;exact b.sound h he
def Hnd.fn (f:Oper→St→List Blk→Option (PV×List Blk)) (hf:∀ {n0:Nat} {o:Oper} {st:St} {H:List Blk} {r:PV×List Blk},f o st H=some r→OpW P G n0 o st H r.1 r.2):Hnd P G where
 run o st H:=(f o st H).map λr=>⟨r.1,r.2,[],[]⟩
 sound:=by
  intro n0 o st H x h _;obtain⟨r,h1,rfl⟩:=Wg.1 h
  grind
def xhB:List PV→List Blk→List Blk
 |[],H=>H
 |p::ps,H=>match p with
  |.own i _=>match H[i]? with
   |some (.buf s t xs _)=>xhB ps (H.set i (.buf s t xs true))
   |_=>xhB ps H
  |_=>xhB ps H
def xhB_ok {c:Ctx} {a:Act} {w:World} {β:List Bnd}:∀ ps {H:List Blk},RelB G c β st H a w→RelB G c β st (xhB ps H) a w
 |[],_,h=>h
 |p::ps,H,h=>by
  unfold xhB;split;split;rename_i hb;exact xhB_ok ps (h.share hb);exact xhB_ok ps h;exact xhB_ok ps h
def shP (H:List Blk):PV→PV
 |.agg cs=>.agg (cs.map (wkP H))
 |p=>wkP H p
def cellsP:PV→List PV
 |.agg cs=>cs
 |p=>[p]
def shP_ok {c:Ctx} {a:Act} {w:World} {β:List Bnd} (h:RelB G c β st H a w) {p:PV} {u:Value} (hp:VR (stab c β H w) β w p u):VR (stab c β H w) β w (shP H p) u:=by
 unfold shP;split;obtain⟨us,e,hu⟩:=hp
 refine⟨us,e,h.wks ?_ _ hu⟩
 rename_i cs;clear hu
 induction cs with
 |nil=>exact .nil
 |cons p ps ih=>exact .cons _ _ _ _ (wkP_wk H p) ih
 exact h.wk hp (wkP_wk H _)
def Hnd.shr (k:Hnd P G):Hnd P G where
 run o st H:=match xhB ((st.pick (readsOf o)).flatMap λx=>cellsP x.2) H with
  |H1=>k.run o ((st.pick (readsOf o)).map λx=>(x.1,shP H1 x.2)) H1
 sound:=by
  intro n0 o st H x h he
  refine OpW.pre (λc a w β hr=>?_) (k.sound h he)
  have h1:=xhB_ok ((st.pick (readsOf o)).flatMap λx=>cellsP x.2) (hr.sub (Wcw (readsOf o) st))
  refine⟨β,h1.ok,h1.len,h1.pre,h1.blk,h1.inj,h1.loc,h1.cel,λx hx=>?_,h1.nt,h1.dfr,h1.frm,h1.gh⟩
  obtain⟨y,hy,rfl⟩:=Wah.1 hx;exact⟨(h1.slots y hy).1,shP_ok h1 (h1.slots y hy).2⟩
def owx (P:Program) (G:Glob) (o:Oper) (st:St) (H:List Blk):Option (PV×List Blk):=match o.op with
 |.indexAddr t x y=>match P.underlying t,opd G st x,opd G st y with
  |some (.slice e),some (.ow i n a b),some (.sc (.int _ j))=>match H[i]? with
   |some (.buf s _ xs _)=>if n=xs.length∧P.cellsOf e=s∧s≠0∧0≤j∧j<(b-a:Nat)then some (.ept i n (a+j.toNat) 0,H)else none
   |_=>none
  |_,_,_=>none
 |.nilCheck x=>match opd G st x with
  |some (.ept i n k off)=>match H[i]? with
   |some (.buf _ _ xs _)=>if n=xs.length then some (.ept i n k off,H)else none
   |_=>none
  |_=>none
 |.call cl=>match cl with
  |{callee:=.builtin .len,args:=⟨[x]⟩,argTypes:=⟨[T0]⟩}=>match P.underlying T0,opd G st x with
   |some (.slice _),some (.ow i n a b)=>match H[i]? with
    |some (.buf _ _ xs _)=>if n=xs.length then some (.sc (.int .i64 (b-a:Nat)),H)else none
    |_=>none
   |_,_=>none
  |_=>none
 |.slice t x lo hi none=>match P.underlying t,opd G st x,loOf G st lo with
  |some (.slice e),some (.own i n),some l=>match H[i]?,hiOf G st n hi with
   |some (.buf s _ xs _),some h=>if n=xs.length∧P.cellsOf e=s∧s≠0∧0≤l∧h≤n then(if l<h then some (.ow i n l.toNat h.toNat,H)else if l=h then some (.sl s [],H)else none)else none
   |_,_=>none
  |some (.slice e),some (.ow i n a b),some l=>match H[i]?,hiOf G st (b-a) hi with
   |some (.buf s _ xs _),some h=>if n=xs.length∧P.cellsOf e=s∧s≠0∧0≤l∧h≤(b-a:Nat)∧a<b then(if l<h then some (.ow i n (a+l.toNat) (a+h.toNat),H)else if l=h then some (.sl s [],H)else none)else none
   |_,_=>none
  |_,_,_=>none
 |_=>none
def OpT.owx {r:PV×List Blk} (h:owx P G o st H=some r):OpT P G n0 o st H r.1 r.2:=by
 unfold AM.owx at h
 split at h
 rename_i ho
 split at h
 rename_i hu hx hy
 split at h
 rename_i hb
 split at h
 rename_i hc;cases h;exact OpT.index_ow ho hu hc.2.1 hc.2.2.1 hx hb hc.1 hy hc.2.2.2.1 hc.2.2.2.2;cases h;cases h;cases h;rename_i ho
 split at h
 rename_i hx
 split at h
 rename_i hb
 split at h
 rename_i hc;cases h;exact OpT.nilCheck_ept ho hx hb hc;cases h;cases h;cases h;rename_i ho
 split at h
 split at h
 rename_i hu hx
 split at h
 rename_i hb
 split at h
 rename_i hc;cases h;exact OpT.len_ow ho rfl hu hx hb hc;cases h;cases h;cases h;cases h;rename_i ho
 split at h
 rename_i hu hx hl
 split at h
 rename_i hb hh
 split at h
 rename_i hc
 split at h
 cases h;exact OpT.slice_own ho hu hc.2.1 hc.2.2.1 hx hb hc.1 hl hh hc.2.2.2.1 ‹_› hc.2.2.2.2
 split at h
 rename_i e;subst e;cases h;exact Wgr ho hu hc.2.1 hc.2.2.1 hx (.inl ⟨rfl,rfl,rfl⟩) hb hc.1 hl hh hc.2.2.2.1 hc.2.2.2.2;cases h;cases h;cases h;rename_i hu hx hl
 split at h
 rename_i hb hh
 split at h
 rename_i hc
 split at h
 cases h;exact OpT.slice_ow ho hu hc.2.1 hc.2.2.1 hx hb hc.1 hc.2.2.2.2.2 hl hh hc.2.2.2.1 ‹_› hc.2.2.2.2.1
 split at h
 rename_i e;subst e;cases h;exact Wgr ho hu hc.2.1 hc.2.2.1 hx (.inr rfl) hb hc.1 hl hh hc.2.2.2.1 hc.2.2.2.2.1;cases h;cases h;cases h;cases h;cases h
def srcz (H:List Blk) (s:Nat):PV→Option (List (List PV))
 |.sl s' ys=>if s=s' then some ys else none
 |.sc (.slice none 0 0)=>some []
 |.own j m=>match H[j]? with
  |some (.buf s' _ ys _)=>if s=s'∧m=ys.length then some ys else none
  |_=>none
 |.ow j m lo hi=>match H[j]? with
  |some (.buf s' _ ys _)=>if s=s'∧m=ys.length∧lo<hi∧hi≤m then some ((ys.take hi).drop lo)else none
  |_=>none
 |_=>none
def Z89 {s:Nat} {p:PV} {ys:List (List PV)} (h:srcz H s p=some ys):Src H s p ys:=by
 unfold srcz at h
 split at h
 split at h
 rename_i e;subst e;cases h;exact .sl _;cases h;cases h;exact .nil
 split at h
 rename_i hb
 split at h
 rename_i e;obtain⟨rfl,rfl⟩:=e;cases h;exact .own _ _ _ _ hb;cases h;cases h
 split at h
 rename_i hb
 split at h
 rename_i e;obtain⟨rfl,rfl,h1,h2⟩:=e;cases h;exact .ow _ _ _ _ _ _ hb h1 h2;cases h;cases h;cases h
def apO (P:Program) (G:Glob) (cl:Call) (st:St) (H:List Blk):Option (PV×List Blk):=match cl with
 |{callee:=.builtin .append,args:=⟨[x,y]⟩,argTypes:=⟨[T0,U]⟩}=>match P.underlying T0,P.underlying U,opd G st x,opd G st y with
  |some (.slice t),some (.slice _),some (.own i n),some q=>match H[i]?,P.info? t with
   |some (.buf s t' xs sh),some ti=>match ti.zero,srcz H s q with
    |some z,some ys=>if t=t'∧n=xs.length∧ti.size=s∧z.cells.size=s∧ys.flatten.all PV.one=true∧(xs.length+ys.length)*ti.bytes≤140737488355328∧xs.length+ys.length≤140737488355328 then some (.own i (xs++ys).length,H.set i (.buf s t (xs++ys) sh))else none
    |_,_=>none
   |_,_=>none
  |_,_,_,_=>none
 |_=>none
def OpT.apO {cl:Call} (ho:o.op=.call cl) {r:PV×List Blk} (h:apO P G cl st H=some r):OpT P G n0 o st H r.1 r.2:=by
 unfold AM.apO at h
 split at h
 split at h
 rename_i h1 h2 hx hy
 split at h
 rename_i hb hi
 split at h
 rename_i hz hq
 split at h
 rename_i hc;obtain⟨rfl,rfl,c3,c4,c5,c6,c7⟩:=hc;cases h;exact OpT.append ho rfl h1 h2 hi hz c3 c4 hx hb hy (Z89 hq) c5 c6 c7;cases h;cases h;cases h;cases h;cases h
def apN (P:Program) (G:Glob) (cl:Call) (st:St) (H:List Blk):Option (PV×List Blk):=match cl with
 |{callee:=.builtin .append,args:=⟨[x,y]⟩,argTypes:=⟨[T0,U]⟩}=>match P.underlying T0,P.underlying U,opd G st x,opd G st y with
  |some (.slice t),some (.slice _),some (.sc (.slice none 0 0)),some q=>match P.info? t with
   |some ti=>match ti.zero,srcz (H++[.buf ti.size t [] false]) ti.size q with
    |some z,some ys=>match ys with
     |[]=>some (.sc (.slice none 0 0),H)
     |ys=>if z.cells.size=ti.size∧ys.flatten.all PV.one=true∧ys.length*ti.bytes≤140737488355328∧ys.length≤140737488355328 then some (.own H.length ys.length,H++[.buf ti.size t ys false])else none
    |_,_=>none
   |none=>none
  |_,_,_,_=>none
 |_=>none
def OpT.apN {cl:Call} (ho:o.op=.call cl) {r:PV×List Blk} (h:apN P G cl st H=some r):OpT P G n0 o st H r.1 r.2:=by
 unfold AM.apN at h
 split at h
 rename_i x y T0 U
 split at h
 rename_i t e q h1 h2 hx hy
 split at h
 rename_i ti hi
 split at h
 rename_i z ys hz hq
 have hb:(H++[Blk.buf ti.size t [] false])[H.length]? = some (.buf ti.size t [] false):=sM
 split at h
 cases h
 refine W4 λc a w β hn hr=>⟨.slice none 0 0,?_,by simp  [VR]⟩
 have hnil:=hr.opd hx
 simp  [VR]at hnil
 obtain⟨k1,k2⟩:=hr.own ti.size t
 have hvy:∃ ad cap,a.eval y=.slice ad 0 cap:=by
  rcases Z3e k1 (Z89 hq) (k1.opd hy)with⟨_,h2⟩|⟨b,off,cap,vals,h2,_⟩
  exact h2
  grind
 obtain⟨ad,cap,hvy⟩:=hvy;have hrun:=Zm3 (P:=P) (w:=w) (ty:=o.type) h1 hi none 0 0 ad cap (Ws _);rw[←Zy6 h1 h2 hi]at hrun;have hrun':=hrun;simp[execOp,ho,resolve,invoke,builtin,hnil,hvy,hrun']
 split at h
 rename_i hc;cases h;intro c a w β h0 hr;obtain⟨k1,k2⟩:=hr.own ti.size t
 have hvx:VR (stab c (β++[⟨0,.slice none 0 0,0,ti.size,[]⟩]) (H++[.buf ti.size t [] false]) w) (β++[⟨0,.slice none 0 0,0,ti.size,[]⟩]) w (.own H.length ([]:List (List PV)).length) (a.eval x):=by
  rw[hr.opd hx];exact⟨⟨_,_,rfl⟩,⟨0,.slice none 0 0,0,ti.size,[]⟩,by rw[←hr.len];simp,Ws _,λ_=>rfl⟩
 refine Zjp (Z3f k1 ho rfl h1 h2 hi hz rfl hc.1 hvx hb hy (Z89 hq) hc.2.1 gD gD) λv w' ⟨β',g1,g2,g3,g4⟩=>?_
 have hset:∀ b,(H++[Blk.buf ti.size t [] false]).set H.length b=H++[b]:=λb=>by
  simp
 rw[hset]at g1 g2 g4
 refine⟨β',g1,gD,λi e _ he=>?_,k2.trans g4⟩
 exact g3 i e rfl gD;cases h;cases h;cases h;cases h;cases h
end
section
variable {P:Program} {G:Glob} {n0 nt:Nat} {o:Oper} {st:St} {H:List Blk}
def mpx (P:Program) (G:Glob) (o:Oper) (st:St) (H:List Blk):Option (PV×List Blk):=match o.op with
 |.makeMap _ none=>some (.mp H.length,H++[.map [] 0])
 |.lookup t x y ok=>match P.underlying t,opd G st x,opd G st y with
  |some (.map k e),some (.mp i),some (.sc key)=>match H[i]? with
   |some (.map es _)=>(lookx P k e ok key es).map λp=>(p,H)
   |_=>none
  |_,_,_=>none
 |.mapUpdate t x y z=>match P.underlying t,opd G st x,opd G st y,opd G st z with
  |some (.map k _),some (.mp i),some (.sc key),some p=>match H[i]? with
   |some (.map es cl)=>(putx P k key p es cl).map λr=>(.sc undef,H.set i (.map r.1 r.2))
   |_=>none
  |_,_,_,_=>none
 |.call cl=>match cl with
  |{callee:=.builtin .clear,args:=⟨[x]⟩,argTypes:=⟨[T0]⟩}=>match P.underlying T0,opd G st x with
   |some (.map _ _),some (.mp i)=>match H[i]? with
    |some (.map _ ck)=>some (.sc (.tuple #[]),H.set i (.map [] ck))
    |_=>none
   |_,_=>none
  |{callee:=.builtin .len,args:=⟨[x]⟩,argTypes:=⟨[T0]⟩}=>match P.underlying T0,opd G st x with
   |some (.map _ _),some (.mp i)=>match H[i]? with
    |some (.map es _)=>some (.sc (.int .i64 es.length),H)
    |_=>none
   |_,_=>none
  |_=>none
 |.range t x=>match P.underlying t,opd G st x with
  |some (.map _ _),some (.mp i)=>match H[i]? with
   |some (.map _ ck)=>some (.ptr H.length 0,H++[.iter (some i) ck [] ck])
   |_=>none
  |_,_=>none
 |.next x false=>match opd G st x with
  |some (.ptr i 0)=>match H[i]? with
   |some (.iter (some k) since seen last)=>match H[k]? with
    |some (.map es ck)=>match stepx es since seen last with
     |some .over=>some (.sc (.tuple #[.bool false]),H)
     |some (.one seen' j)=>match es[j]? with
      |some en=>some (.tup [.sc (.bool true),.sc en.2.1,en.2.2],H.set i (.iter (some k) since seen' ck))
      |none=>none
     |none=>none
    |_=>none
   |_=>none
  |_=>none
 |.entry x=>match opd G st x with
  |some (.ptr i 0)=>match H[i]? with
   |some (.iter (some k) _ seen ck)=>match H[k]? with
    |some (.map es ck')=>if ck'=ck then(entx es seen).map λp=>(p,H)else none
    |_=>none
   |_=>none
  |_=>none
 |_=>none
def OpT.mpx {r:PV×List Blk} (h:mpx P G o st H=some r):OpT P G n0 o st H r.1 r.2:=by
 unfold AM.mpx at h
 split at h
 rename_i ho;cases h;exact OpT.makeMap ho;rename_i ho
 split at h
 rename_i ht hx hy
 split at h
 rename_i hb;obtain⟨q,hq,rfl⟩:=Wg.1 h;exact OpT.lookup ho ht hx hy hb hq;cases h;cases h;rename_i ho
 split at h
 rename_i ht hx hy hz
 split at h
 rename_i hb;obtain⟨q,hq,rfl⟩:=Wg.1 h;exact OpT.mapUpdate (.inl ho) ht hx hy hz hb hq;cases h;cases h;rename_i ho
 split at h
 split at h
 rename_i ht hx
 split at h
 rename_i hb;cases h;exact OpT.clearMap ho rfl ht hx hb;cases h;cases h
 split at h
 rename_i ht hx
 split at h
 rename_i hb;cases h;exact OpT.lenMap ho rfl ht hx hb;cases h;cases h;cases h;rename_i ho
 split at h
 rename_i ht hx
 split at h
 rename_i hb;cases h;exact OpT.rangeMap ho ht hx hb;cases h;cases h;rename_i ho
 split at h
 rename_i hx
 split at h
 rename_i hb
 split at h
 rename_i hk
 split at h
 rename_i hs;cases h;exact OpT.nextOver ho hx hb hk hs;rename_i hs
 split at h
 rename_i hj;cases h;exact OpT.nextOne ho hx hb hk hs hj;cases h;cases h;cases h;cases h;cases h;rename_i ho
 split at h
 rename_i hx
 split at h
 rename_i hb
 split at h
 rename_i hk
 split at h
 rename_i e;subst e;obtain⟨q,hq,rfl⟩:=Wg.1 h;exact OpT.entry ho hx hb hk hq;cases h;cases h;cases h;cases h;cases h
def Now (w:World) (b _:Nat):Prop:=b<w.heap.size
def fz1 (H:List Blk) (p:PV):PV:=match p with
 |.own i n=>match H[i]? with
  |some (.buf s _ xs _)=>if n=xs.length then .sl s xs else p
  |_=>p
 |.ow i n a b=>match H[i]? with
  |some (.buf s _ xs _)=>if n=xs.length∧a<b∧b≤n then .sl s ((xs.take b).drop a)else p
  |_=>p
 |p=>p
def fz (P:Program) (H:List Blk) (t:TypeId):PV→PV
 |.agg cs=>.agg (lows P t (cs.map (fz1 H)))
 |p=>low P t (fz1 H p)
def RelB.now {c:Ctx} {β:List Bnd} {a:Act} {w:World} (hr:RelB G c β st H a w):Ext (stab c β H w) w (Now w) w:=⟨λ_ _ h=>Zos hr h,λ_ _ _ _ _ _ h=>h⟩
def fz1_ok {c:Ctx} {β:List Bnd} {a:Act} {w:World} (hr:RelB G c β st H a w) {p:PV} {u:Value} (hp:VR (stab c β H w) β w p u):VR (Now w) β w (fz1 H p) u:=by
 have e:=Wce hr.now (W0 _ β) hp;unfold fz1;split;rename_i i n;split;rename_i s t xs sh hb;split;rename_i hn;have hp':=hp;obtain⟨_,f,g1,_⟩:=hp'
 exact own_sl g1 (BlkR.keep hr.now (W0 _ _) (λ_ _=>rfl) (hr.blk i f _ g1 hb)) hn hp λg hg=>at_lt (hr.blk i f _ g1 hb) hg
 exact e;exact e;rename_i i n lo hi;split;rename_i s t xs sh hb;split;rename_i hn;obtain⟨_,ed,he,k1,k2⟩:=hp;obtain⟨q1,q2,q3,vals,⟨q4,q5⟩,q6⟩:=hr.blk i ed _ he hb;obtain⟨g,cap,k3,k4,hv⟩:=k2 om
 rcases q5 with⟨q5,q7⟩|⟨g',cp,cur,e1,e2,e3,e4,e5,e6,e7⟩
 omega;rw[e1]at k3;cases k3
 obtain⟨ad,cp',g1,g2,g3⟩:=own_sl (β:=β) (β':=β) (n:=n) (u:=ed.v) he (BlkR.keep hr.now (W0 _ _) (λ_ _=>rfl) (hr.blk i ed _ he hb)) hn.1 (S:=stab c β H w) (by simp  [VR];grind) λg hg=>at_lt (hr.blk i ed _ he hb) hg
 rcases g3 with rfl|⟨b,off,g4,g5,g6⟩
 simp at hn;omega
 rw[e1,g4]at g1;cases g1;have hpart:=Ztj xs 0 hi lo g6
 refine⟨_,cap,gD,gD,.inr ⟨g',lo*ed.s,rfl,g5,gD⟩⟩
 exact e;exact e;exact e
end
section
variable {P:Program} {G:Glob} {n0 nt:Nat} {o:Oper} {st:St} {H:List Blk}
def low_vr {S:Nat→Nat→Prop} {β:List Bnd} {w:World} {t:TypeId} {p:PV} {u:Value} (h:VR S β w p u):VR S β w (low P t p) u:=by
 unfold low;split;split;simp only[VR]at h⊢;subst h;exact⟨none,0,rfl,Ws _,.inl trivial⟩;exact h;exact h
def Zaam {S:Nat→Nat→Prop} {β:List Bnd} {w:World}:∀ ts ps us,VRs S β w ps us→VRs S β w (lowZip P ts ps) us
 |[],_,_,h=>h
 |_::_,[],_,h=>h
 |_::_,_::_,[],h=>by simp  [VRs]at h
 |t::ts,p::ps,u::us,h=>⟨low_vr h.1,Zaam ts ps us h.2⟩
def fz_ok {c:Ctx} {β:List Bnd} {a:Act} {w:World} (hr:RelB G c β st H a w) {t:TypeId} {p:PV} {u:Value} (hp:VR (stab c β H w) β w p u):VR (Now w) β w (fz P H t p) u:=by
 unfold fz;split;rename_i cs;obtain⟨us,e,hu⟩:=hp
 refine⟨us,e,?_⟩
 have h1:∀ cs us,VRs (stab c β H w) β w cs us→VRs (Now w) β w (cs.map (fz1 H)) us:=λcs=>by
  induction cs with
  |nil=>intro us h;cases us<;>simp_all [VRs]
  |cons p ps ih=>
   intro us h;cases us
   simp  [VRs]at h
   rename_i u us;exact⟨fz1_ok hr h.1,ih us h.2⟩
 unfold lows;split;exact Zaam _ _ _ (h1 cs _ hu);exact h1 cs _ hu;exact low_vr (fz1_ok hr hp)
def fzs (P:Program) (H:List Blk):List TypeId→List PV→List PV
 |_,[]=>[]
 |[],p::ps=>fz P H 0 p::fzs P H [] ps
 |t::ts,p::ps=>fz P H t p::fzs P H ts ps
def fzs_ok {c:Ctx} {β:List Bnd} {a:Act} {w:World} (hr:RelB G c β st H a w):∀ ts ps us,VRs (stab c β H w) β w ps us→VRs (Now w) β w (fzs P H ts ps) us
 |[],[],us,h=>by cases us<;>simp_all [VRs,fzs]
 |_::_,[],us,h=>by cases us<;>simp_all [VRs,fzs]
 |[],p::ps,u::us,h=>⟨fz_ok hr h.1,fzs_ok hr [] ps us h.2⟩
 |t::ts,p::ps,u::us,h=>⟨fz_ok hr h.1,fzs_ok hr ts ps us h.2⟩
 |[],_::_,[],h=>by simp  [VRs]at h
 |_::_,_::_,[],h=>by simp  [VRs]at h
def OpT.now {cl:Call} {x:Operand} {f:FuncId} {fn:Func} {ps qs:List PV} {v:Value} (ho:o.op=.call cl) (hc:cl.callee=.value x) (hx:opd G st x=some (.sc (.func (.func f) #[] #[])))
  (hfn:P.funcs[f]? = some fn) (hbody:fn.body.isNone=false) (hname:(fn.name== "runtime.NumGoroutine")=false) (hargs:cl.args.toList.map (opd G st)=ps.map some)
  (hq:fzs P H fn.params.toList ps=qs) (hi:PV.idss (λ_=>false) qs=true) (ha:ACall P G f qs [] λq K=>q=.sc v∧K=[]):OpT P G n0 o st H (.sc v) H:=by
 intro c a w β h0 hr;obtain⟨β0,g1,g2,g3⟩:=hr.call (σ:=[]) (H0:=[]) sM rfl rfl;have e0:=Wab g2.len;subst e0;have hxe:=hr.opd hx
 simp  [VR]at hxe
 have hex:(execOp a.eval o).run P w=.ok (.enter f (cl.args.map a.eval)) w:=by
  have hn:=by simpa using hname
  have hb:¬fn.body=none:=gD
  simp[execOp,ho,resolve,hc,hxe,Deferred.ofValue,invoke,callFunc,hfn,hn,hb]
 have hv:VRs (Now w) [] w qs (cl.args.map a.eval).toList:=by
  have h2:=fzs_ok (P:=P) hr fn.params.toList ps _ (Wd1 hr cl.args.toList ps hargs);rw[hq]at h2;have:=Wdb (S:=Now w) (w:=w) (S':=Now w) (w':=w) ⟨λ_ _ h=>h,λ_ _ _ _ _ _ h=>h⟩ (q:=λ_=>false) (β:=β) (β':=[]) (λ_ _ h=>by cases h) qs _ hi h2;simp_all
 have hin:InOk G (Now w) [] [] w:=⟨⟨λb hi h=>⟨h,λ_ he=>((by cases he))⟩,λg cs hg=>
   let ⟨h2,h3⟩:=g2.ctx.glob g cs hg
   ⟨Zos hr h2,Wfb hr.now (W0 _ _) g cs.length h2 cs 0 om (Wcj cs) h3⟩,λ_ he=>((by cases he)),λ_ _ _ h _=>h⟩,rfl,λi e k he=>gD,λi j e f _ he=>gD⟩
 simp  [wpv,hex]
 refine(ha _ [] w _ hin hv).mono ?_
 rintro e w' ⟨u,q,K,γ,rfl,⟨rfl,rfl⟩,hout,hvr⟩;obtain⟨k1,k2,k3,k4⟩:=g3 [] [] w' ⟨rfl,λi e k he=>gD,λi e k he=>gD,λi j e f b _ he=>gD,λ_ he=>((by cases he)),⟨hout.frm.os,hout.frm.tape,hout.frm.output,hout.frm.size,hout.frm.block,hout.frm.typ,hout.frm.drawn⟩⟩
 have e:setAll [] (List.map (Blk.ren (renId [] H.length)) []) H=H:=by simp[setAll]
 rw[e]at k1 k3;exact⟨u,rfl,β++[],k1,by simpa only[VR]using hvr,Wbp β [],k3⟩
def Hnd.pu {f:FuncId} {fn:Func} {args:List PV} {v:Value} (hfn:P.funcs[f]? = some fn) (ha:ACall P G f args [] λq K=>q=.sc v∧K=[]):Hnd P G where
 run o st H:=match o.op with
  |.call cl=>match cl.callee with
   |.value x=>match opd G st x,opdL G st cl.args.toList with
    |some px,some ps=>if fn.body.isNone=false∧(fn.name== "runtime.NumGoroutine")=false∧PV.idss (λ_=>false) args=true then some ⟨.sc v,H,[.p px,.ps (fzs P H fn.params.toList ps)],[.p (.sc (.func (.func f) #[] #[])),.ps args]⟩else none
    |_,_=>none
   |_=>none
  |_=>none
 sound:=by
  intro n0 o st H x h he
  split at h
  rename_i ho
  split at h
  rename_i hc
  split at h
  rename_i hx hps
  split at h
  rename_i hb;cases h
  simp at he
  obtain⟨rfl,e⟩:=he;exact(OpT.now ho hc hx hfn hb.1 hb.2.1 (Zm5 _ _ hps) e hb.2.2 ha).weak;cases h;cases h;cases h;cases h
def nilq (P:Program) (G:Glob) (o:Oper) (st:St) (H:List Blk):Option (PV×List Blk):=match o.op with
 |.binOp .eql t x (.const (.slice none 0 0)) _=>match P.underlying t,(opd G st x).map (fz1 H)with
  |some (.slice _),some (.sl _ (_::_))=>some (.sc (.bool false),H)
  |_,_=>none
 |_=>none
def OpT.nilq {r:PV×List Blk} (h:nilq P G o st H=some r):OpT P G n0 o st H r.1 r.2:=by
 unfold AM.nilq at h
 split at h
 rename_i ho
 split at h
 rename_i hu hx;cases h;obtain⟨p,hp,e⟩:=Wg.1 hx
 refine W4 λc a w β hn hr=>⟨.bool false,?_,by simp  [VR]⟩
 have h1:=fz1_ok hr (hr.opd hp);rw[e]at h1;obtain⟨ad,cap,g1,g2,g3⟩:=h1
 rcases g3 with g3|⟨b,off,g4,_⟩
 cases g3;subst g4;have hc:a.eval (.const (.slice none 0 0))=.slice none 0 0:=rfl;simp[execOp,ho,g1,hc,eqGuard,binOp,run_equal_slice_nil w _ _ _ _ _ hu];cases h;cases h
end
section
variable {P:Program} {G:Glob} {n0 nt:Nat} {o:Oper} {st:St} {H:List Blk}
def litx (P:Program) (G:Glob) (o:Oper) (st:St) (H:List Blk):Option (PV×List Blk):=match o.op with
 |.buildSlice t len parts=>match opds G st parts.toList with
  |some ps=>match litPV P t len ps with
   |some (e,out)=>match PV.idss (λ_=>false) out with
    |true=>some (.sl (P.cellsOf e) (rowsOf (P.cellsOf e) len out),H)
    |false=>none
   |none=>none
  |none=>none
 |.makeSlice t x y=>match P.underlying t,opd G st x,opd G st y with
  |some (.slice e),some (.sc (.int _ l)),some (.sc (.int _ m))=>match P.info? e with
   |some ti=>match ti.zero with
    |some z=>if 0≤l∧l≤m∧(ti.bytes:Int)*m≤281474976710656∧m.toNat≤maxLen then
      some (.own H.length l.toNat,H++[.buf ti.size e (rowsOf ti.size l.toNat (((madeCells z.cells (m.toNat*ti.size)).toList.take (l.toNat*ti.size)).map .sc)) false])else none
    |none=>none
   |none=>none
  |_,_,_=>none
 |.call cl=>match apO P G cl st H with
  |some r=>some r
  |none=>apN P G cl st H
 |_=>none
def OpW.litx {r:PV×List Blk} (h:litx P G o st H=some r):OpW P G n0 o st H r.1 r.2:=by
 unfold AM.litx at h
 split at h
 rename_i ho
 split at h
 rename_i hp
 split at h
 rename_i hl
 split at h
 rename_i hc;cases h;exact(OpT.lit ho hp hl hc rfl).weak;cases h;cases h;cases h;rename_i ho
 split at h
 rename_i hu hx hy
 split at h
 rename_i hti
 split at h
 rename_i hz
 split at h
 rename_i hc;cases h;exact(Whv ho hu hti hz hx hy hc.1 hc.2.1 hc.2.2.1 hc.2.2.2).weak;cases h;cases h;cases h;cases h;rename_i ho
 split at h
 rename_i h1;cases h;exact(OpT.apO ho h1).weak;exact(OpT.apN ho h).weak;cases h
def Hnd.lx:Hnd P G:=.fn (AM.litx P G) .litx
def Hnd.owx:Hnd P G:=.fn (AM.owx P G) λh=>(OpT.owx h).weak
def Hnd.mpx:Hnd P G:=.fn (AM.mpx P G) λh=>(OpT.mpx h).weak
def Hnd.nilq:Hnd P G:=.fn (AM.nilq P G) λh=>(OpT.nilq h).weak
def idh (xs:List (List PV)) (j:Int) (k:∀ z,idx xs j=some z→Hnd P G):Option (Hnd P G):=match h:idx xs j with
 |some z=>some (k z h)
 |none=>none
def byt (xs:List (List PV)):List Int:=xs.map λr=>match r with
 |.sc (.int _ n)::_=>n
 |_=>0
def fnO:PV→Option (FuncId×List PV)
 |.sc (.func (.func f) ⟨[]⟩ ⟨[]⟩)=>some (f,[])
 |.fn f caps=>some (f,caps)
 |_=>none
abbrev Hk (P:Program) (G:Glob):=FuncId→List PV→List Blk→Option (Hnd P G)
def ud (K:Hnd P G) (hk:Hk P G) (o:Oper) (st:St) (H:List Blk):Option (Hnd P G):=match o.op with
 |.alloc _=>some .m
 |.box _ _=>some .m
 |.build _ _=>some .m
 |.buildSlice _ n _=>match n with
  |0=>some .m
  |_=>some (.or .lx (.shr .lx))
 |.load _ x=>match opd G st x with
  |some (.ept i _ k _)=>match H[i]? with
   |some (.buf _ _ xs _)=>idh xs k λ_ h=>.ldE (λz=>z) h
   |_=>none
  |some (.ptr _ _)=>some .q
  |_=>some .s
 |.store _ x y=>match opd G st x,opd G st y with
  |some (.ept i _ k off),some p=>match H[i]? with
   |some (.buf _ _ xs _)=>idh xs k λz h=>.stE (λz=>z) h (z.take off++p.cells++z.drop (off+p.cells.length))
   |_=>none
  |_,_=>some .m
 |.fieldAddr _ x _=>match opd G st x with
  |some (.ept i _ k _)=>match H[i]? with
   |some (.buf _ _ xs _)=>some (.fdE (λz=>z) xs k)
   |_=>none
  |_=>some .s
 |.indexAddr _ x y=>match opd G st x,opd G st y with
  |some (.sl _ xs),some (.sc (.int _ j))=>idh xs j λ_ h=>.idx (λz=>z) h
  |some (.own i _),some (.sc (.int _ j))=>match H[i]? with
   |some (.buf _ _ xs _)=>idh xs j λ_ h=>.idx (λz=>z) h
   |_=>none
  |some (.ow _ _ _ _),_=>some (.owx)
  |_,_=>some .s
 |.nilCheck x=>match opd G st x with
  |some (.ept _ _ _ _)=>some (.owx)
  |_=>some .s
 |.slice _ x lo hi none=>match opd G st x with
  |some (.sl _ xs)=>match loOf G st lo,hiOf G st xs.length hi with
   |some a,some b=>if h:0≤a∧a≤b∧b≤(xs.length:Int)then some (.slice (λz=>z) xs h)else none
   |_,_=>none
  |some (.sc _)=>match loOf G st lo,hiOf G st 0 hi with
   |some a,some b=>if h:0≤a∧a≤b∧b≤(([]:List (List PV)).length:Int)then some (.slice (λz=>z) [] h)else none
   |_,_=>none
  |_=>some (.owx)
 |.binOp _ _ x (.const (.slice none 0 0)) _=>match opd G st x with
  |some (.sc _)=>some .s
  |_=>some (.nilq)
 |.binOp _ _ x _ _=>match opd G st x with
  |some (.ptr _ _)=>some .ptrNil
  |_=>some .s
 |.convert _ _ x=>match opd G st x with
  |some (.own i _)=>match H[i]? with
   |some (.buf _ _ xs _)=>some (.toStrO (byt xs))
   |_=>none
  |_=>some .s
 |.makeSlice _ _ _=>some .lx
 |.makeFunc _ _ _=>some .q
 |.makeMap _ _=>some (.mpx)
 |.lookup _ _ _ _=>some (.mpx)
 |.mapUpdate _ _ _ _=>some (.mpx)
 |.range _ _=>some (.mpx)
 |.next _ _=>some (.mpx)
 |.entry _=>some (.mpx)
 |.call cl=>match cl.callee with
  |.value x=>match(opd G st x).bind fnO,opdL G st cl.args.toList with
   |some (f,caps),some ps=>match hk f (ps++caps) H with
    |some k=>some k
    |none=>some K
   |_,_=>none
  |.builtin b=>match cl.args.toList with
   |x::_=>match opd G st x with
    |some (.mp _)=>some (.mpx)
    |p=>match b with
     |.append=>some .lx
     |.len=>match p with
      |some (.sl _ xs)=>some (.len (λz=>z) xs)
      |some (.own i _)=>match H[i]? with
       |some (.buf _ _ xs _)=>some (.len (λz=>z) xs)
       |_=>none
      |some (.ow _ _ _ _)=>some (.owx)
      |_=>some .s
     |_=>some .s
   |[]=>none
  |_=>none
 |_=>some .s
abbrev XR:=Exit×St×List Blk×Eqs
structure XE (P:Program) (G:Glob) where
 run:Nat→Nat→Code→St→List Blk→Eqs→Option XR
 ok:∀ {n0 nt:Nat} {x:Code} {st:St} {H:List Blk} {es:Eqs} {r:XR},run n0 nt x st H es=some r→Eqs.ok r.2.2.2→Eqs.ok es∧AWP P G n0 nt x (λe s h=>e=r.1∧s=r.2.1∧h=r.2.2.1) st H
def eqL (f:List T×List T→List T):Eqs→List T
 |[]=>[]
 |e::es=>.n (f e).length::(f e++eqL f es)
def eqL_ok:∀ {es:Eqs},eqL (·.1) es=eqL (·.2) es→Eqs.ok es
 |[],_=>λ_ h=>(by cases h)
 |e::es,h=>by
  simp  [eqL,Wak,Wd6]at h
  obtain⟨h1,h2⟩:=We9 h.2 h.1;intro x hx
  rcases Wy.1 hx with rfl|hx
  exact h1;exact eqL_ok h2 x hx
def xfin (P:Program) (rs:Array ResultVar) (n0:Nat) (st:St) (K:List Blk):Option (PV×List Blk):=match ares P st K rs with
 |some p=>match p.ids (λj=>decide (j<n0))&&(K.take n0).all (Blk.farOk n0)with
  |true=>some (p,K.take n0)
  |false=>match p.ids (λj=>decide (j<K.length))&&Nat.ble n0 K.length with
   |true=>some (p,K)
   |false=>none
 |none=>none
def Zae9 {rs:Array ResultVar} {K:List Blk} {e:Exit} {r:PV×List Blk} (he:e=.normal∨e=.ret) (h:xfin P rs n0 st K=some r):InQ P rs n0 r.1 r.2 e st K:=by
 unfold xfin at h
 split at h
 rename_i hp
 split at h
 rename_i hc;cases h;simp only[Wh]at hc;exact⟨he,hp,n0,Ws _,hc.1,.inl hc.2,rfl⟩
 split at h
 rename_i hc;cases h;simp only[Wh]at hc;exact⟨he,hp,K.length,W1 hc.2,hc.1,.inr (Ws _),(Wex ..).symm⟩;cases h;cases h
def isEnd:Exit→Bool
 |.normal=>true
 |.ret=>true
 |_=>false
def Hnd.ic (X:XE P G):Hnd P G where
 run o st H:=match o.op with
  |.call cl=>match cl.callee with
   |.value x=>match opd G st x,opdL G st cl.args.toList with
    |some px,some ps=>match fnO px with
     |some (f,caps)=>match P.funcs[f]? with
      |some fn=>match fn.body with
       |some code=>if(fn.name== "runtime.NumGoroutine")=false∧(ps++caps).length≤fn.ntmps then
         match X.run H.length fn.ntmps code (numb 0 (ps++caps)) H []with
         |some r=>match isEnd r.1,xfin P fn.results H.length r.2.1 r.2.2.1 with
          |true,some q=>some ⟨q.1,q.2,eqL (·.1) r.2.2.2,eqL (·.2) r.2.2.2⟩
          |_,_=>none
         |none=>none
        else none
       |none=>none
      |none=>none
     |none=>none
    |_,_=>none
   |_=>none
  |_=>none
 sound:=by
  intro n0 o st H x h he
  split at h
  rename_i ho
  split at h
  rename_i hc
  split at h
  rename_i px ps hx hps
  split at h
  rename_i f caps hf
  split at h
  rename_i hfn
  split at h
  rename_i hb
  split at h
  rename_i hn
  split at h
  rename_i r hr
  split at h
  rename_i q hE hq;cases h
  refine OpW.inline (caps:=caps) ho hc ?_ hfn hb hn.1 (Zm5 _ _ hps) hn.2 (Wc3 (X.ok hr (eqL_ok he)).2 ?_)
  unfold fnO at hf
  split at hf
  cases hf;exact .inl ⟨hx,rfl⟩;cases hf;exact .inr hx;cases hf;rintro e s k ⟨rfl,rfl,rfl⟩;exact Zae9 (by revert hE;cases r.1<;>simp[isEnd]) hq;cases h;cases h;cases h;cases h;cases h;cases h;cases h;cases h;cases h
inductive Hi where
 |a (sws:List (Nat×Nat)) (fs:List Nat)
 |e (x y:Nat) (a b:Hi)
def uni (U:Hnd P G) (n:Nat):List (Nat×Hnd P G):=(List.range n).map λi=>(i,U)
def bo (ops:Array Oper) (i:Nat):List Nat:=match ops[i]? with
 |some o=>bindsOn o
 |none=>[]
def tlO (ops:Array Oper):Nat→Nat
 |0=>0
 |i+1=>if(bo ops (i+1)).contains i then tlO ops i else i+1
def kO (ops:Array Oper):Nat:=match(List.range' (tlO ops (ops.size-1)) (ops.size-tlO ops (ops.size-1))).find? λk=>(List.range k).all (bo ops k).contains with
 |some k=>k
 |none=>ops.size
def topO (ops:Array Oper) (k:Nat):Nat→List Nat→List Nat
 |0,l=>l
 |f+1,l=>match(List.range k).find? λi=>!l.contains i&&(bo ops i).all l.contains with
  |some i=>topO ops k f (l++[i])
  |none=>l
def kdO (o:Oper):Nat:=match o.op with
 |.alloc _|.box _ _|.store ..|.makeSlice ..|.makeMap ..|.mapUpdate ..|.range ..|.next ..=>1
 |.buildSlice _ n _=>match n with
  |0=>1
  |_=>3
 |.call cl=>match cl.callee with
  |.value _=>2
  |.builtin .append|.builtin .clear|.builtin .copy|.builtin .delete=>1
  |_=>0
 |_=>0
def wayO (ops:Array Oper) (live:Nat→Bool) (x:Nat):Nat→Nat→Option (List Nat)
 |0,_=>none
 |f+1,y=>if(bo ops y).contains x then some []else(bo ops y).findSome? λj=>if live j then(wayO ops live x f j).map (·++[j])else none
def filO (ops:Array Oper) (live:Nat→Bool):List Nat→Option (List Nat)
 |x::y::l=>match(List.range 5).findSome? λf=>wayO ops live x f y,filO ops live (y::l)with
  |some w,some r=>some (x::w++r)
  |_,_=>none
 |l=>some l
structure Ge (U:Hnd P G) (ops:Array Oper) where
 i:Nat
 o:Oper
 s:St
 H:List Blk
 w:Bool
 x:Out
 ho:ops[i]? = some o
 hw:wantA ops s o=some w
 hx:w=true→U.run o s H=some x
 hu:w=false→x.p=.sc undef
def dstO (ops:Array Oper) (j:Nat):Option Nat:=(ops[j]?).bind (·.dst)
def bpO (ops:Array Oper) (k:Nat) (rs:List (Nat×PV)) (i:Nat):St:=(bo ops i).filterMap λj=>match Nat.blt j k,dstO ops j,rs.lookup j with
 |true,some d,some p=>some (d,p)
 |_,_,_=>none
def rdO (ops:Array Oper) (k:Nat) (st0:St) (rs:List (Nat×PV)) (i:Nat) (o:Oper):St:=match bpO ops k rs i with
 |l=>l++(st0.pick ((match o.guard with|some (j,_)=>(dstO ops j).toList|none=>[])++readsOf o |>.filter λt=>!l.any (Nat.beq ·.1 t))).filter λx=>(List.range k).all λj=>dstO ops j !=some x.1||(bo ops j).contains i
def bo_eq {ops:Array Oper} {i:Nat}:bo ops i=((ops[i]?).map bindsOn).getD []:=by
 unfold bo
 grind
def Zafa {ops:Array Oper} {k i:Nat} {st0:St} {rs:List (Nat×PV)} {res:List PV} (hr:∀ j p,j<k→rs.lookup j=some p→res[j]? = some p):∀ x∈rdO ops k st0 rs i o,x∈stAt ops k st0 res i:=by
 intro x hx
 rcases Wl.1 hx with hx|hx
 refine Wc8 _ ?_
 obtain⟨j,hj,h⟩:=Wct.1 hx
 refine Wct.2 ⟨j,by rw[←bo_eq];omega,?_⟩
 split at h
 rename_i d p h1 h2 h3;cases h;rw[show(ops[j]?).bind (·.dst)=some d from h2,hr j p (W1 h1) h3];cases h
 refine Wb9 _ ?_
 obtain⟨h1,h2⟩:=W6.1 hx
 refine W6.2 ⟨Wcw _ _ x h1,?_⟩
 simpa only[bo_eq,dstO]using h2
def gz (U:Hnd P G) (ops:Array Oper) (k:Nat) (st0:St):List Nat→List (Nat×PV)→List Blk→Option (List (Ge U ops))
 |[],_,_=>some []
 |i::l,rs,H=>match ho:ops[i]? with
  |none=>none
  |some o=>match hw:wantA ops (rdO ops k st0 rs i o) o with
   |none=>none
   |some false=>(gz U ops k st0 l ((i,.sc undef)::rs) H).map (⟨i,o,_,H,false,⟨.sc undef,H,[],[]⟩,ho,hw,λh=>((by cases h)),λ_=>rfl⟩::·)
   |some true=>match hx:U.run o (rdO ops k st0 rs i o) H with
    |none=>none
    |some x=>(gz U ops k st0 l ((i,x.p)::rs) x.H).map (⟨i,o,_,H,true,x,ho,hw,λ_=>hx,λh=>((by cases h))⟩::·)
def gzF {U:Hnd P G} {ops:Array Oper} (l:List (Ge U ops)) (i:Nat):Option (Ge U ops):=l.find? λe=>Nat.beq e.i i
def resO {U:Hnd P G} {ops:Array Oper} (k:Nat) (l:List (Ge U ops)):List PV:=(List.range k).map λi=>match gzF l i with
 |some e=>e.x.p
 |none=>.sc undef
def Zacm {U:Hnd P G} {ops:Array Oper} {k:Nat} {l:List (Ge U ops)} {e:Ge U ops} (h:gzF l e.i=some e) (hj:e.i<k):(resO k l)[e.i]? = some e.x.p:=by
 simp[resO,hj,h]
def gz_is {U:Hnd P G} {ops:Array Oper} {k:Nat} {st0:St}:∀ {l:List Nat} {rs:List (Nat×PV)} {H:List Blk} {L:List (Ge U ops)},gz U ops k st0 l rs H=some L→L.map (·.i)=l
 |[],_,_,L,h=>by cases h;rfl
 |i::l,rs,H,L,h=>by
  unfold gz at h
  split at h
  cases h
  split at h
  cases h;obtain⟨M,h1,rfl⟩:=Wg.1 h;rw[W7,gz_is h1]
  split at h
  cases h;obtain⟨M,h1,rfl⟩:=Wg.1 h;rw[W7,gz_is h1]
def gz_sub {U:Hnd P G} {ops:Array Oper} {k:Nat} {st0:St} {res:List PV}:∀ {l:List Nat} {rs:List (Nat×PV)} {H:List Blk} {L:List (Ge U ops)},gz U ops k st0 l rs H=some L→(∀ j p,j<k→rs.lookup j=some p→res[j]? = some p)→(∀ e∈L,e.i<k→res[e.i]? = some e.x.p)→∀ e∈L,∀ x∈e.s,x∈stAt ops k st0 res e.i
 |[],_,_,L,h,_,_=>by cases h;grind
 |i::l,rs,H,L,h,hr,hL=>by
  have next:∀ p,(i<k→res[i]? = some p)→∀ j q,j<k→List.lookup j ((i,p)::rs)=some q→res[j]? = some q:=λp hp j q hj h=>by
   grind
  unfold gz at h
  split at h
  cases h
  split at h
  cases h;obtain⟨M,h1,rfl⟩:=Wg.1 h;intro e he
  rcases Wy.1 he with rfl|he
  exact Zafa hr;exact gz_sub h1 sA gD e he
  split at h
  cases h;obtain⟨M,h1,rfl⟩:=Wg.1 h;intro e he
  rcases Wy.1 he with rfl|he
  exact Zafa hr;exact gz_sub h1 (next _ (hL _ Wz)) gD e he
def gzF_eq {U:Hnd P G} {ops:Array Oper} {l:List (Ge U ops)} (h:(l.map (·.i)).Nodup) {e:Ge U ops} (he:e∈l):gzF l e.i=some e:=by
 induction l with
 |nil=>grind
 |cons d l ih=>
  rw[W7,Wgn]at h;unfold gzF;rw[List.find?_cons]
  rcases Wy.1 he with rfl|he
  rw[Nat.beq_refl]
  have:Nat.beq d.i e.i=false:=by
   cases hb:Nat.beq d.i e.i;rfl;exact(h.1 (Wd hb▸Wbv he)).elim
  rw[this];exact ih h.2 he
def gzQ {U:Hnd P G} {ops:Array Oper} (ch:List Nat) (e:Ge U ops) (t0:Nat):Nat→List (List Blk)→Option Eqs
 |_,[]=>some []
 |t,H::Hs=>match gzQ ch e t0 (t+1) Hs with
  |none=>none
  |some es=>match posOk ops ch e.i t with
   |false=>some es
   |true=>match Nat.beq t t0 with
    |true=>some ((e.x.l++[.bs (e.H.map some),.bs (e.x.H.map some)],e.x.r++[.bs (H.map some),.bs (H.map some)])::es)
    |false=>(U.run e.o e.s H).map λx=>(x.l++[.p x.p,.bs (x.H.map some)],x.r++[.p e.x.p,.bs (H.map some)])::es
def bs_eq {l r:List T} {H K:List Blk} (h:l++[.bs (H.map some)]=r++[.bs (K.map some)]):l=r∧H=K:=by
 obtain⟨h1,h2⟩:=List.append_inj' h rfl
 simp at h2
 exact⟨h1,Zbv h2⟩
def Wdi:=@List.getElem?_cons_zero
def gzQ_ok {U:Hnd P G} {ops:Array Oper} {ch:List Nat} {e:Ge U ops} {t0:Nat} (hw:e.w=true):∀ {Hs:List (List Blk)} {u:Nat} {es:Eqs},gzQ ch e t0 u Hs=some es→Eqs.ok es→∀ t H,Hs[t]? = some H→posOk ops ch e.i (u+t)=true→OpW P G n0 e.o e.s H e.x.p H
 |[],_,_,_,_,t,_,ht,_=>by simp at ht
 |H0::Hs,u,es,h,he,t,H,ht,hp=>by
  unfold gzQ at h
  split at h
  cases h;rename_i es0 h0
  have tail:Eqs.ok es0→∀ t,t≠0→(H0::Hs)[t]? = some H→posOk ops ch e.i (u+t)=true→OpW P G n0 e.o e.s H e.x.p H:=λhe t h1 ht hp=>by
   cases t with
   |zero=>exact(h1 rfl).elim
   |succ t=>exact gzQ_ok hw h0 he t H (by simpa using ht) (by rw[←hp];congr 1;omega)
  cases t;simp only[Wdi,Wn]at ht;subst ht;rw[Wdq]at hp;rw[hp]at h
  dsimp only at h
  split at h
  cases h;obtain⟨e1,_⟩:=Wcm he
  have e1:(e.x.l++[.bs (e.H.map some)])++[.bs (e.x.H.map some)]=(e.x.r++[.bs (H0.map some)])++[.bs (H0.map some)]:=by simpa using e1
  obtain⟨e1,e2⟩:=bs_eq e1;obtain⟨e1,e3⟩:=bs_eq e1;have:=U.sound (n0:=n0) (e.hx hw) e1
  rwa [e2,e3]at this
  obtain⟨x,hx,rfl⟩:=Wg.1 h;obtain⟨e1,_⟩:=Wcm he
  have e1:(x.l++[.p x.p])++[.bs (x.H.map some)]=(x.r++[.p e.x.p])++[.bs (H0.map some)]:=by simpa using e1
  obtain⟨e1,e2⟩:=bs_eq e1;obtain⟨e1,e3⟩:=List.append_inj' e1 rfl;simp only[Wak,T.p.injEq,and_true]at e3;have:=U.sound (n0:=n0) hx e1
  rwa [e2,e3]at this
  rename_i t
  split at h
  cases h;exact tail he _ om ht hp
  split at h
  cases h;exact tail (Wcm he).2 _ om ht hp;obtain⟨x,hx,rfl⟩:=Wg.1 h;exact tail (Wcm he).2 _ om ht hp
def frz {U:Hnd P G} {ops:Array Oper} (l:List (Ge U ops)) (ch:List Nat) (Hs:List (List Blk)) (i:Nat):Option Eqs:=match gzF l i with
 |none=>none
 |some e=>match e.w,ch.contains i with
  |false,false=>some []
  |true,true=>(match ch[ch.idxOf i]?,Hs[ch.idxOf i]?,Hs[ch.idxOf i+1]? with
   |some i',some H,some H'=>if Nat.beq i' i then some [(e.x.l,e.x.r),([.bs (e.H.map some),.bs (e.x.H.map some)],[.bs (H.map some),.bs (H'.map some)])]else none
   |_,_,_=>none)
  |true,false=>gzQ ch e (((l.takeWhile λd=>!Nat.beq d.i i).filter λd=>ch.contains d.i).length) 0 Hs
  |_,_=>none
def frz_ok {U:Hnd P G} {ops:Array Oper} {l:List (Ge U ops)} {ch:List Nat} {Hs:List (List Blk)} {st0:St} {k i:Nat} {es:Eqs} (hs:∀ e∈l,∀ x∈e.s,x∈stAt ops k st0 (resO k l) e.i) (hk:i<k) (h:frz l ch Hs i=some es) (he:es.ok):FreeOk P G n0 nt ops st0 (resO k l) ch Hs k i:=by
 unfold frz at h
 split at h
 cases h;rename_i e hf;have hi:=Wd (List.find?_some (p:=λe:Ge U ops=>Nat.beq e.i i) hf);subst hi;have hs:=hs e (List.mem_of_find?_eq_some hf);have hp:=Zacm hf hk
 split at h
 rename_i hw hc;exact .skip e.o e.s hs e.ho gD (by rw[e.hw,hw]) (by rw[hp,e.hu hw]);rename_i hw hc
 split at h
 rename_i i' H1 H2 g1 g2 g3
 split at h
 rename_i hb;have hb:=Wd hb;subst hb;cases h;obtain⟨k1,k2⟩:=Wcm he;obtain⟨k2,_⟩:=Wcm k2
 simp at k2
 have:=U.sound (n0:=n0) (e.hx hw) k1;rw[Zbv k2.1,Zbv k2.2]at this;exact .chain e.o e.x.p _ H1 H2 e.s hs e.ho g1 (by rw[e.hw,hw]) hp g2 g3 this;cases h;cases h;rename_i hw hc
 exact .quiet e.o e.x.p e.s hs e.ho gD (by rw[e.hw,hw]) hp λt H ht hpos=>gzQ_ok hw h he t H ht gD
 cases h
def chG {U:Hnd P G} {ops:Array Oper} (l:List (Ge U ops)):List (List Nat)→List Nat
 |[]=>[]
 |m::ms=>match filO ops (λj=>l.any λe=>Nat.beq e.i j&&e.w) ((l.filter λe=>e.w&&m.contains (kdO e.o)).map (·.i))with
  |some c=>c
  |none=>chG l ms
def HsG {U:Hnd P G} {ops:Array Oper} (l:List (Ge U ops)):List Nat→List Blk→List (List Blk)
 |[],H=>[H]
 |i::c,H=>match gzF l i with
  |some e=>H::HsG l c e.x.H
  |none=>[H]
def farB:List Nat→List Blk→List Blk
 |[],H=>H
 |i::l,H=>match H[i]? with
  |some (.cells cs)=>farB l (H.set i (.far cs))
  |_=>farB l H
def Z9a {st:St}:∀ l {H:List Blk},Le G n0 nt st H st (farB l H)
 |[],_=>Le.refl
 |i::l,H=>by
  unfold farB;split;rename_i hb;exact Le.trans (Le.toFar hb) (Z9a l);exact Z9a l
def drG (U:Hnd P G) (n0 nt:Nat) (k:Nat) (ord:List Nat) (sws:List (Nat×Nat)) (fs:List Nat) (ops:Array Oper) (st:St) (H:List Blk):Option (St×List Blk×Eqs):=match gz U ops k st (orderOf k ord) [] H with
 |none=>none
 |some l=>match chG l [[1,2,3],[1,2],[1,3],[1]]with
  |ch=>match HsG l ch H with
   |Hs=>match drawOk nt ops ch k (rkOf k ord)&&decide (orderOf k ord).Nodup,allEqs (frz l ch Hs) k,Hs[ch.length]? with
    |true,some es,some Hf=>match rseg nt ops (uni U ops.size) (List.range' k (ops.size-k)) (stL ops st (resO k l) (List.range k)) Hf with
     |some r=>match swaps n0 sws r.1 r.2.1 with
      |some q=>some (q.1,farB fs q.2,es++r.2.2)
      |none=>none
     |none=>none
    |_,_,_=>none
def Zaan {f:Nat→Option Eqs} {Q:Nat→Prop} {n:Nat} (hf:∀ {i es},i<n→f i=some es→Eqs.ok es→Q i):∀ {k:Nat} {es:Eqs},k≤n→allEqs f k=some es→es.ok→∀ i,i<k→Q i
 |0,_,_,_,_,_,h=>om
 |k+1,es,hn,h,he,i,hi=>by
  simp  [allEqs]at h
  split at h
  rename_i es' fs h1 h2;cases h;obtain⟨e1,e2⟩:=Wd7 he
  rcases Nat.lt_succ_iff_lt_or_eq.1 hi with hi|rfl
  exact Zaan hf om h1 e1 i hi;exact hf om h2 e2;cases h
def drG_ok {U:Hnd P G} {k:Nat} {ord:List Nat} {sws:List (Nat×Nat)} {fs:List Nat} {ops:Array Oper} {r:St×List Blk×Eqs} {Q:Exit→St→List Blk→Prop} (h:drG U n0 nt k ord sws fs ops st H=some r) (he:Eqs.ok r.2.2) (hq:Q .normal r.1 r.2.1):ADraw P G n0 nt ops Q st H:=by
 unfold drG at h
 split at h
 cases h;rename_i l hl
 dsimp  at h
 split at h
 rename_i es Hf g1 g2 g3
 split at h
 rename_i r1 hr
 split at h
 rename_i q hsw;cases h;obtain⟨e1,e2⟩:=Wd7 he;have tail:=We6 (n0:=n0) (Q:=Q) (l2:=[]) hr e2 (Whg hsw (AOps.le (Z9a fs) (Wgi hq)));rw[War]at tail
 have h0:∀ c H,(HsG l c H)[0]? = some H:=λc H=>by
  cases c;rfl;unfold HsG;grind
 simp at g1
 have hnd:(l.map (·.i)).Nodup:=by rw[gz_is hl];grind
 exact ADraw.draw (λ_ h=>h) g1.1 (Zaan (λhk h he=>frz_ok (gz_sub (res:=resO k l) hl (λ_ _ _ h=>(by cases h)) λe he hk=>Zacm (gzF_eq hnd he) hk) hk h he) (Ws k) g2 e1) (h0 _ _) g3 tail;cases h;cases h;cases h
def plO (ops:Array Oper) (k:Nat):List Nat:=if(List.range k).all λi=>(bo ops i).all (Nat.blt · i)then[]else topO ops k k []
def xdr (U:Hnd P G) (n0 nt:Nat):Hi→Array Oper→St→List Blk→Option (St×List Blk×Eqs)
 |.a sws fs,ops,st,H=>drG U n0 nt (kO ops) (plO ops (kO ops)) sws fs ops st H
 |.e x y a b,ops,st,H=>match Nat.beq x y,xdr U n0 nt a (addEdge ops x y) st H,xdr U n0 nt b (addEdge ops y x) st H with
  |false,some r,some q=>match neqs (r.1.map (·.1)) (q.1.map (·.1))&&(peqs (r.1.map (·.2)) (q.1.map (·.2))&&heqs r.2.1 q.2.1)with
   |true=>some (q.1,q.2.1,r.2.2++q.2.2)
   |false=>none
  |_,_,_=>none
def xdr_ok {U:Hnd P G}:∀ h {ops:Array Oper} {r:St×List Blk×Eqs} {Q:Exit→St→List Blk→Prop},xdr U n0 nt h ops st H=some r→Eqs.ok r.2.2→Q .normal r.1 r.2.1→ADraw P G n0 nt ops Q st H
 |.a _ _,ops,r,Q,h,he,hq=>drG_ok h he hq
 |.e x y a b,ops,r,Q,h,he,hq=>by
  simp  [xdr]at h
  split at h
  rename_i r1 r2 hxy h1 h2
  split at h
  rename_i hc;cases h
  simp at hc
  obtain⟨e3,e4⟩:=Wd7 he;exact ADraw.either x y hxy (xdr_ok a h1 e3 (by rw[St_ext (Z85 _ _ hc.1) (peqs_eq _ _ hc.2.1),Zae7 _ _ hc.2.2];omega)) (xdr_ok b h2 e4 hq);cases h;cases h
abbrev Hx:=Nat→Nat→Option Hi
def lpE (X:XE P G) (n0 nt:Nat) (y:Code):Nat→St→List Blk→Eqs→Option XR
 |0,_,_,_=>none
 |m+1,st,H,es=>match X.run n0 nt y st H es with
  |some r=>match r.1 with
   |.normal=>lpE X n0 nt y m r.2.1 r.2.2.1 r.2.2.2
   |_=>some r
  |none=>none
def lpE_ok {X:XE P G} {y:Code} {r:XR}:∀ m {st:St} {H:List Blk} {es:Eqs},lpE X n0 nt y m st H es=some r→Eqs.ok r.2.2.2→Eqs.ok es∧AWP P G n0 nt (.loop y) (λe s h=>e=r.1∧s=r.2.1∧h=r.2.2.1) st H:=by
 have ev:∀ m {st:St} {H:List Blk} {es:Eqs},lpE X n0 nt y m st H es=some r→Eqs.ok r.2.2.2→Eqs.ok es:=by
  intro m
  induction m with
  |zero=>intro st H es h;simp[lpE]at h
  |succ m ih=>
   intro st H es h he
   unfold lpE at h
   split at h
   rename_i r1 h1
   split at h
   exact(X.ok h1 (ih h he)).1;cases h;exact(X.ok h1 he).1;cases h
 intro m st H es h he
 refine⟨ev m h he,AWP.loop (λn s k=>∃ es,lpE X n0 nt y n s k es=some r) m ⟨es,h⟩ ?_⟩
 rintro n s k ⟨es',hx⟩;cases n;simp[lpE]at hx;rename_i n
 unfold lpE at hx
 split at hx
 rename_i r1 h1
 split at hx
 exact Wc3 (X.ok h1 (ev n hx he)).2 λe s k ⟨g1,g2,g3⟩=>by
  grind
 cases hx
 exact Wc3 (X.ok h1 he).2 λe s k g=>by
  grind
 grind
def xS (U:Hnd P G) (hx:Hx) (X:XE P G) (n0 nt:Nat) (x:Code) (st:St) (H:List Blk) (es:Eqs):Option XR:=match x with
 |.skip=>some (.normal,st,H,es)
 |.region id ops d=>match d with
  |false=>match rseg nt ops (uni U ops.size) (List.range ops.size) st H with
   |some r=>some (.normal,r.1,r.2.1,r.2.2++es)
   |none=>none
  |true=>match P.follows .mixedOrders,xdr U n0 nt (match hx nt id with|some h=>h|none=>.a [] []) ops st H with
   |true,some r=>some (.normal,r.1,r.2.1,r.2.2++es)
   |_,_=>none
 |.seq a b=>match X.run n0 nt a st H es with
  |some r=>match r.1 with
   |.normal=>X.run n0 nt b r.2.1 r.2.2.1 r.2.2.2
   |_=>some r
  |none=>none
 |.cond c a b=>match opd G st c with
  |some (.sc (.bool v))=>X.run n0 nt (match v with|true=>a|false=>b) st H es
  |_=>none
 |.block id y=>match X.run n0 nt y st H es with
  |some r=>match r.1 with
   |.exit j=>match Nat.beq j id with
    |true=>some (.normal,r.2)
    |false=>some r
   |_=>some r
  |none=>none
 |.loop y=>lpE X n0 nt y 100000 st H es
 |.exit id=>some (.exit id,st,H,es)
 |.ret=>some (.ret,st,H,es)
 |_=>none
def xS_ok {U:Hnd P G} {hx:Hx} {X:XE P G} {x:Code} {es:Eqs} {r:XR} (h:xS U hx X n0 nt x st H es=some r) (he:Eqs.ok r.2.2.2):Eqs.ok es∧AWP P G n0 nt x (λe s h=>e=r.1∧s=r.2.1∧h=r.2.2.1) st H:=by
 unfold xS at h
 split at h
 cases h;exact⟨he,AWP.skip ⟨rfl,rfl,rfl⟩⟩
 split at h
 split at h
 rename_i q hq;cases h;obtain⟨e1,e2⟩:=Wd7 he
 refine⟨e2,Whb rfl ?_⟩
 have:=We6 (n0:=n0) (Q:=λe s h=>e=Exit.normal∧s=q.1∧h=q.2.1) (l2:=[]) hq e1 (Wgi ⟨rfl,rfl,rfl⟩)
 rwa [War]at this
 cases h
 split at h
 rename_i q hm hq;cases h;obtain⟨e1,e2⟩:=Wd7 he;exact⟨e2,Wfp hm (xdr_ok _ hq e1 ⟨rfl,rfl,rfl⟩)⟩;cases h
 split at h
 rename_i r1 h1
 split at h
 rename_i e1;obtain⟨k1,k2⟩:=X.ok h he;obtain⟨k3,k4⟩:=X.ok h1 k1
 refine⟨k3,AWP.seq (Wc3 k4 λe s k ⟨g1,g2,g3⟩=>?_)⟩
 rw[g1,e1,g2,g3];exact k2;cases h;obtain⟨k3,k4⟩:=X.ok h1 he
 refine⟨k3,AWP.seq (Wc3 k4 λe s k g=>?_)⟩
 cases e with
 |normal=>grind
 |_=>exact g
 cases h
 split at h
 rename_i v hc;obtain⟨k1,k2⟩:=X.ok h he;exact⟨k1,AWP.cond hc gD λe=>gD⟩;cases h
 split at h
 rename_i r1 h1
 split at h
 rename_i j e1
 split at h
 rename_i hb;cases h;obtain⟨k3,k4⟩:=X.ok h1 he
 refine⟨k3,Wfx (Wc3 k4 λe s k ⟨g1,g2,g3⟩=>?_)⟩
 rw[g1,e1];simp only[blockQ,hb];exact⟨trivial,g2,g3⟩;rename_i hb;cases h;obtain⟨k3,k4⟩:=X.ok h1 he
 refine⟨k3,Wfx (Wc3 k4 λe s k g=>?_)⟩
 have g1:=g.1;rw[e1]at g1;subst g1;simp  [blockQ,hb];exact g;cases h;obtain⟨k3,k4⟩:=X.ok h1 he
 refine⟨k3,Wfx (Wc3 k4 λe s k g=>?_)⟩
 cases e with
 |exit j=>grind
 |_=>exact g
 cases h;exact lpE_ok _ h he;cases h;exact⟨he,AWP.exit ⟨rfl,rfl,rfl⟩⟩;cases h;exact⟨he,AWP.ret ⟨rfl,rfl,rfl⟩⟩;cases h
def xE (P:Program) (G:Glob) (hk:Hk P G) (hx:Hx):Nat→XE P G
 |0=>⟨λ_ _ _ _ _ _=>none,λh=>(by cases h)⟩
 |n+1=>⟨xS (.dep (ud (.ic (xE P G hk hx n)) hk)) hx (xE P G hk hx n),xS_ok⟩
end
section
variable {P:Program} {G:Glob} {f:FuncId} {fn:Func} {args:List PV} {H K:List Blk} {p:PV}
structure XF (P:Program) (G:Glob) (f:FuncId) (fn:Func) (args:List PV) (H:List Blk) (p:PV) (K:List Blk):Prop where
 hf:P.funcs[f]? = some fn
 len:args.length≤fn.ntmps
 run:AWP P G H.length fn.ntmps (bodyC fn) (InQ P fn.results H.length p K) (numb 0 args) H
def xcl (X:XE P G) (fn:Func) (args:List PV) (H:List Blk):Option (PV×List Blk×Eqs):=match X.run H.length fn.ntmps (bodyC fn) (numb 0 args) H []with
 |some r=>match isEnd r.1,xfin P fn.results H.length r.2.1 r.2.2.1 with
  |true,some q=>some (q.1,q.2,r.2.2.2)
  |_,_=>none
 |none=>none
def xcT (r:Option (PV×List Blk×Eqs)):List T:=match r with
 |some r=>[.p r.1,.bs (r.2.1.map some)]
 |none=>[]
def xcE (f:List T×List T→List T) (r:Option (PV×List Blk×Eqs)):List T:=match r with
 |some r=>eqL f r.2.2
 |none=>[]
def XF.of (X:XE P G) (hfn:P.funcs[f]? = some fn) (h:xcT (xcl X fn args H)=[.p p,.bs (K.map some)]:=by kernel_rfl) (he:xcE (·.1) (xcl X fn args H)=xcE (·.2) (xcl X fn args H):=by kernel_rfl) (hn:Nat.ble args.length fn.ntmps=true:=by kernel_rfl):XF P G f fn args H p K:=by
 refine⟨hfn,W1 hn,?_⟩
 unfold xcl at h he
 split at h
 rename_i r hr;rw[hr]at he
 dsimp  at he
 split at h
 rename_i q h1 h2;rw[h1,h2]at he
 simp  [xcT,Wak,T.p.injEq,T.bs.injEq,and_true]at h
 obtain⟨rfl,h⟩:=h;have h:=Zbv h;subst h
 exact Wc3 (X.ok hr (eqL_ok he)).2 λe s k ⟨g1,g2,g3⟩=>by subst g1 g2 g3;exact Zae9 (by revert h1;cases r.1<;>simp[isEnd]) h2
 simp[xcT]at h;simp[xcT]at h
def Wh0:=@XF.of
def XF.pure {v:Value} (h:XF P G f fn args [] (.sc v) []) (hb:fn.body.isSome=true:=by kernel_rfl):ACall P G f args [] λq K=>q=.sc v∧K=[]:=by
 obtain⟨c,hc⟩:=Wap.1 hb;have h1:=h.run
 unfold bodyC at h1
 rw[hc]at h1
 refine ACall.of_AWP h.hf hc h.len (Wc3 h1 λe s k ⟨g1,g2,m,g3,g4,_,g5⟩=>?_)
 exact⟨g1,true,.sc v,.sc v,0,λ_=>sM,g2,.inl (.refl _),Ws _,Wd5 _,by simp  [PV.ids],by simp[okOut],rfl,sM⟩
def Hnd.xf (h:XF P G f fn args H p K):Hnd P G:=.inl h.hf h.run
def hkB {F:List Int→Option Int} {k:IntKind} (hK:∀ l,KF P G f fn [.sl 1 (l.map λn=>[.sc (.int .u8 n)])] [] (F l) (λr=>.sc (.int k r)) λ_=>[]) (ps:List PV) (H:List Blk):Option (Hnd P G):=match ps with
 |q::_=>match fz1 H q with
  |.sl _ xs=>match h:F (byt xs)with
   |some v=>some (.pu (hK []).fn ((hK (byt xs)).run v h))
   |none=>none
  |_=>none
 |[]=>none
end
structure Arr5 (α:Type) where
 x0:α
 x1:α
 x2:α
 x3:α
 x4:α
def Arr5.get {α:Type} (a:Arr5 α) (i:Int):α:=if i=0 then a.x0 else if i=1 then a.x1 else if i=2 then a.x2 else if i=3 then a.x3 else a.x4
def Arr5.set {α:Type} (a:Arr5 α) (i:Int) (v:α):Arr5 α:=if i=0 then {a with x0:=v}else if i=1 then {a with x1:=v}else if i=2 then {a with x2:=v}else if i=3 then {a with x3:=v}else {a with x4:=v}
def Z7m (x:(Arr5 Int)):List PV:=[.sc (.int .u32 x.x0),.sc (.int .u32 x.x1),.sc (.int .u32 x.x2),.sc (.int .u32 x.x3),.sc (.int .u32 x.x4)]
def Zan (x:(List Int)):List PV:=[.sl 1 (List.map Ze x)]
structure Z5 where
 Name:ByteArray
 Capacity:Int
 Ranges:Bool
 Volatile:Bool
 Class:ByteArray
def Zh (x:Z5):List PV:=[.sc (.string x.Name),.sc (.int .i64 x.Capacity),.sc (.bool x.Ranges),.sc (.bool x.Volatile),.sc (.string x.Class)]
def Z1o (x:Z5):Prop:=Zzl x.Name∧Zm4 x.Capacity∧Zwk x.Ranges∧Zwk x.Volatile∧Zzl x.Class∧True
def Zabb (x:Z5):List Value:=[.string x.Name,.int .i64 x.Capacity,.bool x.Ranges,.bool x.Volatile,.string x.Class]
def Z1p (x:Z5):PV:=.sc (.agg ⟨Zabb x⟩)
def Z6d (x:(List Z5)):List PV:=[.sl 5 (List.map Zh x)]
structure Zah where
 A:Int
 B:Int
 Cost:Int
def Zx (x:Zah):List PV:=[.sc (.int .i64 x.A),.sc (.int .i64 x.B),.sc (.int .i64 x.Cost)]
def Z5n (x:Zah):Prop:=Zm4 x.A∧Zm4 x.B∧Zm4 x.Cost∧True
def Zad3 (x:Zah):List Value:=[.int .i64 x.A,.int .i64 x.B,.int .i64 x.Cost]
def Zad4 (x:Zah):PV:=.sc (.agg ⟨Zad3 x⟩)
def Zaf7:Zah:=Zah.mk (0:Int) (0:Int) (0:Int)
instance:Inhabited Zah:=⟨Zaf7⟩
def Z9b (x:(List Zah)):List PV:=[.sl 3 (List.map Zx x)]
structure Zl where
 Addr:Int
 Bits:Int
def Zu (x:Zl):List PV:=[.sc (.int .u32 x.Addr),.sc (.int .i64 x.Bits)]
def Zsi (x:Zl):Prop:=Zbf x.Addr∧Zm4 x.Bits∧True
def Zabc (x:Zl):List Value:=[.int .u32 x.Addr,.int .i64 x.Bits]
def Za4 (x:Zl):PV:=.sc (.agg ⟨Zabc x⟩)
def Z1q (x y:Zl):Bool:=((x.Addr==y.Addr)&&((x.Bits==y.Bits)&&true))
def Zc4:Zl:=Zl.mk (0:Int) (0:Int)
structure Z1 where
 Name:ByteArray
 Device:Int
 Zone:ByteArray
 Prefix:Zl
 Planned:Bool
def Zk (x:Z1):List PV:=[.sc (.string x.Name),.sc (.int .i64 x.Device),.sc (.string x.Zone),.sc (.int .u32 x.Prefix.Addr),.sc (.int .i64 x.Prefix.Bits),.sc (.bool x.Planned)]
def Z5o (x:Z1):Prop:=Zzl x.Name∧Zm4 x.Device∧Zzl x.Zone∧Zsi x.Prefix∧Zwk x.Planned∧True
def Zad5 (x:Z1):List Value:=[.string x.Name,.int .i64 x.Device,.string x.Zone,.int .u32 x.Prefix.Addr,.int .i64 x.Prefix.Bits,.bool x.Planned]
def Zn0 (x:Z1):PV:=.sc (.agg ⟨Zad5 x⟩)
def Zaf8:Z1:=Z1.mk ByteArray.empty (0:Int) ByteArray.empty Zc4 false
instance:Inhabited Z1:=⟨Zaf8⟩
def Z9c (x:(List Z1)):List PV:=[.sl 6 (List.map Zk x)]
def Z6e (x:(List Zl)):List PV:=[.sl 2 (List.map Zu x)]
structure Zb where
 Devices:(List Z5)
 Links:(List Zah)
 Edges:(List Z1)
 Pools:(List Zl)
 Tolerate:Int
def Z3 (x:Zb):List PV:=[.sl 5 (List.map Zh x.Devices),.sl 3 (List.map Zx x.Links),.sl 6 (List.map Zk x.Edges),.sl 2 (List.map Zu x.Pools),.sc (.int .i64 x.Tolerate)]
def Zv (x:Zb):PV:=.agg (Z3 x)
def Zuk:Zb:=Zb.mk ([]:(List Z5)) ([]:(List Zah)) ([]:(List Z1)) ([]:(List Zl)) (0:Int)
structure Zp where
 Links:(List Int)
 Devices:(List Int)
def Za1 (x:Zp):List PV:=[.sl 1 (List.map Ze x.Links),.sl 1 (List.map Ze x.Devices)]
def Zbd (x:Zp):PV:=.agg (Za1 x)
def Z1r:Zp:=Zp.mk ([]:(List Int)) ([]:(List Int))
structure Za where
 Lo:Int
 Hi:Int
abbrev ZB:=Arr5 Za
abbrev ZL:=List (Arr5 Za)
def Zn (x:Za):List PV:=[.sc (.int .u32 x.Lo),.sc (.int .u32 x.Hi)]
def Zk7 (x:Za):Prop:=Zbf x.Lo∧Zbf x.Hi∧True
def Zacn (x:Za):List Value:=[.int .u32 x.Lo,.int .u32 x.Hi]
def Zk8 (x:Za):PV:=.sc (.agg ⟨Zacn x⟩)
def Zba (x y:Za):Bool:=((x.Lo==y.Lo)&&((x.Hi==y.Hi)&&true))
def Zao:Za:=Za.mk (0:Int) (0:Int)
instance:Inhabited Za:=⟨Zao⟩
def Zd (x:(Arr5 Za)):List PV:=[.sc (.int .u32 x.x0.Lo),.sc (.int .u32 x.x0.Hi),.sc (.int .u32 x.x1.Lo),.sc (.int .u32 x.x1.Hi),.sc (.int .u32 x.x2.Lo),.sc (.int .u32 x.x2.Hi),.sc (.int .u32 x.x3.Lo),.sc (.int .u32 x.x3.Hi),.sc (.int .u32 x.x4.Lo),.sc (.int .u32 x.x4.Hi)]
def Ziw (x:(Arr5 Za)):Prop:=Zk7 x.x0∧Zk7 x.x1∧Zk7 x.x2∧Zk7 x.x3∧Zk7 x.x4∧True
def Z7n (x:(Arr5 Za)):List Value:=[.int .u32 x.x0.Lo,.int .u32 x.x0.Hi,.int .u32 x.x1.Lo,.int .u32 x.x1.Hi,.int .u32 x.x2.Lo,.int .u32 x.x2.Hi,.int .u32 x.x3.Lo,.int .u32 x.x3.Hi,.int .u32 x.x4.Lo,.int .u32 x.x4.Hi]
def Zbo (x:(Arr5 Za)):PV:=.sc (.agg ⟨Z7n x⟩)
def Ztq (x y:(Arr5 Za)):Bool:=((Zba x.x0 y.x0)&&((Zba x.x1 y.x1)&&((Zba x.x2 y.x2)&&((Zba x.x3 y.x3)&&((Zba x.x4 y.x4)&&true)))))
def Zfo:(Arr5 Za):=Arr5.mk Zao Zao Zao Zao Zao
instance:Inhabited (Arr5 Za):=⟨Zfo⟩
structure Zai where
 Match:(Arr5 Za)
 Permit:Bool
def Zak (x:Zai):List PV:=[.sc (.int .u32 x.Match.x0.Lo),.sc (.int .u32 x.Match.x0.Hi),.sc (.int .u32 x.Match.x1.Lo),.sc (.int .u32 x.Match.x1.Hi),.sc (.int .u32 x.Match.x2.Lo),.sc (.int .u32 x.Match.x2.Hi),.sc (.int .u32 x.Match.x3.Lo),.sc (.int .u32 x.Match.x3.Hi),.sc (.int .u32 x.Match.x4.Lo),.sc (.int .u32 x.Match.x4.Hi),.sc (.bool x.Permit)]
def Z5p (x:Zai):Prop:=Ziw x.Match∧Zwk x.Permit∧True
def Z9d (x:(List Zai)):List PV:=[.sl 11 (List.map Zak x)]
structure Zaa where
 From:(Arr5 Za)
 To:(Arr5 Za)
def Zap (x:Zaa):List PV:=[.sc (.int .u32 x.From.x0.Lo),.sc (.int .u32 x.From.x0.Hi),.sc (.int .u32 x.From.x1.Lo),.sc (.int .u32 x.From.x1.Hi),.sc (.int .u32 x.From.x2.Lo),.sc (.int .u32 x.From.x2.Hi),.sc (.int .u32 x.From.x3.Lo),.sc (.int .u32 x.From.x3.Hi),.sc (.int .u32 x.From.x4.Lo),.sc (.int .u32 x.From.x4.Hi),.sc (.int .u32 x.To.x0.Lo),.sc (.int .u32 x.To.x0.Hi),.sc (.int .u32 x.To.x1.Lo),.sc (.int .u32 x.To.x1.Hi),.sc (.int .u32 x.To.x2.Lo),.sc (.int .u32 x.To.x2.Hi),.sc (.int .u32 x.To.x3.Lo),.sc (.int .u32 x.To.x3.Hi),.sc (.int .u32 x.To.x4.Lo),.sc (.int .u32 x.To.x4.Hi)]
def Z5q (x:Zaa):Prop:=Ziw x.From∧Ziw x.To∧True
def Zad6 (x:Zaa):List Value:=[.int .u32 x.From.x0.Lo,.int .u32 x.From.x0.Hi,.int .u32 x.From.x1.Lo,.int .u32 x.From.x1.Hi,.int .u32 x.From.x2.Lo,.int .u32 x.From.x2.Hi,.int .u32 x.From.x3.Lo,.int .u32 x.From.x3.Hi,.int .u32 x.From.x4.Lo,.int .u32 x.From.x4.Hi,.int .u32 x.To.x0.Lo,.int .u32 x.To.x0.Hi,.int .u32 x.To.x1.Lo,.int .u32 x.To.x1.Hi,.int .u32 x.To.x2.Lo,.int .u32 x.To.x2.Hi,.int .u32 x.To.x3.Lo,.int .u32 x.To.x3.Hi,.int .u32 x.To.x4.Lo,.int .u32 x.To.x4.Hi]
def Zsb (x:Zaa):PV:=.sc (.agg ⟨Zad6 x⟩)
def Z9e (x:(List Zaa)):List PV:=[.sl 20 (List.map Zap x)]
structure Zab where
 Match:(Arr5 Za)
 Addr:Int
 Ports:Za
def Zar (x:Zab):List PV:=[.sc (.int .u32 x.Match.x0.Lo),.sc (.int .u32 x.Match.x0.Hi),.sc (.int .u32 x.Match.x1.Lo),.sc (.int .u32 x.Match.x1.Hi),.sc (.int .u32 x.Match.x2.Lo),.sc (.int .u32 x.Match.x2.Hi),.sc (.int .u32 x.Match.x3.Lo),.sc (.int .u32 x.Match.x3.Hi),.sc (.int .u32 x.Match.x4.Lo),.sc (.int .u32 x.Match.x4.Hi),.sc (.int .u32 x.Addr),.sc (.int .u32 x.Ports.Lo),.sc (.int .u32 x.Ports.Hi)]
def Z5r (x:Zab):Prop:=Ziw x.Match∧Zbf x.Addr∧Zk7 x.Ports∧True
def Zad7 (x:Zab):List Value:=[.int .u32 x.Match.x0.Lo,.int .u32 x.Match.x0.Hi,.int .u32 x.Match.x1.Lo,.int .u32 x.Match.x1.Hi,.int .u32 x.Match.x2.Lo,.int .u32 x.Match.x2.Hi,.int .u32 x.Match.x3.Lo,.int .u32 x.Match.x3.Hi,.int .u32 x.Match.x4.Lo,.int .u32 x.Match.x4.Hi,.int .u32 x.Addr,.int .u32 x.Ports.Lo,.int .u32 x.Ports.Hi]
def Z5s (x:Zab):PV:=.sc (.agg ⟨Zad7 x⟩)
def Zaf9:Zab:=Zab.mk Zfo (0:Int) Zao
instance:Inhabited Zab:=⟨Zaf9⟩
def Z9f (x:(List Zab)):List PV:=[.sl 13 (List.map Zar x)]
structure Zaf where
 Match:(Arr5 Za)
 Class:ByteArray
def Zas (x:Zaf):List PV:=[.sc (.int .u32 x.Match.x0.Lo),.sc (.int .u32 x.Match.x0.Hi),.sc (.int .u32 x.Match.x1.Lo),.sc (.int .u32 x.Match.x1.Hi),.sc (.int .u32 x.Match.x2.Lo),.sc (.int .u32 x.Match.x2.Hi),.sc (.int .u32 x.Match.x3.Lo),.sc (.int .u32 x.Match.x3.Hi),.sc (.int .u32 x.Match.x4.Lo),.sc (.int .u32 x.Match.x4.Hi),.sc (.string x.Class)]
def Z3k (x:Zaf):Prop:=Ziw x.Match∧Zzl x.Class∧True
def Zaco (x:Zaf):List Value:=[.int .u32 x.Match.x0.Lo,.int .u32 x.Match.x0.Hi,.int .u32 x.Match.x1.Lo,.int .u32 x.Match.x1.Hi,.int .u32 x.Match.x2.Lo,.int .u32 x.Match.x2.Hi,.int .u32 x.Match.x3.Lo,.int .u32 x.Match.x3.Hi,.int .u32 x.Match.x4.Lo,.int .u32 x.Match.x4.Hi,.string x.Class]
def Zacp (x:Zaf):PV:=.sc (.agg ⟨Zaco x⟩)
def Zad8:Zaf:=Zaf.mk Zfo ByteArray.empty
instance:Inhabited Zaf:=⟨Zad8⟩
def Z7o (x:(List Zaf)):List PV:=[.sl 11 (List.map Zas x)]
structure Zw where
 Edge:Int
 Ingress:(List Zai)
 Egress:(List Zai)
 Moves:(List Zaa)
 Hides:(List Zab)
 Steers:(List Zaf)
def Zy (x:Zw):List PV:=[.sc (.int .i64 x.Edge),.sl 11 (List.map Zak x.Ingress),.sl 11 (List.map Zak x.Egress),.sl 20 (List.map Zap x.Moves),.sl 13 (List.map Zar x.Hides),.sl 11 (List.map Zas x.Steers)]
def Zsc (x:Zw):PV:=.agg (Zy x)
def Z9g (x:(List Zw)):List PV:=[.sl 6 (List.map Zy x)]
structure Zo where
 Ports:(List Zw)
def Z7 (x:Zo):List PV:=[.sl 6 (List.map Zy x.Ports)]
def Z1s (x:Zo):PV:=.agg (Z7 x)
def Zee:Zo:=Zo.mk ([]:(List Zw))
def Z6f (x:(List Zo)):List PV:=[.sl 1 (List.map Z7 x)]
structure Zi where
 Prefix:Zl
 Edge:Bool
 Port:Int
def Zz (x:Zi):List PV:=[.sc (.int .u32 x.Prefix.Addr),.sc (.int .i64 x.Prefix.Bits),.sc (.bool x.Edge),.sc (.int .i64 x.Port)]
def Z3l (x:Zi):Prop:=Zsi x.Prefix∧Zwk x.Edge∧Zm4 x.Port∧True
def Zacq (x:Zi):List Value:=[.int .u32 x.Prefix.Addr,.int .i64 x.Prefix.Bits,.bool x.Edge,.int .i64 x.Port]
def Zacr (x:Zi):PV:=.sc (.agg ⟨Zacq x⟩)
def Z6 (x:(List Zi)):List PV:=[.sl 4 (List.map Zz x)]
def Z4x (x:(List (List Zi))):List PV:=[.sl 1 (List.map Z6 x)]
def Zad9 (x:(List (List Int))):List PV:=[.sl 1 (List.map Zan x)]
structure Z0 where
 Topology:Zb
 Failure:Zp
 Configs:(List Zo)
 Routes:(List (List Zi))
 Labels:(List (List Int))
def Zbj (x:Z0):List PV:=[.sl 5 (List.map Zh x.Topology.Devices),.sl 3 (List.map Zx x.Topology.Links),.sl 6 (List.map Zk x.Topology.Edges),.sl 2 (List.map Zu x.Topology.Pools),.sc (.int .i64 x.Topology.Tolerate),.sl 1 (List.map Ze x.Failure.Links),.sl 1 (List.map Ze x.Failure.Devices),.sl 1 (List.map Z7 x.Configs),.sl 1 (List.map Z6 x.Routes),.sl 1 (List.map Zan x.Labels)]
def Zbt (x:Z0):PV:=.agg (Zbj x)
def Z1t:Z0:=Z0.mk Zuk Z1r ([]:(List Zo)) ([]:(List (List Zi))) ([]:(List (List Int)))
structure Zc where
 f_l:(List Int)
 f_i:Int
def Zf (x:Zc):List PV:=[.sl 1 (List.map Ze x.f_l),.sc (.int .i64 x.f_i)]
structure Z2 where
 Kind:Int
 Name:ByteArray
 Prefix:Zl
 Proto:Int
 Ports:Za
def Z4 (x:Z2):List PV:=[.sc (.int .i64 x.Kind),.sc (.string x.Name),.sc (.int .u32 x.Prefix.Addr),.sc (.int .i64 x.Prefix.Bits),.sc (.int .i64 x.Proto),.sc (.int .u32 x.Ports.Lo),.sc (.int .u32 x.Ports.Hi)]
def Zaea (x:Z2):List Value:=[.int .i64 x.Kind,.string x.Name,.int .u32 x.Prefix.Addr,.int .i64 x.Prefix.Bits,.int .i64 x.Proto,.int .u32 x.Ports.Lo,.int .u32 x.Ports.Hi]
def Z5t (x:Z2):PV:=.sc (.agg ⟨Zaea x⟩)
def Zu5 (x y:Z2):Bool:=((x.Kind==y.Kind)&&((x.Name.toList==y.Name.toList)&&((Z1q x.Prefix y.Prefix)&&((x.Proto==y.Proto)&&((Zba x.Ports y.Ports)&&true)))))
structure Zm where
 Name:ByteArray
 Items:(List Z2)
def Zr (x:Zm):List PV:=[.sc (.string x.Name),.sl 7 (List.map Z4 x.Items)]
def Z6g:Zm:=Zm.mk ByteArray.empty ([]:(List Z2))
instance:Inhabited Zm:=⟨Z6g⟩
structure Zbl where
 Name:ByteArray
 Active:(List Za)
def Zay (x:Zbl):List PV:=[.sc (.string x.Name),.sl 2 (List.map Zn x.Active)]
structure Zam where
 Permit:Bool
 From:ByteArray
 To:ByteArray
 Service:ByteArray
 Excepted:Bool
 ExceptFrom:ByteArray
 ExceptTo:ByteArray
 Class:ByteArray
 During:ByteArray
 Priority:Int
def Zau (x:Zam):List PV:=[.sc (.bool x.Permit),.sc (.string x.From),.sc (.string x.To),.sc (.string x.Service),.sc (.bool x.Excepted),.sc (.string x.ExceptFrom),.sc (.string x.ExceptTo),.sc (.string x.Class),.sc (.string x.During),.sc (.int .i64 x.Priority)]
def Z6h (x:Zam):List Value:=[.bool x.Permit,.string x.From,.string x.To,.string x.Service,.bool x.Excepted,.string x.ExceptFrom,.string x.ExceptTo,.string x.Class,.string x.During,.int .i64 x.Priority]
def Zws (x:Zam):PV:=.sc (.agg ⟨Z6h x⟩)
structure Za2 where
 Addr:Int
 Proto:Int
 Port:Int
 Edge:ByteArray
 Real:Int
 RealPort:Int
def Zaw (x:Za2):List PV:=[.sc (.int .u32 x.Addr),.sc (.int .i64 x.Proto),.sc (.int .i64 x.Port),.sc (.string x.Edge),.sc (.int .u32 x.Real),.sc (.int .i64 x.RealPort)]
structure Zbb where
 Group:ByteArray
 Edge:ByteArray
 Addr:Int
 Ports:Za
def Zaz (x:Zbb):List PV:=[.sc (.string x.Group),.sc (.string x.Edge),.sc (.int .u32 x.Addr),.sc (.int .u32 x.Ports.Lo),.sc (.int .u32 x.Ports.Hi)]
structure Zs where
 Groups:(List Zm)
 Services:(List Zm)
 Windows:(List Zbl)
 Statements:(List Zam)
 Published:(List Za2)
 Hidden:(List Zbb)
def Zul (x:Zs):List PV:=[.sl 2 (List.map Zr x.Groups),.sl 2 (List.map Zr x.Services),.sl 2 (List.map Zay x.Windows),.sl 10 (List.map Zau x.Statements),.sl 6 (List.map Zaw x.Published),.sl 5 (List.map Zaz x.Hidden)]
def Zbx (x:Zs):PV:=.agg (Zul x)
structure Z9 where
 Class:ByteArray
 Set:(List (Arr5 Za))
def Zag (x:Z9):List PV:=[.sc (.string x.Class),.sl 10 (List.map Zd x.Set)]
def Z6i:Z9:=Z9.mk ByteArray.empty ([]:(List (Arr5 Za)))
instance:Inhabited Z9:=⟨Z6i⟩
structure Zac where
 Allow:(List (Arr5 Za))
 Inspect:(List Z9)
def Zk0 (x:Zac):List PV:=[.sl 10 (List.map Zd x.Allow),.sl 2 (List.map Zag x.Inspect)]
def Zg2 (x:Zac):PV:=.agg (Zk0 x)
def Z3m:Zac:=Zac.mk ([]:(List (Arr5 Za))) ([]:(List Z9))
structure Zaq where
 f_a:Int
 f_b:Int
 f_classes:(List ByteArray)
def Zbr (x:Zaq):List PV:=[.sc (.int .i64 x.f_a),.sc (.int .i64 x.f_b),.sl 1 (List.map Zaj x.f_classes)]
def Z3n (x:Zaq):PV:=.agg (Zbr x)
structure Zal where
 From:Int
 To:Int
 Egress:Bool
 Allow:(List (Arr5 Za))
def Zbm (x:Zal):List PV:=[.sc (.int .i64 x.From),.sc (.int .i64 x.To),.sc (.bool x.Egress),.sl 10 (List.map Zd x.Allow)]
def Zabd (x:Zal):PV:=.agg (Zbm x)
structure Zgc where
 Src:Int
 Dst:Int
 Proto:Int
 SrcPort:Int
 DstPort:Int
def Zabe (x:Zgc):List Value:=[.int .u32 x.Src,.int .u32 x.Dst,.int .u8 x.Proto,.int .u16 x.SrcPort,.int .u16 x.DstPort]
def Z1u (x:Zgc):Value:=.agg ⟨Zabe x⟩
structure Zfp where
 Real:Zgc
 Sent:Zgc
 Delivered:Zgc
 From:Int
 To:Int
 Waypoint:Bool
 Class:ByteArray
 State:Int
 Expires:Int
def Z4y (x:Zfp):List Value:=[.int .u32 x.Real.Src,.int .u32 x.Real.Dst,.int .u8 x.Real.Proto,.int .u16 x.Real.SrcPort,.int .u16 x.Real.DstPort,.int .u32 x.Sent.Src,.int .u32 x.Sent.Dst,.int .u8 x.Sent.Proto,.int .u16 x.Sent.SrcPort,.int .u16 x.Sent.DstPort,.int .u32 x.Delivered.Src,.int .u32 x.Delivered.Dst,.int .u8 x.Delivered.Proto,.int .u16 x.Delivered.SrcPort,.int .u16 x.Delivered.DstPort,.int .i64 x.From,.int .i64 x.To,.bool x.Waypoint,.string x.Class,.int .i64 x.State,.int .i64 x.Expires]
def Zvw (x:Zfp):Value:=.agg ⟨Z4y x⟩
def Zmy:(Arr5 Int):=Arr5.mk 4294967295 4294967295 255 65535 65535
abbrev ZI:Int→Int:=wrap .i64
abbrev Ya:=List Int
abbrev Yb:=Unit⊕Bool
abbrev Yc:=List Za
abbrev Yd:=List Zi
abbrev Ye:=List Zm
abbrev Yf:=Unit⊕Int
abbrev Yg:=List Z2
abbrev Yh:=List Zo
abbrev Yi:=List Zaf
abbrev Yj:=List Zaa
abbrev Yk:=List Z1
abbrev Yl:=List Zl
abbrev Ym:=List Zab
abbrev Yn:=List Zai
abbrev Yo:=List Zw
abbrev Yp:=List Zal
abbrev Yq:=List ByteArray
abbrev Yr:=List Z5
abbrev Ys:=List Zaq
abbrev Yt:=List Zah
abbrev Yu:=List Zbl
abbrev Yv:=List Z9
abbrev Yw:=List Zp
abbrev Yx:=List Za2
abbrev Yy:=List PV
abbrev Yz:=List Zam
abbrev Y0:=List Zbb
def Zq (x:Zo):List OV:=[owB 87 6 Zy x.Ports]
def Zix:Option Bool:=some true
def Ztr (a:Ya):Option Zc:=some (Zc.mk a 0)
def Zq4 (b:Int) (a:Int):Option Int:=if(wrap .u64 a)≠0 then some (wrap .i64 (Int.tmod (wrap .u64 b) (wrap .u64 a)))else none
def Zg (a:Zc) (b:Int):Option (Int×Zc):=(some (decide (b≤1))).bind λc=>if(c||(decide (a.f_i≥(a.f_l.length:Int))))=true then some ((0:Int),a)else (idx a.f_l (wrap .i64 ((wrap .i64 (a.f_i+1))-1))).bind λx3=>(Zq4 x3 b).bind λd=>some (d,({a with f_i:=(wrap .i64 (a.f_i+1))}:Zc))
def Zey (a:Int):Option Zl:=(Zq4 a 6).bind λb=>(idx [Zl.mk 167772160 24,Zl.mk 167772416 24,Zl.mk 167772672 25,Zl.mk 167772800 26,Zl.mk 2886729728 16,Zl.mk 3232237321 32] b).bind λx3=>some x3
def Zf3 (m:(Int×Zc)):Nat→Zc→Int→Yr→Yt→Int→Option (Zc×Int×Yr×Yt)
 |0,_,_,_,_,_=>none
 |s+1,n,o,b,c,a=>if(decide (a<(wrap .i64 ((1:Int)+m.1))))=true then ((idx [(⟨#[114,49]⟩:ByteArray),⟨#[114,50]⟩,⟨#[114,51]⟩,⟨#[114,52]⟩,⟨#[114,53]⟩,⟨#[114,54]⟩] a).bind λg=>(Zg n 6).bind λp=>(idx [(4096:Int),(400:Int),(60:Int),(20:Int),(5:Int),(0:Int)] p.1).bind λi=>(Zg p.2 3).bind λd=>(Zg d.2 3).bind λf=>(Zg f.2 3).bind λj=>(idx [ByteArray.empty,⟨#[105,112,115]⟩,⟨#[100,108,112]⟩] j.1).bind λk=>if b.length+List.length [({({({(Z5.mk g i false false ByteArray.empty)with Ranges:=(d.1==1)}:Z5)with Volatile:=(f.1==1)}:Z5)with Class:=k}:Z5)]≤lim then if decide (a>0)=true then (Zg j.2 a).bind λl=>(Zg l.2 4).bind λq=>(idx [(1:Int),(2:Int),(3:Int),(1000:Int)] q.1).bind λr=>if c.length+List.length [Zah.mk l.1 a r]≤lim then some (q.2,b++[({({({(Z5.mk g i false false ByteArray.empty)with Ranges:=(d.1==1)}:Z5)with Volatile:=(f.1==1)}:Z5)with Class:=k}:Z5)],c++[Zah.mk l.1 a r])else none else some (j.2,b++[({({({(Z5.mk g i false false ByteArray.empty)with Ranges:=(d.1==1)}:Z5)with Volatile:=(f.1==1)}:Z5)with Class:=k}:Z5)],c)else none).bind λ(u,v,w)=>Zf3 m s u o v w (wrap .i64 (a+1))else some (n,o,b,c)
def Zf4 (b:(Int×Zc)):Nat→Zc→Int→Yt→Int→Option (Zc×Int×Yt)
 |0,_,_,_,_=>none
 |l+1,f,g,c,i=>(some (decide (i>0))).bind λm=>if(m&&(decide ((wrap .i64 ((1:Int)+b.1))>1)))=true then (Zg f (wrap .i64 ((wrap .i64 ((1:Int)+b.1))-1))).bind λa=>(Zg a.2 (wrap .i64 ((1:Int)+a.1))).bind λd=>(Zg d.2 4).bind λj=>(idx [(1:Int),(2:Int),(3:Int),(1000:Int)] j.1).bind λk=>if c.length+List.length [Zah.mk d.1 (wrap .i64 ((1:Int)+a.1)) k]≤lim then Zf4 b l j.2 g (c++[Zah.mk d.1 (wrap .i64 ((1:Int)+a.1)) k]) (wrap .i64 (i-1))else none else some (f,g,c)
def Zf5 (d:(Int×Zc)) (f:Int):Nat→Zc→Int→Yk→Int→Option (Zc×Int×Yk)
 |0,_,_,_,_=>none
 |n+1,g,i,b,a=>if decide (a<f)=true then (idx [(⟨#[101,49]⟩:ByteArray),⟨#[101,50]⟩,⟨#[101,51]⟩,⟨#[101,52]⟩,⟨#[101,53]⟩] a).bind λj=>(Zg g (wrap .i64 ((1:Int)+d.1))).bind λc=>(Zg c.2 3).bind λk=>(idx [(⟨#[108,97,110]⟩:ByteArray),⟨#[100,109,122]⟩,⟨#[110,101,116]⟩] k.1).bind λl=>(Zey a).bind λm=>if b.length+List.length [Z1.mk j c.1 l m false]≤lim then Zf5 d f n k.2 i (b++[Z1.mk j c.1 l m false]) (wrap .i64 (a+1))else none else some (g,i,b)
def Zn1 (j:Zc) (k:Int):Option (Zb×Zc):=(Zg j (iMin k (6:Int))).bind λa=>(Zf3 a fuel a.2 0 [] [] 0).bind λ(m,n,o,p)=>(Zg m 4).bind λf=>(Zf4 a fuel f.2 n p f.1).bind λ(r,s,t)=>(Zg r 6).bind λg=>(idx [(2:Int),(3:Int),(4:Int),(1:Int),(5:Int),(0:Int)] g.1).bind λu=>(Zf5 a u fuel g.2 s [] 0).bind λ(w,_,x)=>((Zg w 2).bind λb=>if(b.1==1)=true then if List.length ([]:Yl)+List.length [Zl.mk 168296448 22]≤lim then some (b.2,[]++[Zl.mk 168296448 22])else none else some (b.2,([]:Yl))).bind λ(z,c)=>((Zg z 3).bind λd=>if(d.1==1)=true then if c.length+List.length [Zl.mk 167772672 24]≤lim then some (d.2,c++[Zl.mk 167772672 24])else none else some (d.2,c)).bind λ(a1,a2)=>(Zg a1 5).bind λi=>(idx [(0:Int),(1:Int),(0:Int),(1:Int),(2:Int)] i.1).bind λa3=>some ((Zb.mk o t x a2 a3),i.2)
def Zou (a:Int):Option Int:=if 0≤(wrap .u64 (wrap .i64 ((32:Int)-a)))then some (bShl .u64 (1:Int) (wrap .u64 (wrap .i64 ((32:Int)-a))))else none
def Zcs (a:Zl):Option Bool:=(some (decide (a.Bits≥0))).bind λc=>(some (c&&(decide (a.Bits≤32)))).bind λd=>(if d=true then (Zou a.Bits).bind λb=>if b≠0 then some ((Int.tmod (wrap .u64 a.Addr) b)==0)else none else some false).bind λf=>some f
def Za5 (a:Zl):Option (Za×Bool):=(Zcs a).bind λb=>if(!b)=true then some ((Za.mk 0 0),false)else (Zou a.Bits).bind λc=>some ((Za.mk a.Addr (wrap .u32 (wrap .u64 ((wrap .u64 ((wrap .u64 a.Addr)+c))-1)))),true)
def Zc7 (g:Zc):Option (Int×Zc):=(Zg g 5).bind λb=>if(b.1==4)=true then (Zg b.2 6).bind λc=>(idx [(0:Int),(4294967295:Int),(3405803781:Int),(3325256705:Int),(168296448:Int),(2130706433:Int)] c.1).bind λx5=>some (x5,c.2)else (Zg b.2 6).bind λd=>(Zey d.1).bind λi=>(Za5 i).bind λa=>(Zg d.2 5).bind λf=>(idx [a.1.Lo,a.1.Hi,wrap .u32 (a.1.Lo+5),wrap .u32 (a.1.Hi+1),wrap .u32 (a.1.Lo-1)] f.1).bind λj=>some (j,f.2)
def Zgd (g:Zc):Option (Zl×Zc):=(Zg g 3).bind λc=>if(c.1==0)=true then (Zg c.2 6).bind λd=>(Zey d.1).bind λi=>some (i,d.2)else (Zg c.2 10).bind λf=>(idx [(32:Int),(31:Int),(24:Int),(25:Int),(8:Int),(1:Int),(0:Int),(16:Int),(30:Int),(23:Int)] f.1).bind λa=>(Zc7 f.2).bind λb=>(if decide (a<32)=true then if 0≤(wrap .u64 (wrap .i64 ((32:Int)-a)))then if 0≤(wrap .u64 (wrap .i64 ((32:Int)-a)))then some ({(Zl.mk b.1 a)with Addr:=(bShl .u32 (bShr .u32 b.1 (wrap .u64 (wrap .i64 ((32:Int)-a)))) (wrap .u64 (wrap .i64 ((32:Int)-a))))}:Zl)else none else none else some (Zl.mk b.1 a)).bind λj=>some (j,b.2)
def Zdd (c:Zc) (a:Int):Option (Int×Zc):=(Zg c 17).bind λb=>(idx [(0:Int),(1:Int),(2:Int),(5:Int),(7:Int),(8:Int),(9:Int),(15:Int),(16:Int),(80:Int),(255:Int),(256:Int),(1024:Int),(65535:Int),wrap .u32 (Int.tdiv a (2:Int)),wrap .u32 (a-1),a] b.1).bind λx3=>some ((iMin x3 a),b.2)
def Ze4 (d:Zc) (c:Int):Option (Za×Zc):=(Zdd d c).bind λa=>(Zdd a.2 c).bind λb=>some ((Za.mk (iMin a.1 b.1) (iMax a.1 b.1)),b.2)
def Zq5 (b:ByteArray) (f:Int):Nat→Yq→Int→Int→Option Yq
 |0,_,_,_=>none
 |g+1,d,c,a=>if decide (a≤(ByteArray.size b:Int))=true then ((some (a==(ByteArray.size b:Int))).bind λi=>(if i=true then some true else (sidx b a).bind λj=>some (j==f)).bind λk=>if k=true then if 0≤c∧c≤a∧a≤(ByteArray.size b:Int)then if d.length+List.length [ByteArray.extract b (Int.toNat c) (Int.toNat a)]≤lim then some ((d++[ByteArray.extract b (Int.toNat c) (Int.toNat a)]),wrap .i64 (a+1))else none else none else some (d,c)).bind λ(m,n)=>Zq5 b f g m n (wrap .i64 (a+1))else some d
def Zqe (a:ByteArray) (b:Int):Option Yq:=(Zq5 a b fuel [] 0 0).bind λc=>some c
def Zum:Option Yq:=some [(⟨#[109,111,110]⟩:ByteArray),⟨#[116,117,101]⟩,⟨#[119,101,100]⟩,⟨#[116,104,117]⟩,⟨#[102,114,105]⟩,⟨#[115,97,116]⟩,⟨#[115,117,110]⟩]
def Zph (c:ByteArray) (b:Yq):Nat→Int→Option Yf
 |0,_=>none
 |d+1,a=>if decide (a<(b.length:Int))=true then (idx b a).bind λf=>if(f.toList==c.toList)=true then some (.inr a)else Zph c b d (wrap .i64 (a+1))else some (.inl ())
def Zsj (a:ByteArray):Option Int:=(Zum).bind λb=>(Zph a b fuel 0).bind λ(c:Yf)=>match c with
 |.inl ()=>some (-1:Int)
 |.inr d=>some d
def Zun (d:ByteArray):Option (Int×Int):=(Zqe d 45).bind λa=>if decide ((a.length:Int)>2)=true then some ((-1:Int),(-1:Int))else (idx a (0:Int)).bind λx3=>(Zsj x3).bind λb=>(idx a (wrap .i64 ((a.length:Int)-1))).bind λx7=>(Zsj x7).bind λc=>(some (decide (b<0))).bind λf=>if(f||(decide (c<b)))=true then some ((-1:Int),(-1:Int))else some (b,c)
def Zsk (a:ByteArray):Option Int:=(some ((ByteArray.size a:Int)!=(2:Int))).bind λb=>(if b=true then some true else (sidx a (0:Int)).bind λx3=>some (decide (x3<48))).bind λc=>(some c).bind λd=>(if d=true then some true else (sidx a (0:Int)).bind λf=>some (decide (f>57))).bind λg=>(some g).bind λi=>(if i=true then some true else (sidx a (1:Int)).bind λj=>some (decide (j<48))).bind λk=>(some k).bind λl=>(if l=true then some true else (sidx a (1:Int)).bind λm=>some (decide (m>57))).bind λn=>if n=true then some (-1:Int)else (sidx a (0:Int)).bind λo=>(sidx a (1:Int)).bind λp=>some (wrap .i64 ((wrap .i64 ((wrap .i64 (wrap .u8 (o-48)))*10))+(wrap .i64 (wrap .u8 (p-48)))))
def Zqf (a:ByteArray):Option Int:=if(a.toList==(⟨#[50,52,58,48,48]⟩:ByteArray).toList)=true then some (1440:Int)else (some ((ByteArray.size a:Int)!=(5:Int))).bind λd=>(if d=true then some true else (sidx a (2:Int)).bind λx3=>some (x3 !=(58:Int))).bind λf=>if f=true then some (-1:Int)else if 0≤(0:Int)∧(0:Int)≤2∧(2:Int)≤(ByteArray.size a:Int)then (Zsk (ByteArray.extract a (Int.toNat (0:Int)) (Int.toNat (2:Int)))).bind λb=>if 0≤(3:Int)∧(3:Int)≤(ByteArray.size a:Int)∧(ByteArray.size a:Int)≤(ByteArray.size a:Int)then (Zsk (ByteArray.extract a (Int.toNat (3:Int)) (Int.toNat (ByteArray.size a:Int)))).bind λc=>(some (decide (b<0))).bind λg=>(some (g||(decide (b>23)))).bind λi=>(some (i||(decide (c<0)))).bind λj=>if(j||(decide (c>59)))=true then some (-1:Int)else some (wrap .i64 ((wrap .i64 ((60:Int)*b))+c))else none else none
def Zts (d:ByteArray):Option (Int×Int):=(Zqe d 45).bind λa=>if((a.length:Int)!=(2:Int))=true then some ((-1:Int),(-1:Int))else (idx a (0:Int)).bind λx3=>(Zqf x3).bind λb=>(idx a (1:Int)).bind λx7=>(Zqf x7).bind λc=>(some (decide (b<0))).bind λf=>if(f||(decide (c≤b)))=true then some ((-1:Int),(-1:Int))else some (b,c)
def Zdz (b:Ya) (c:Int):Nat→Int→Option Int
 |0,_=>none
 |d+1,a=>(some (decide (a<(b.length:Int)))).bind λf=>(if f=true then (idx b a).bind λg=>some (decide (g<c))else some false).bind λi=>if i=true then Zdz b c d (wrap .i64 (a+1))else some a
def Zhz (a:Ya) (c:Int) (d:Int):Option Ya:=if decide (c>(wrap .u64 d))=true then some a else (Zdz a c fuel 0).bind λb=>(some (decide (b<(a.length:Int)))).bind λf=>(if f=true then (idx a b).bind λg=>some (g==c)else some false).bind λi=>if i=true then some a else if 0≤(0:Int)∧(0:Int)≤b∧b≤(a.length:Int)then if List.length ([]:Ya)+List.length (List.drop (Int.toNat (0:Int)) (List.take (Int.toNat b) a))≤lim then if List.length ([]++(List.drop (Int.toNat (0:Int)) (List.take (Int.toNat b) a)))+List.length [c]≤lim then if 0≤b∧b≤(a.length:Int)∧(a.length:Int)≤(a.length:Int)then if List.length (([]++(List.drop (Int.toNat (0:Int)) (List.take (Int.toNat b) a)))++[c])+List.length (List.drop (Int.toNat b) (List.take (Int.toNat (a.length:Int)) a))≤lim then some ((([]++(List.drop (Int.toNat (0:Int)) (List.take (Int.toNat b) a)))++[c])++(List.drop (Int.toNat b) (List.take (Int.toNat (a.length:Int)) a)))else none else none else none else none else none
def Zd0 (a:Yc) (c:Int):Nat→Ya→Int→Option Ya
 |0,_,_=>none
 |f+1,d,b=>if decide (b<(a.length:Int))=true then ((idx a b).bind λg=>(idx a b).bind λi=>if decide (g.Lo≤i.Hi)=true then (idx a b).bind λj=>(Zhz d (wrap .u64 j.Lo) c).bind λk=>(idx a b).bind λl=>(Zhz k (wrap .u64 ((wrap .u64 l.Hi)+1)) c).bind λm=>some m else some d).bind λn=>Zd0 a c f n (wrap .i64 (b+1))else some d
def Zh0 (a:Yc) (b:Int):Option Ya:=(Zd0 a b fuel [(0:Int)] (0:Int)).bind λc=>some c
def Ziy (a:Yc) (c:Int):Nat→Int→Option Yb
 |0,_=>none
 |d+1,b=>if decide (b<(a.length:Int))=true then (idx a b).bind λf=>(some (decide (f.Lo≤c))).bind λg=>(if g=true then (idx a b).bind λi=>some (decide (c≤i.Hi))else some false).bind λj=>if j=true then some (.inr true)else Ziy a c d (wrap .i64 (b+1))else some (.inl ())
def Zfq (a:Yc) (b:Int):Option Bool:=(Ziy a b fuel 0).bind λ(c:Yb)=>match c with
 |.inl ()=>some false
 |.inr d=>some d
def Zgv (j:Yc) (k:Yc) (d:Int) (l:Int) (b:Ya):Nat→Yc→Int→Option Yc
 |0,_,_=>none
 |n+1,a,c=>if decide (c<(b.length:Int))=true then ((if(decide ((wrap .i64 (c+1))<(b.length:Int)))=true then (idx b (wrap .i64 (c+1))).bind λo=>some (wrap .u64 (o-1))else some (wrap .u64 l)).bind λi=>(idx b c).bind λp=>(Zfq j (wrap .u32 p)).bind λf=>(idx b c).bind λq=>(Zfq k (wrap .u32 q)).bind λg=>(some f).bind λr=>(if(d==1)=true then (some f).bind λs=>some (s&&g)else if(d==2)=true then (some f).bind λt=>some (t&&(!g))else if(d==3)=true then (some (!f)).bind λu=>some (u&&(!g))else some (r||g)).bind λv=>if(!v)=true then some a else (some (decide ((a.length:Int)>0))).bind λw=>(if w=true then (idx a (wrap .i64 ((a.length:Int)-1))).bind λx=>(idx b c).bind λy=>some ((wrap .u64 ((wrap .u64 x.Hi)+1))==y)else some false).bind λz=>if z=true then (idx a (wrap .i64 ((a.length:Int)-1))).bind λa0=>some (List.set a (Int.toNat (wrap .i64 ((a.length:Int)-1))) ({a0 with Hi:=(wrap .u32 i)}:Za))else (idx b c).bind λm=>if a.length+List.length [Za.mk (wrap .u32 m) (wrap .u32 i)]≤lim then some (a++[Za.mk (wrap .u32 m) (wrap .u32 i)])else none).bind λa1=>Zgv j k d l b n a1 (wrap .i64 (c+1))else some a
def Zk1 (a:Yc) (b:Yc) (d:Int) (c:Int):Option Yc:=if List.length ([]:Yc)+a.length≤lim then if List.length ([]++a)+b.length≤lim then (Zh0 (([]++a)++b) c).bind λf=>(Zgv a b d c f fuel [] 0).bind λg=>some g else none else none
def Zd4 (a:Yc) (b:Yc):Option Yc:=(Zk1 a b 0 4294967295).bind λc=>some c
def Zm6 (c:(Int×Int)) (r88:(Int×Int)):Nat→Yc→Int→Option Yc
 |0,_,_=>none
 |d+1,b,a=>if decide (a≤c.2)=true then if b.length+List.length [Za.mk (wrap .u32 (wrap .i64 ((wrap .i64 ((1440:Int)*a))+r88.1))) (wrap .u32 (wrap .i64 ((wrap .i64 ((wrap .i64 ((1440:Int)*a))+r88.2))-1)))]≤lim then Zm6 c r88 d (b++[Za.mk (wrap .u32 (wrap .i64 ((wrap .i64 ((1440:Int)*a))+r88.1))) (wrap .u32 (wrap .i64 ((wrap .i64 ((wrap .i64 ((1440:Int)*a))+r88.2))-1)))]) (wrap .i64 (a+1))else none else some b
def Zm7 (a:Yq):Nat→Yc→Int→Option (Yc⊕(Yc×Int))
 |0,_,_=>none
 |f+1,d,b=>if decide (b<(a.length:Int))=true then (idx a b).bind λg=>(Zun g).bind λc=>(idx a (wrap .i64 (b+1))).bind λi=>(Zts i).bind λr88=>(some (decide (c.1<(0:Int)))).bind λj=>(some (j||(decide (r88.1<(0:Int))))).bind λk=>(if k=true then some true else (some (decide ((wrap .i64 (b+2))<(a.length:Int)))).bind λl=>(if l=true then (idx a (wrap .i64 (b+2))).bind λm=>some (!(m.toList==(⟨#[44]⟩:ByteArray).toList))else some false).bind λn=>some n).bind λo=>if o=true then some (.inr (([]:Yc),(4:Int)))else (Zm6 c r88 fuel d c.1).bind λp=>Zm7 a f p (wrap .i64 (b+3))else some (.inl d)
def Ztt (a:Yq):Option (Yc×Int):=(some ((a.length:Int)==1)).bind λb=>(if b=true then (idx a (0:Int)).bind λx3=>some (x3.toList==(⟨#[110,101,118,101,114]⟩:ByteArray).toList)else some false).bind λc=>if c=true then some (([]:Yc),(0:Int))else if((Int.tmod (a.length:Int) (3:Int))!=(2:Int))=true then some (([]:Yc),(4:Int))else (Zm7 a fuel [] 0).bind λ(d:(Yc⊕(Yc×Int)))=>match d with
 |.inl f=>if(decide ((wrap .i64 ((wrap .i64 (Int.tdiv (a.length:Int) (3:Int)))+1))>16))=true then some (([]:Yc),(3:Int))else (Zd4 f []).bind λg=>some (g,(0:Int))
 |.inr i=>some i
def Zg9:Nat→Zc→Yq→Int→Option (Zc×Yq)
 |0,_,_,_=>none
 |j+1,b,a,c=>if decide (c>0)=true then (Zg b 6).bind λd=>(idx [(⟨#[109,111,110]⟩:ByteArray),⟨#[116,117,101]⟩,⟨#[115,117,110]⟩,⟨#[109,111,110,45,102,114,105]⟩,⟨#[115,97,116,45,115,117,110]⟩,⟨#[119,101,100,45,119,101,100]⟩] d.1).bind λf=>(Zg d.2 5).bind λg=>(idx [(⟨#[48,48,58,48,48,45,50,52,58,48,48]⟩:ByteArray),⟨#[48,56,58,48,48,45,49,55,58,48,48]⟩,⟨#[48,56,58,48,48,45,48,56,58,48,49]⟩,⟨#[50,51,58,53,57,45,50,52,58,48,48]⟩,⟨#[49,55,58,48,48,45,49,56,58,51,48]⟩] g.1).bind λi=>if a.length+List.length [(⟨#[44]⟩:ByteArray),f,i]≤lim then Zg9 j g.2 (a++[(⟨#[44]⟩:ByteArray),f,i]) (wrap .i64 (c-1))else none else some (b,a)
def Zpi (d:Zc):Option (Yc×Zc):=(Zg d 6).bind λa=>(idx [(⟨#[109,111,110]⟩:ByteArray),⟨#[116,117,101]⟩,⟨#[115,117,110]⟩,⟨#[109,111,110,45,102,114,105]⟩,⟨#[115,97,116,45,115,117,110]⟩,⟨#[119,101,100,45,119,101,100]⟩] a.1).bind λx3=>(Zg a.2 5).bind λb=>(idx [(⟨#[48,48,58,48,48,45,50,52,58,48,48]⟩:ByteArray),⟨#[48,56,58,48,48,45,49,55,58,48,48]⟩,⟨#[48,56,58,48,48,45,48,56,58,48,49]⟩,⟨#[50,51,58,53,57,45,50,52,58,48,48]⟩,⟨#[49,55,58,48,48,45,49,56,58,51,48]⟩] b.1).bind λx7=>(Zg b.2 3).bind λc=>(Zg9 fuel c.2 [x3,x7] c.1).bind λ(g,i)=>(Ztt i).bind λj=>some (j.1,g)
def Zc8 (c:Zc) (b:Ye):Option (ByteArray×Zc):=(Zg c (wrap .i64 ((b.length:Int)+2))).bind λa=>if decide (a.1≥(b.length:Int))=true then some (ByteArray.empty,a.2)else (idx b a.1).bind λx3=>some (x3.Name,a.2)
def Zms (v:Zc) (c:Zb) (a:Zs):Option (Zam×Zc):=(Zg v 3).bind λd=>(Zc8 d.2 a.Groups).bind λf=>(Zc8 f.2 a.Groups).bind λg=>(Zc8 g.2 a.Services).bind λi=>((Zg i.2 5).bind λj=>if(j.1==4)=true then (Zc8 j.2 a.Groups).bind λn=>(Zc8 n.2 a.Groups).bind λo=>some (o.2,({({({(Zam.mk (decide (d.1>(0:Int))) f.1 g.1 i.1 false ByteArray.empty ByteArray.empty ByteArray.empty ByteArray.empty 0)with Excepted:=true}:Zam)with ExceptFrom:=n.1}:Zam)with ExceptTo:=o.1}:Zam))else some (j.2,Zam.mk (decide (d.1>(0:Int))) f.1 g.1 i.1 false ByteArray.empty ByteArray.empty ByteArray.empty ByteArray.empty 0)).bind λ(x,k)=>((Zg x (c.Devices.length:Int)).bind λb=>(some k.Permit).bind λy=>(if y=true then (Zg b.2 4).bind λp=>some ((p.1==3),p.2)else some (false,b.2)).bind λl=>(some l.1).bind λz=>if(z&&(decide (b.1<(c.Devices.length:Int))))=true then (idx c.Devices b.1).bind λa0=>some (l.2,({k with Class:=a0.Class}:Zam))else some (l.2,k)).bind λ(q,r)=>((some (decide ((a.Windows.length:Int)>0))).bind λa2=>(if a2=true then (Zg q 3).bind λs=>some ((s.1==2),s.2)else some (false,q)).bind λm=>if m.1=true then (Zg m.2 (a.Windows.length:Int)).bind λt=>(idx a.Windows t.1).bind λa3=>some (t.2,({r with During:=a3.Name}:Zam))else some (m.2,r)).bind λ(a5,a6)=>(Zg a5 5).bind λu=>(idx [(0:Int),(0:Int),(1:Int),(5:Int),(1000:Int)] u.1).bind λa7=>some (({a6 with Priority:=a7}:Zam),u.2)
def Zha (a:Zb) (b:Ye):Nat→Zc→ByteArray→Yg→Int→Option (Zc×ByteArray×Yg)
 |0,_,_,_,_=>none
 |q+1,i,j,c,k=>if decide (k>0)=true then ((Zgd i).bind λl=>((Zg l.2 (a.Edges.length:Int)).bind λd=>(some (decide ((a.Edges.length:Int)>0))).bind λr=>(if r=true then (Zg d.2 3).bind λm=>some ((decide (m.1<(2:Int))),m.2)else some (false,d.2)).bind λf=>if f.1=true then (idx a.Edges d.1).bind λs=>some (f.2,Z2.mk 1 s.Zone Zc4 0 Zao)else some (f.2,Z2.mk 2 ByteArray.empty l.1 0 Zao)).bind λ(n,u)=>((some (decide ((b.length:Int)>0))).bind λv=>(if v=true then (Zg n 4).bind λo=>some ((o.1==3),o.2)else some (false,n)).bind λg=>if g.1=true then (idx b (0:Int)).bind λw=>some (g.2,Z2.mk 3 w.Name Zc4 0 Zao)else some (g.2,u)).bind λ(y,p)=>if c.length+List.length [p]≤lim then some (y,c++[p])else none).bind λ(a0,a1)=>Zha a b q a0 j a1 (wrap .i64 (k-1))else some (i,j,c)
def Zhb (b:Zb):Nat→Zc→Ye→Int→Option (Zc×Ye)
 |0,_,_,_=>none
 |j+1,c,a,d=>if decide (d>0)=true then (idx [(⟨#[103,49]⟩:ByteArray),⟨#[103,50]⟩,⟨#[103,51]⟩] (a.length:Int)).bind λk=>(Zg c 2).bind λf=>(Zha b a fuel f.2 k [] (wrap .i64 ((1:Int)+f.1))).bind λ(m,g,i)=>if a.length+List.length [Zm.mk g i]≤lim then Zhb b j m (a++[Zm.mk g i]) (wrap .i64 (d-1))else none else some (c,a)
def Zhc (c:Ye):Nat→Zc→ByteArray→Yg→Int→Option (Zc×ByteArray×Yg)
 |0,_,_,_,_=>none
 |o+1,g,i,d,j=>if decide (j>0)=true then ((Zg g 5).bind λb=>(idx [(6:Int),(17:Int),(6:Int),(1:Int),(50:Int)] b.1).bind λa=>(if(a==1)=true then some (b.2,({(Z2.mk 4 ByteArray.empty Zc4 a Zao)with Ports:=(Za.mk 8 8)}:Z2))else (if(a==6)=true then some (a==6)else some (a==17)).bind λp=>if p=true then (Ze4 b.2 65535).bind λk=>some (k.2,({(Z2.mk 4 ByteArray.empty Zc4 a Zao)with Ports:=k.1}:Z2))else some (b.2,Z2.mk 4 ByteArray.empty Zc4 a Zao)).bind λ(l,r)=>((some (decide ((c.length:Int)>0))).bind λs=>(if s=true then (Zg l 4).bind λm=>some ((m.1==3),m.2)else some (false,l)).bind λf=>if f.1=true then (idx c (0:Int)).bind λt=>some (f.2,Z2.mk 3 t.Name Zc4 0 Zao)else some (f.2,r)).bind λ(v,n)=>if d.length+List.length [n]≤lim then some (v,d++[n])else none).bind λ(x,y)=>Zhc c o x i y (wrap .i64 (j-1))else some (g,i,d)
def Zhd:Nat→Zc→Ye→Int→Option (Zc×Ye)
 |0,_,_,_=>none
 |i+1,b,a,c=>if decide (c>0)=true then (idx [(⟨#[119,101,98]⟩:ByteArray),⟨#[115,115,104]⟩,⟨#[100,110,115]⟩] (a.length:Int)).bind λj=>(Zg b 2).bind λd=>(Zhc a fuel d.2 j [] (wrap .i64 ((1:Int)+d.1))).bind λ(l,f,g)=>if a.length+List.length [Zm.mk f g]≤lim then Zhd i l (a++[Zm.mk f g]) (wrap .i64 (c-1))else none else some (b,a)
def Zhe (j:Zb):Nat→Zc→Ye→Ye→Yu→Yz→Yx→Y0→Int→Option (Zc×Ye×Ye×Yu×Yz×Yx×Y0)
 |0,_,_,_,_,_,_,_,_=>none
 |m+1,k,b,c,d,a,f,g,l=>if decide (l>0)=true then (Zms k j (Zs.mk b c d a f g)).bind λi=>if a.length+List.length [i.1]≤lim then Zhe j m i.2 b c d (a++[i.1]) f g (wrap .i64 (l-1))else none else some (k,b,c,d,a,f,g)
def Zj8 (z:Zc) (a:Zb) (a0:Int):Option (Zs×Zc):=(Zg z 3).bind λm=>(Zhb a fuel m.2 [] (wrap .i64 ((1:Int)+m.1))).bind λ(a2,a3)=>(Zg a2 3).bind λn=>(Zhd fuel n.2 [] n.1).bind λ(a5,a6)=>((Zg a5 2).bind λb=>if(b.1==1)=true then (Zpi b.2).bind λc=>if List.length ([]:Yu)+List.length [Zbl.mk (⟨#[119,111,114,107]⟩:ByteArray) c.1]≤lim then some (c.2,[]++[Zbl.mk (⟨#[119,111,114,107]⟩:ByteArray) c.1])else none else some (b.2,([]:Yu))).bind λ(a8,a9)=>(Zg a8 (wrap .i64 (a0+1))).bind λo=>(Zhe a fuel o.2 a3 a6 a9 [] [] [] o.1).bind λ(p,b1,b2,b3,b4,d,f)=>((some (decide ((a.Edges.length:Int)>1))).bind λb5=>(if b5=true then (Zg p 2).bind λq=>some ((q.1==1),q.2)else some (false,p)).bind λg=>if g.1=true then (idx a.Edges (1:Int)).bind λb6=>(Za5 b6.Prefix).bind λr=>(Zg g.2 2).bind λs=>(idx [(6:Int),(17:Int)] s.1).bind λt=>(Zdd s.2 65535).bind λi=>(idx a.Edges (0:Int)).bind λu=>(Zdd i.2 65535).bind λj=>if d.length+List.length [Za2.mk 3405803781 t (wrap .i64 i.1) u.Name r.1.Lo (wrap .i64 j.1)]≤lim then some (j.2,d++[Za2.mk 3405803781 t (wrap .i64 i.1) u.Name r.1.Lo (wrap .i64 j.1)])else none else some (g.2,d)).bind λ(v,b8)=>((some (decide ((a.Edges.length:Int)>0))).bind λb9=>(if b9=true then (Zg v 3).bind λw=>some ((w.1==1),w.2)else some (false,v)).bind λk=>if k.1=true then (Zg k.2 (a.Edges.length:Int)).bind λx=>(idx a.Edges x.1).bind λy=>(Zg x.2 40).bind λl=>if f.length+List.length [Zbb.mk (⟨#[103,49]⟩:ByteArray) y.Name 3325256705 (Za.mk 1024 (wrap .u32 ((1024:Int)+(wrap .u32 l.1))))]≤lim then some (l.2,f++[Zbb.mk (⟨#[103,49]⟩:ByteArray) y.Name 3325256705 (Za.mk 1024 (wrap .u32 ((1024:Int)+(wrap .u32 l.1))))])else none else some (k.2,f)).bind λ(c1,c2)=>some ((Zs.mk b1 b2 b3 b4 b8 c2),c1)
def Zpj (c:Zc):Option (Int×Zc):=(Zg c 7).bind λa=>(Zg a.2 8).bind λb=>(idx [(0:Int),(479:Int),(480:Int),(481:Int),(1019:Int),(1020:Int),(1439:Int),(700:Int)] b.1).bind λx5=>some ((wrap .i64 ((wrap .i64 ((1440:Int)*a.1))+x5)),b.2)
def Zr1 (d:Zc) (f:Int) (g:Int):Option (Zb×Zs×Int×Zc):=(Zn1 d f).bind λa=>(Zj8 a.2 a.1 g).bind λb=>(Zpj b.2).bind λc=>some (a.1,b.1,c.1,c.2)
def Zk9 (d:Zb):Nat→Zc→Ya→Int→Option (Zc×Ya)
 |0,_,_,_=>none
 |g+1,f,a,b=>if decide (b<(d.Links.length:Int))=true then ((Zg f 5).bind λc=>if(c.1==4)=true then if a.length+List.length [b]≤lim then some (c.2,a++[b])else none else some (c.2,a)).bind λ(j,k)=>Zk9 d g j k (wrap .i64 (b+1))else some (f,a)
def Zla (d:Zb):Nat→Zc→Ya→Int→Option (Zc×Ya)
 |0,_,_,_=>none
 |g+1,f,a,b=>if decide (b<(d.Devices.length:Int))=true then ((Zg f 8).bind λc=>if(c.1==7)=true then if a.length+List.length [b]≤lim then some (c.2,a++[b])else none else some (c.2,a)).bind λ(j,k)=>Zla d g j k (wrap .i64 (b+1))else some (f,a)
def Zov (b:Zc) (a:Zb):Option (Zp×Zc):=(Zk9 a fuel b [] 0).bind λ(d,f)=>(Zla a fuel d [] 0).bind λ(i,j)=>some ((Zp.mk f j),i)
def Zdb (b:ByteArray):Nat→Int→Option Yb
 |0,_=>none
 |c+1,a=>if decide (a<(ByteArray.size b:Int))=true then (sidx b a).bind λd=>(some (decide (d≥97))).bind λf=>(if f=true then (sidx b a).bind λg=>some (decide (g≤122))else some false).bind λi=>(sidx b a).bind λj=>(some (decide (j≥48))).bind λk=>(if k=true then (sidx b a).bind λl=>some (decide (l≤57))else some false).bind λm=>(some m).bind λn=>(if n=true then some true else (sidx b a).bind λo=>some (o==45)).bind λp=>(some p).bind λq=>(if q=true then some true else (sidx b a).bind λr=>some (r==95)).bind λs=>(some (!i)).bind λt=>(if t=true then (some (!s)).bind λu=>some (u||(a==0))else some false).bind λv=>if v=true then some (.inr false)else Zdb b c (wrap .i64 (a+1))else some (.inl ())
def Zad (a:ByteArray):Option Bool:=(some (a.toList==ByteArray.empty.toList)).bind λb=>(some (b||(decide ((ByteArray.size a:Int)>24)))).bind λc=>if(c||(a.toList==(⟨#[97,110,121]⟩:ByteArray).toList))=true then some false else (Zdb a fuel 0).bind λ(d:Yb)=>match d with
 |.inl ()=>some true
 |.inr f=>some f
def Zct (b:Zb) (c:ByteArray):Nat→Int→Option Yf
 |0,_=>none
 |d+1,a=>if decide (a<(b.Devices.length:Int))=true then (idx b.Devices a).bind λx7=>if(x7.Name.toList==c.toList)=true then some (.inr a)else Zct b c d (wrap .i64 (a+1))else some (.inl ())
def Zew (a:Zb) (b:ByteArray):Option Int:=(Zct a b fuel 0).bind λ(c:Yf)=>match c with
 |.inl ()=>some (-1:Int)
 |.inr d=>some d
def Zbs (a:Yr):Nat→Int→Option Yb
 |0,_=>none
 |c+1,b=>if decide (b<(a.length:Int))=true then (idx a b).bind λd=>(Zad d.Name).bind λf=>(some (!f)).bind λg=>(if g=true then some true else (idx a b).bind λi=>(Zew (Zb.mk a [] [] [] 0) i.Name).bind λj=>some (j !=b)).bind λk=>(some k).bind λl=>(if l=true then some true else (idx a b).bind λm=>some (decide (m.Capacity<0))).bind λn=>(some n).bind λo=>(if o=true then some true else (idx a b).bind λp=>some (decide (p.Capacity>4096))).bind λq=>(some q).bind λr=>(if r=true then some true else (idx a b).bind λs=>(some (!(s.Class.toList==ByteArray.empty.toList))).bind λt=>(if t=true then (idx a b).bind λu=>(Zad u.Class).bind λv=>some (!v)else some false).bind λw=>some w).bind λx=>if x=true then some (.inr false)else Zbs a c (wrap .i64 (b+1))else some (.inl ())
def Zcm (a:Yr):Option Bool:=(some (decide ((a.length:Int)<1))).bind λb=>if(b||(decide ((a.length:Int)>12)))=true then some false else (Zbs a fuel 0).bind λ(c:Yb)=>match c with
 |.inl ()=>some true
 |.inr d=>some d
def Zde (a:Z1) (b:Int):Option Bool:=(Zad a.Name).bind λc=>(some (!c)).bind λd=>(if d=true then some true else (Zad a.Zone).bind λf=>some (!f)).bind λg=>(some g).bind λi=>(some (i||(decide (a.Device<0)))).bind λj=>(some (j||(decide (a.Device≥b)))).bind λk=>if(k||(decide (a.Prefix.Bits<1)))=true then some false else (Zcs a.Prefix).bind λl=>(some l).bind λm=>(if m=true then (some (!a.Planned)).bind λn=>some (n||(a.Prefix.Addr==0))else some false).bind λo=>some o
def Zc9 (b:Zb) (c:ByteArray):Nat→Int→Option Yf
 |0,_=>none
 |d+1,a=>if decide (a<(b.Edges.length:Int))=true then (idx b.Edges a).bind λx7=>if(x7.Name.toList==c.toList)=true then some (.inr a)else Zc9 b c d (wrap .i64 (a+1))else some (.inl ())
def Zcc (a:Zb) (b:ByteArray):Option Int:=(Zc9 a b fuel 0).bind λ(c:Yf)=>match c with
 |.inl ()=>some (-1:Int)
 |.inr d=>some d
def Zcg (a:Zb):Nat→Yl→Int→Option Yl
 |0,_,_=>none
 |f+1,b,c=>if decide (c<(a.Edges.length:Int))=true then ((idx a.Edges c).bind λg=>if(!g.Planned)=true then (idx a.Edges c).bind λd=>if b.length+List.length [d.Prefix]≤lim then some (b++[d.Prefix])else none else some b).bind λi=>Zcg a f i (wrap .i64 (c+1))else some b
def Zdf (a:Zb):Option Yl:=(Zcg a fuel [] 0).bind λb=>some b
def Zb9 (c:Zl) (b:Int):Option Bool:=(Za5 c).bind λa=>(some a.2).bind λd=>(some (d&&(decide (a.1.Lo≤b)))).bind λf=>some (f&&(decide (b≤a.1.Hi)))
def Zh1 (b:Zl) (c:Zl):Option Bool:=(Za5 c).bind λa=>(some a.2).bind λd=>(if d=true then (Zb9 b a.1.Lo).bind λf=>some f else some false).bind λg=>(some g).bind λi=>(if i=true then (Zb9 b a.1.Hi).bind λj=>some j else some false).bind λk=>some k
def Zk2 (a:Zl) (b:Zl):Option Bool:=(Zh1 a b).bind λc=>(some c).bind λd=>(if d=true then some true else (Zh1 b a).bind λf=>some f).bind λg=>some g
def Ze5 (c:Zl) (a:Yl):Nat→Int→Option Yb
 |0,_=>none
 |d+1,b=>if decide (b<(a.length:Int))=true then (idx a b).bind λf=>(Zk2 c f).bind λg=>if g=true then some (.inr true)else Ze5 c a d (wrap .i64 (b+1))else some (.inl ())
def Zh2 (a:Zl) (b:Yl):Option Bool:=(Ze5 a b fuel 0).bind λ(c:Yb)=>match c with
 |.inl ()=>some false
 |.inr d=>some d
def Zch (b:Zb):Nat→Int→Option Yb
 |0,_=>none
 |d+1,c=>if decide (c<(b.Links.length:Int))=true then (idx b.Links c).bind λa=>(some (decide (a.A<0))).bind λf=>(some (f||(decide (a.B≤a.A)))).bind λg=>(some (g||(decide (a.B≥(b.Devices.length:Int))))).bind λi=>(some (i||(decide (a.Cost<1)))).bind λj=>if(j||(decide (a.Cost>1000)))=true then some (.inr false)else Zch b d (wrap .i64 (c+1))else some (.inl ())
def Zci (a:Zb):Nat→Int→Option Yb
 |0,_=>none
 |c+1,b=>if decide (b<(a.Edges.length:Int))=true then (idx a.Edges b).bind λd=>(Zde d (a.Devices.length:Int)).bind λf=>(some (!f)).bind λg=>(if g=true then some true else (idx a.Edges b).bind λi=>(Zcc a i.Name).bind λj=>some (j !=b)).bind λk=>if k=true then some (.inr false)else Zci a c (wrap .i64 (b+1))else some (.inl ())
def Zcj (b:Yl):Nat→Int→Option Yb
 |0,_=>none
 |c+1,a=>if decide (a<(b.length:Int))=true then (idx b a).bind λd=>if 0≤(0:Int)∧(0:Int)≤a∧a≤(b.length:Int)then (Zh2 d (List.drop (Int.toNat (0:Int)) (List.take (Int.toNat a) b))).bind λf=>if f=true then some (.inr false)else Zcj b c (wrap .i64 (a+1))else none else some (.inl ())
def Zc0 (b:Zb):Nat→Int→Option Yb
 |0,_=>none
 |c+1,a=>if decide (a<(b.Pools.length:Int))=true then (idx b.Pools a).bind λd=>(Zcs d).bind λf=>(some (!f)).bind λg=>(if g=true then some true else (idx b.Pools a).bind λi=>if 0≤(0:Int)∧(0:Int)≤a∧a≤(b.Pools.length:Int)then (Zh2 i (List.drop (Int.toNat (0:Int)) (List.take (Int.toNat a) b.Pools))).bind λj=>some j else none).bind λk=>if k=true then some (.inr false)else Zc0 b c (wrap .i64 (a+1))else some (.inl ())
def Zcx (a:Zb):Option Bool:=(Zcm a.Devices).bind λb=>(some (!b)).bind λc=>(some (c||(decide ((a.Links.length:Int)>24)))).bind λd=>(some (d||(decide ((a.Edges.length:Int)>12)))).bind λf=>(some (f||(decide ((a.Pools.length:Int)>8)))).bind λg=>(some (g||(decide (a.Tolerate<0)))).bind λi=>if(i||(decide (a.Tolerate>2)))=true then some false else (Zch a fuel 0).bind λ(j:Yb)=>match j with
 |.inl ()=>(Zci a fuel 0).bind λ(k:Yb)=>match k with
  |.inl ()=>(Zdf a).bind λl=>(Zcj l fuel 0).bind λ(m:Yb)=>match m with
   |.inl ()=>(Zc0 a fuel 0).bind λ(n:Yb)=>match n with
    |.inl ()=>some true
    |.inr o=>some o
   |.inr p=>some p
  |.inr q=>some q
 |.inr r=>some r
def Zax (a:Zb):Option Bool:=(Zcx a).bind λb=>(some b).bind λc=>(if c=true then (Zdf a).bind λd=>some ((d.length:Int)==(a.Edges.length:Int))else some false).bind λf=>some f
def Zic (b:Ye) (c:ByteArray):Nat→Int→Option Yf
 |0,_=>none
 |d+1,a=>if decide (a<(b.length:Int))=true then (idx b a).bind λx7=>if(x7.Name.toList==c.toList)=true then some (.inr a)else Zic b c d (wrap .i64 (a+1))else some (.inl ())
def Zcu (a:Ye) (b:ByteArray):Option Int:=(Zic a b fuel 0).bind λ(c:Yf)=>match c with
 |.inl ()=>some (-1:Int)
 |.inr d=>some d
def Zlb (a:Za) (b:Int):Option Bool:=(some (decide (a.Lo≥b))).bind λc=>(some (c&&(decide (a.Lo≤a.Hi)))).bind λd=>some (d&&(decide (a.Hi≤65535)))
def Zj9 (a:Z2) (b:Bool):Option Bool:=if(a.Kind==3)=true then (Zad a.Name).bind λc=>(some c).bind λd=>some (d&&(Zu5 a (Z2.mk a.Kind a.Name Zc4 0 Zao)))else if(a.Kind==1)=true then (some b).bind λf=>(if f=true then (Zad a.Name).bind λg=>some g else some false).bind λi=>(some i).bind λj=>some (j&&(Zu5 a (Z2.mk a.Kind a.Name Zc4 0 Zao)))else if(a.Kind==2)=true then (some b).bind λk=>(if k=true then (Zcs a.Prefix).bind λl=>some l else some false).bind λm=>(some m).bind λn=>some (n&&(Zu5 a (Z2.mk a.Kind ByteArray.empty a.Prefix 0 Zao)))else if(a.Kind==4)=true then (some b).bind λo=>(some (o||(!(Zu5 a (Z2.mk a.Kind ByteArray.empty Zc4 a.Proto a.Ports))))).bind λp=>(some (p||(decide (a.Proto<0)))).bind λq=>if(q||(decide (a.Proto>255)))=true then some false else ((if(a.Proto==6)=true then some (a.Proto==6)else some (a.Proto==17)).bind λr=>if r=true then (Zlb a.Ports 0).bind λs=>some (.inr s)else if(a.Proto==1)=true then some (.inr (Zba a.Ports (Za.mk 8 8)))else some (.inl ())).bind λ(t:Yb)=>match t with
 |.inl ()=>some (Zba a.Ports (Za.mk 0 0))
 |.inr u=>some u else some false
def Zcv (a:Ye) (d:Bool) (b:Int):Nat→Int→Option Yb
 |0,_=>none
 |f+1,c=>(idx a b).bind λg=>if decide (c<(g.Items.length:Int))=true then (idx a b).bind λi=>(idx i.Items c).bind λj=>(Zj9 j d).bind λk=>if(!k)=true then some (.inr false)else Zcv a d b f (wrap .i64 (c+1))else some (.inl ())
def Zd5 (a:Ye) (c:Bool):Nat→Int→Option Yb
 |0,_=>none
 |d+1,b=>if decide (b<(a.length:Int))=true then (idx a b).bind λf=>(Zad f.Name).bind λg=>(some (!g)).bind λi=>(if i=true then some true else (idx a b).bind λj=>(Zcu a j.Name).bind λk=>some (k !=b)).bind λl=>(some l).bind λm=>(if m=true then some true else (idx a b).bind λn=>some (decide ((n.Items.length:Int)<1))).bind λo=>(some o).bind λp=>(if p=true then some true else (idx a b).bind λq=>some (decide ((q.Items.length:Int)>16))).bind λr=>if r=true then some (.inr false)else (Zcv a c b fuel 0).bind λ(s:Yb)=>match s with
  |.inl ()=>Zd5 a c d (wrap .i64 (b+1))
  |.inr t=>some (.inr t)else some (.inl ())
def Zda (a:Ye) (b:Bool):Option Bool:=if decide ((a.length:Int)>32)=true then some false else (Zd5 a b fuel 0).bind λ(c:Yb)=>match c with
 |.inl ()=>some true
 |.inr d=>some d
def Zge (b:Yu) (c:ByteArray):Nat→Int→Option Yf
 |0,_=>none
 |d+1,a=>if decide (a<(b.length:Int))=true then (idx b a).bind λx7=>if(x7.Name.toList==c.toList)=true then some (.inr a)else Zge b c d (wrap .i64 (a+1))else some (.inl ())
def Zea (a:Yu) (b:ByteArray):Option Int:=(Zge a b fuel 0).bind λ(c:Yf)=>match c with
 |.inl ()=>some (-1:Int)
 |.inr d=>some d
def Zm8 (b:Yc) (c:Int):Nat→Int→Option Yb
 |0,_=>none
 |d+1,a=>if decide (a<(b.length:Int))=true then (idx b a).bind λf=>(idx b a).bind λg=>(some (decide (f.Lo>g.Hi))).bind λi=>(if i=true then some true else (idx b a).bind λj=>some (decide (j.Hi>c))).bind λk=>(some k).bind λl=>(if l=true then some true else (some (decide (a>0))).bind λm=>(if m=true then (idx b a).bind λn=>(idx b (wrap .i64 (a-1))).bind λo=>some (decide ((wrap .u64 n.Lo)<(wrap .u64 ((wrap .u64 o.Hi)+2))))else some false).bind λp=>some p).bind λq=>if q=true then some (.inr false)else Zm8 b c d (wrap .i64 (a+1))else some (.inl ())
def Zqg (a:Yc) (b:Int):Option Bool:=(Zm8 a b fuel 0).bind λ(c:Yb)=>match c with
 |.inl ()=>some true
 |.inr d=>some d
def Zlc (a:Yc):Option Bool:=(Zqg a 10079).bind λb=>some b
def Zp6 (a:Yc) (b:Yc):Option Yc:=(Zk1 a b 1 4294967295).bind λc=>some c
def Zh3:Nat→Int→Option ByteArray
 |0,_=>none
 |nr+1,a=>if decide (a<10)=true then some (strOf [wrap .u8 (wrap .i64 ((48:Int)+a))])else ((Zh3 nr) (wrap .i64 (Int.tdiv a (10:Int)))).bind λb=>if b.size+(strOf [wrap .u8 (wrap .i64 ((48:Int)+(Int.tmod a (10:Int))))]).size≤9223372036854775807 then some (b++(strOf [wrap .u8 (wrap .i64 ((48:Int)+(Int.tmod a (10:Int))))]))else none
def Zsl (a:Int):Option ByteArray:=if decide (a<10)=true then (Zh3 fuel a).bind λb=>if(⟨#[48]⟩:ByteArray).size+b.size≤9223372036854775807 then some ((⟨#[48]⟩:ByteArray)++b)else none else (Zh3 fuel a).bind λc=>some c
def Zow (b:Int):Option ByteArray:=(Zsl (wrap .i64 (Int.tdiv b (60:Int)))).bind λa=>if a.size+(⟨#[58]⟩:ByteArray).size≤9223372036854775807 then (Zsl (Int.tmod b (60:Int))).bind λc=>if(a++(⟨#[58]⟩:ByteArray)).size+c.size≤9223372036854775807 then some ((a++(⟨#[58]⟩:ByteArray))++c)else none else none
def Zlq (b:Int) (c:Yc):Nat→Yq→Int→Option Yq
 |0,_,_=>none
 |k+1,a,d=>if decide (d<(c.length:Int))=true then ((if decide ((a.length:Int)>0)=true then if a.length+List.length [(⟨#[44]⟩:ByteArray)]≤lim then some (a++[(⟨#[44]⟩:ByteArray)])else none else some a).bind λi=>(Zum).bind λl=>(idx l b).bind λj=>(idx c d).bind λm=>(Zow (wrap .i64 (wrap .u32 (m.Lo-(wrap .u32 (wrap .i64 ((1440:Int)*b))))))).bind λf=>if f.size+(⟨#[45]⟩:ByteArray).size≤9223372036854775807 then (idx c d).bind λn=>(Zow (wrap .i64 ((wrap .i64 (wrap .u32 (n.Hi-(wrap .u32 (wrap .i64 ((1440:Int)*b))))))+1))).bind λg=>if(f++(⟨#[45]⟩:ByteArray)).size+g.size≤9223372036854775807 then if i.length+List.length [j,(f++(⟨#[45]⟩:ByteArray))++g]≤lim then some (i++[j,(f++(⟨#[45]⟩:ByteArray))++g])else none else none else none).bind λo=>Zlq b c k o (wrap .i64 (d+1))else some a
def Zp7 (b:Yc):Nat→Yq→Int→Option Yq
 |0,_,_=>none
 |d+1,c,a=>if decide (a<7)=true then (Zp6 b [Za.mk (wrap .u32 (wrap .i64 ((1440:Int)*a))) (wrap .u32 ((wrap .u32 (wrap .i64 ((1440:Int)*a)))+1439))]).bind λf=>(Zlq a f fuel c 0).bind λg=>Zp7 b d g (wrap .i64 (a+1))else some c
def Zsv (a:Yc):Option Yq:=(Zlc a).bind λb=>if(!b)=true then some ([]:Yq)else if((a.length:Int)==0)=true then some [(⟨#[110,101,118,101,114]⟩:ByteArray)]else (Zp7 a fuel [] 0).bind λc=>some c
def Zm9 (a:Yc):Option Bool:=(Zlc a).bind λb=>(some b).bind λc=>(if c=true then (Zsv a).bind λd=>some (decide ((d.length:Int)≤47))else some false).bind λf=>some f
def Zb5 (a:ByteArray):Option Bool:=(some (a.toList==ByteArray.empty.toList)).bind λb=>(if b=true then some true else (Zad a).bind λc=>some c).bind λd=>some d
def Zf6 (a:Zam):Option Bool:=(Zb5 a.From).bind λb=>(some (!b)).bind λc=>(if c=true then some true else (Zb5 a.To).bind λd=>some (!d)).bind λf=>(some f).bind λg=>(if g=true then some true else (Zb5 a.Service).bind λi=>some (!i)).bind λj=>(some j).bind λk=>(if k=true then some true else (Zb5 a.Class).bind λl=>some (!l)).bind λm=>(some m).bind λn=>(if n=true then some true else (Zb5 a.During).bind λo=>some (!o)).bind λp=>(some p).bind λq=>(if q=true then some true else (Zb5 a.ExceptFrom).bind λr=>some (!r)).bind λs=>(some s).bind λt=>(if t=true then some true else (Zb5 a.ExceptTo).bind λu=>some (!u)).bind λv=>if v=true then some false else (some a.Permit).bind λw=>(some (w||(a.Class.toList==ByteArray.empty.toList))).bind λx=>(if x=true then (some a.Excepted).bind λy=>(if y=true then some true else (some (a.ExceptFrom.toList==ByteArray.empty.toList)).bind λz=>some (z&&(a.ExceptTo.toList==ByteArray.empty.toList))).bind λa0=>some a0 else some false).bind λa1=>(some a1).bind λa2=>(some (a2&&(decide (a.Priority≥0)))).bind λa3=>some (a3&&(decide (a.Priority≤1000)))
def Zna (a:Int):Option Bool:=(some (decide (a≥0))).bind λb=>some (b&&(decide (a≤65535)))
def Zlr (a:Zs):Nat→Int→Option Yb
 |0,_=>none
 |c+1,b=>if decide (b<(a.Windows.length:Int))=true then (idx a.Windows b).bind λd=>(Zad d.Name).bind λf=>(some (!f)).bind λg=>(if g=true then some true else (idx a.Windows b).bind λi=>(Zea a.Windows i.Name).bind λj=>some (j !=b)).bind λk=>(some k).bind λl=>(if l=true then some true else (idx a.Windows b).bind λm=>(Zm9 m.Active).bind λn=>some (!n)).bind λo=>if o=true then some (.inr false)else Zlr a c (wrap .i64 (b+1))else some (.inl ())
def Zls (a:Zs):Nat→Int→Option Yb
 |0,_=>none
 |c+1,b=>if decide (b<(a.Statements.length:Int))=true then (idx a.Statements b).bind λd=>(Zf6 d).bind λf=>if(!f)=true then some (.inr false)else Zls a c (wrap .i64 (b+1))else some (.inl ())
def Zlt (b:Zs):Nat→Int→Option Yb
 |0,_=>none
 |d+1,c=>if decide (c<(b.Published.length:Int))=true then (idx b.Published c).bind λa=>(some (a.Proto !=(6:Int))).bind λf=>(some (f&&(a.Proto !=(17:Int)))).bind λg=>(if g=true then some true else (Zna a.Port).bind λi=>some (!i)).bind λj=>(some j).bind λk=>(if k=true then some true else (Zna a.RealPort).bind λl=>some (!l)).bind λm=>(some m).bind λn=>(if n=true then some true else (Zad a.Edge).bind λo=>some (!o)).bind λp=>if p=true then some (.inr false)else Zlt b d (wrap .i64 (c+1))else some (.inl ())
def Zlu (a:Zs):Nat→Int→Option Yb
 |0,_=>none
 |d+1,b=>if decide (b<(a.Hidden.length:Int))=true then (idx a.Hidden b).bind λc=>(Zad c.Group).bind λf=>(some (!f)).bind λg=>(if g=true then some true else (Zad c.Edge).bind λi=>some (!i)).bind λj=>(some j).bind λk=>(if k=true then some true else (Zlb c.Ports 1024).bind λl=>some (!l)).bind λm=>if m=true then some (.inr false)else Zlu a d (wrap .i64 (b+1))else some (.inl ())
def Zcy (a:Zs):Option Bool:=(Zda a.Groups true).bind λb=>(some (!b)).bind λc=>(if c=true then some true else (Zda a.Services false).bind λd=>some (!d)).bind λf=>(some f).bind λg=>(some (g||(decide ((a.Windows.length:Int)>32)))).bind λi=>(some (i||(decide ((a.Statements.length:Int)>64)))).bind λj=>(some (j||(decide ((a.Published.length:Int)>16)))).bind λk=>if(k||(decide ((a.Hidden.length:Int)>8)))=true then some false else (Zlr a fuel 0).bind λ(l:Yb)=>match l with
 |.inl ()=>(Zls a fuel 0).bind λ(m:Yb)=>match m with
  |.inl ()=>(Zlt a fuel 0).bind λ(n:Yb)=>match n with
   |.inl ()=>(Zlu a fuel 0).bind λ(o:Yb)=>match o with
    |.inl ()=>some true
    |.inr p=>some p
   |.inr q=>some q
  |.inr r=>some r
 |.inr s=>some s
def Zn5 (c:Zb):Nat→Ya→Int→Option Ya
 |0,_,_=>none
 |d+1,b,a=>if decide (a<(c.Edges.length:Int))=true then if b.length+List.length [a]≤lim then Zn5 c d (b++[a]) (wrap .i64 (a+1))else none else some b
def Zuo (a:Zb):Option Ya:=(Zn5 a fuel [] 0).bind λb=>some b
def Zlv (d:Zb) (a:Ya):Nat→Yc→Int→Option Yc
 |0,_,_=>none
 |g+1,b,c=>if decide (c<(a.length:Int))=true then (idx a c).bind λi=>(idx d.Edges i).bind λj=>(Za5 j.Prefix).bind λf=>if b.length+List.length [f.1]≤lim then Zlv d a g (b++[f.1]) (wrap .i64 (c+1))else none else some b
def Zpk (a:Zb) (b:Ya):Option Yc:=(Zlv a b fuel [] 0).bind λc=>some c
def Zn6 (a:Ya) (c:Int):Nat→Int→Option Yb
 |0,_=>none
 |d+1,b=>if decide (b<(a.length:Int))=true then (idx a b).bind λx7=>if(x7==c)=true then some (.inr true)else Zn6 a c d (wrap .i64 (b+1))else some (.inl ())
def Zdr (a:Ya) (b:Int):Option Bool:=(Zn6 a b fuel 0).bind λ(c:Yb)=>match c with
 |.inl ()=>some false
 |.inr d=>some d
def Znb (c:Zb) (d:ByteArray):Nat→Ya→Int→Option Ya
 |0,_,_=>none
 |f+1,b,a=>if decide (a<(c.Edges.length:Int))=true then ((idx c.Edges a).bind λg=>if(g.Zone.toList==d.toList)=true then if b.length+List.length [a]≤lim then some (b++[a])else none else some b).bind λi=>Znb c d f i (wrap .i64 (a+1))else some b
def Zgf (a:Zb) (b:ByteArray):Option Ya:=(Znb a b fuel [] 0).bind λc=>some c
def Zox (d:Ya) (i:Zb) (f:Int):Nat→Ye→Yg→Int→Option ((Ye×Yg)⊕(Int×Ye×Ya×Yg))
 |0,_,_,_=>none
 |j+1,a,c,g=>(idx a f).bind λk=>if decide (g<(k.Items.length:Int))=true then ((idx a f).bind λl=>(idx l.Items g).bind λb=>if(b.Kind !=(3:Int))=true then (some (b.Kind==1)).bind λm=>(if m=true then (Zgf i b.Name).bind λn=>some ((n.length:Int)==0)else some false).bind λo=>if o=true then some (.inr ((5:Int),a,d,c))else if c.length+List.length [b]≤lim then some (.inl (c++[b]))else none else (Zcu a b.Name).bind λp=>if decide (p<0)=true then some (.inr ((5:Int),a,d,c))else none).bind λ(q:(Yg⊕(Int×Ye×Ya×Yg)))=>match q with
  |.inl r=>Zox d i f j a r (wrap .i64 (g+1))
  |.inr s=>some (.inr s)else some (.inl (a,c))
def Zqh (o:Zb) (c:Ye) (a:Ya) (d:Yg) (p:Zb) (q:Ya) (r:Z2) (s:Zb) (t:Ya) (u:Z2) (v:Zb) (w:Ya) (x:Z2) (g:Zb) (b:Int) (f:Ya):Option (Int×Ye×Ya×Yg):=(Zdr f b).bind λi=>if i=true then some ((8:Int),c,a,d)else (Zdr a b).bind λj=>if j=true then some ((0:Int),c,a,d)else if List.length ([]:Ya)+f.length≤lim then if List.length ([]++f)+List.length [b]≤lim then (Zox a g b fuel c d 0).bind λ(k:((Ye×Yg)⊕(Int×Ye×Ya×Yg)))=>match k with
 |.inl (l,m)=>if a.length+List.length [b]≤lim then some ((0:Int),l,a++[b],m)else none
 |.inr n=>some n else none else none
def Zoy (l:Zb) (m:Zb) (n:Ya) (o:Z2) (p:Zb) (q:Ya) (r:Z2) (g:Zb) (j:Int):Nat→Ye→Ya→Yg→Ya→Int→Option ((Ye×Ya×Yg×Ya)⊕(Int×Ye×Ya×Yg))
 |0,_,_,_,_,_=>none
 |t+1,a,f,d,i,k=>(idx a j).bind λu=>if decide (k<(u.Items.length:Int))=true then ((idx a j).bind λv=>(idx v.Items k).bind λc=>if(c.Kind !=(3:Int))=true then (some (c.Kind==1)).bind λw=>(if w=true then (Zgf g c.Name).bind λx=>some ((x.length:Int)==0)else some false).bind λy=>if y=true then some (.inr ((5:Int),a,f,d))else if d.length+List.length [c]≤lim then some (.inl (a,f,d++[c]))else none else (Zcu a c.Name).bind λs=>if decide (s<0)=true then some (.inr ((5:Int),a,f,d))else (Zqh l a f d m n o p q r g i c g s i).bind λb=>if(b.1 !=(0:Int))=true then some (.inr (b.1,b.2.1,b.2.2.1,b.2.2.2))else some (.inl (b.2.1,b.2.2.1,b.2.2.2))).bind λ(z:((Ye×Ya×Yg)⊕(Int×Ye×Ya×Yg)))=>match z with
  |.inl (a0,a1,a2)=>Zoy l m n o p q r g j t a0 a1 a2 i (wrap .i64 (k+1))
  |.inr a3=>some (.inr a3)else some (.inl (a,f,d,i))
def Zqi (i:Zb) (d:Ye) (b:Ya) (f:Yg) (j:Zb) (k:Ya) (l:Z2) (m:Zb) (n:Ya) (o:Z2) (p:Zb) (a:Int) (c:Ya):Option (Int×Ye×Ya×Yg):=(Zdr c a).bind λq=>if q=true then some ((8:Int),d,b,f)else (Zdr b a).bind λr=>if r=true then some ((0:Int),d,b,f)else if List.length ([]:Ya)+c.length≤lim then if List.length ([]++c)+List.length [a]≤lim then (Zoy i j k l m n o p a fuel d b f (([]++c)++[a]) (0:Int)).bind λ(s:((Ye×Ya×Yg×Ya)⊕(Int×Ye×Ya×Yg)))=>match s with
 |.inl (t,g,u,_)=>if g.length+List.length [a]≤lim then some ((0:Int),t,g++[a],u)else none
 |.inr v=>some v else none else none
def Zen (l:Zb) (m:Zb) (n:Ya) (o:Z2) (g:Zb) (j:Int):Nat→Ye→Ya→Yg→Ya→Int→Option ((Ye×Ya×Yg×Ya)⊕(Int×Ye×Ya×Yg))
 |0,_,_,_,_,_=>none
 |q+1,a,f,d,i,k=>(idx a j).bind λr=>if decide (k<(r.Items.length:Int))=true then ((idx a j).bind λs=>(idx s.Items k).bind λc=>if(c.Kind !=(3:Int))=true then (some (c.Kind==1)).bind λt=>(if t=true then (Zgf g c.Name).bind λu=>some ((u.length:Int)==0)else some false).bind λv=>if v=true then some (.inr ((5:Int),a,f,d))else if d.length+List.length [c]≤lim then some (.inl (a,f,d++[c]))else none else (Zcu a c.Name).bind λp=>if decide (p<0)=true then some (.inr ((5:Int),a,f,d))else (Zqi l a f d m n o g i c g p i).bind λb=>if(b.1 !=(0:Int))=true then some (.inr (b.1,b.2.1,b.2.2.1,b.2.2.2))else some (.inl (b.2.1,b.2.2.1,b.2.2.2))).bind λ(w:((Ye×Ya×Yg)⊕(Int×Ye×Ya×Yg)))=>match w with
  |.inl (x,y,z)=>Zen l m n o g j q x y z i (wrap .i64 (k+1))
  |.inr a0=>some (.inr a0)else some (.inl (a,f,d,i))
def Zka (i:Zb) (d:Ye) (b:Ya) (f:Yg) (j:Zb) (k:Ya) (l:Z2) (m:Zb) (a:Int) (c:Ya):Option (Int×Ye×Ya×Yg):=(Zdr c a).bind λn=>if n=true then some ((8:Int),d,b,f)else (Zdr b a).bind λo=>if o=true then some ((0:Int),d,b,f)else if List.length ([]:Ya)+c.length≤lim then if List.length ([]++c)+List.length [a]≤lim then (Zen i j k l m a fuel d b f (([]++c)++[a]) (0:Int)).bind λ(p:((Ye×Ya×Yg×Ya)⊕(Int×Ye×Ya×Yg)))=>match p with
 |.inl (q,g,r,_)=>if g.length+List.length [a]≤lim then some ((0:Int),q,g++[a],r)else none
 |.inr s=>some s else none else none
def Zeo (l:Zb) (g:Zb) (j:Int):Nat→Ye→Ya→Yg→Ya→Int→Option ((Ye×Ya×Yg×Ya)⊕(Int×Ye×Ya×Yg))
 |0,_,_,_,_,_=>none
 |n+1,a,f,d,i,k=>(idx a j).bind λo=>if decide (k<(o.Items.length:Int))=true then ((idx a j).bind λp=>(idx p.Items k).bind λc=>if(c.Kind !=(3:Int))=true then (some (c.Kind==1)).bind λq=>(if q=true then (Zgf g c.Name).bind λr=>some ((r.length:Int)==0)else some false).bind λs=>if s=true then some (.inr ((5:Int),a,f,d))else if d.length+List.length [c]≤lim then some (.inl (a,f,d++[c]))else none else (Zcu a c.Name).bind λm=>if decide (m<0)=true then some (.inr ((5:Int),a,f,d))else (Zka l a f d g i c g m i).bind λb=>if(b.1 !=(0:Int))=true then some (.inr (b.1,b.2.1,b.2.2.1,b.2.2.2))else some (.inl (b.2.1,b.2.2.1,b.2.2.2))).bind λ(t:((Ye×Ya×Yg)⊕(Int×Ye×Ya×Yg)))=>match t with
  |.inl (u,v,w)=>Zeo l g j n u v w i (wrap .i64 (k+1))
  |.inr x=>some (.inr x)else some (.inl (a,f,d,i))
def Zqj (g:Zb) (c:Ye) (b:Ya) (d:Yg) (i:Zb) (a:Int):Option (Int×Ye×Ya×Yg):=(Zdr [] a).bind λj=>if j=true then some ((8:Int),c,b,d)else (Zdr b a).bind λk=>if k=true then some ((0:Int),c,b,d)else if List.length ([]:Ya)+List.length ([]:Ya)≤lim then if List.length ([]++([]:Ya))+List.length [a]≤lim then (Zeo g i a fuel c b d (([]++([]:Ya))++[a]) (0:Int)).bind λ(l:((Ye×Ya×Yg×Ya)⊕(Int×Ye×Ya×Yg)))=>match l with
 |.inl (m,f,n,_)=>if f.length+List.length [a]≤lim then some ((0:Int),m,f++[a],n)else none
 |.inr o=>some o else none else none
def Zqk (a:Zb) (b:Ye) (f:ByteArray):Option (Yg×Int):=(Zcu b f).bind λc=>if decide (c<0)=true then some (([]:Yg),(5:Int))else (Zqj a b [] [] a c).bind λd=>some (d.2.2.2,d.1)
def Zlw (d:Zb) (a:(Yg×Int)):Nat→Yc→Int→Option Yc
 |0,_,_=>none
 |i+1,b,c=>if decide (c<(a.1.length:Int))=true then ((idx a.1 c).bind λj=>if(j.Kind==1)=true then (idx a.1 c).bind λk=>(Zgf d k.Name).bind λl=>(Zpk d l).bind λf=>if b.length+f.length≤lim then some (b++f)else none else (idx a.1 c).bind λm=>(Za5 m.Prefix).bind λg=>if b.length+List.length [g.1]≤lim then some (b++[g.1])else none).bind λn=>Zlw d a i n (wrap .i64 (c+1))else some b
def Zdg (a:Zb) (c:Zs) (d:ByteArray):Option (Yc×Int):=(Zax a).bind λf=>(some (!f)).bind λg=>(if g=true then some true else (Zcy c).bind λi=>some (!i)).bind λj=>if j=true then some (([]:Yc),(1:Int))else if(d.toList==ByteArray.empty.toList)=true then (Zuo a).bind λk=>(Zpk a k).bind λl=>(Zd4 l []).bind λm=>some (m,(0:Int))else (Zqk a c.Groups d).bind λb=>if(b.2 !=(0:Int))=true then some (([]:Yc),b.2)else (Zlw a b fuel [] 0).bind λn=>(Zd4 n []).bind λo=>some (o,(0:Int))
def Zmz (a:Int):Option Int:=((if(a==0)=true then some (a==0)else some (a==1)).bind λb=>if b=true then some (.inr (4294967295:Int))else if(a==2)=true then some (.inr (255:Int))else (if(a==3)=true then some (a==3)else some (a==4)).bind λc=>if c=true then some (.inr (65535:Int))else some (.inl ())).bind λ(d:Yf)=>match d with
 |.inl ()=>some (0:Int)
 |.inr f=>some f
def Zvx:Nat→ZB→Int→Option ZB
 |0,_,_=>none
 |c+1,b,a=>if decide (a<5)=true then (Zmz a).bind λd=>if 0≤a∧a<5 then Zvx c (Arr5.set b a ({(Arr5.get b a)with Hi:=d}:Za)) (wrap .i64 (a+1))else none else some b
def Zcq:Option ZB:=(Zvx fuel Zfo 0).bind λa=>some a
def Zav (b:ZB):Nat→Int→Option Yb
 |0,_=>none
 |c+1,a=>if decide (a<5)=true then if 0≤a∧a<5 then if 0≤a∧a<5 then (some (decide ((Arr5.get b a).Lo>(Arr5.get b a).Hi))).bind λd=>(if d=true then some true else if 0≤a∧a<5 then (Zmz a).bind λf=>some (decide ((Arr5.get b a).Hi>f))else none).bind λg=>if g=true then some (.inr false)else Zav b c (wrap .i64 (a+1))else none else none else some (.inl ())
def Zbp (a:ZB):Option Bool:=(Zav a fuel 0).bind λ(b:Yb)=>match b with
 |.inl ()=>some true
 |.inr c=>some c
def Zid (a:ZL):Nat→ZL→Int→Option ZL
 |0,_,_=>none
 |f+1,b,c=>if decide (c<(a.length:Int))=true then ((idx a c).bind λg=>(Zbp g).bind λi=>if i=true then (idx a c).bind λd=>if b.length+List.length [d]≤lim then some (b++[d])else none else some b).bind λj=>Zid a f j (wrap .i64 (c+1))else some b
def Zgg (a:ZL):Option ZL:=(Zid a fuel ([]:ZL) 0).bind λb=>some b
def Zql (c:Int) (a:Bool) (b:Bool):Option Bool:=if(c==0)=true then (some a).bind λd=>some (d||b)else if(c==1)=true then (some a).bind λf=>some (f&&b)else if(c==2)=true then (some a).bind λg=>some (g&&(!b))else some (!(a==b))
def Zro (b:Int) (a:Bool) (c:Bool):Option Bool:=if(b==1)=true then (some (!a)).bind λd=>some (d||(!c))else if(b==2)=true then some (!a)else (some (!a)).bind λf=>some (f&&(!c))
def Zhn (b:ZL) (a:Int):Nat→Yc→Int→Option Yc
 |0,_,_=>none
 |g+1,c,d=>if decide (d<(b.length:Int))=true then (idx b d).bind λf=>if 0≤a∧a<5 then if c.length+List.length [Arr5.get f a]≤lim then Zhn b a g (c++[Arr5.get f a]) (wrap .i64 (d+1))else none else none else some c
def Zho (b:ZL) (a:Int):Nat→Yc→Int→Option Yc
 |0,_,_=>none
 |g+1,c,d=>if decide (d<(b.length:Int))=true then (idx b d).bind λf=>if 0≤a∧a<5 then if c.length+List.length [Arr5.get f a]≤lim then Zho b a g (c++[Arr5.get f a]) (wrap .i64 (d+1))else none else none else some c
def Zpl (b:ZL) (c:ZL) (a:Int):Option Yc:=(Zhn b a fuel [] 0).bind λd=>(Zho c a fuel d 0).bind λf=>some f
def Znc (b:ZL) (a:Int) (f:Int):Nat→ZL→Int→Option ZL
 |0,_,_=>none
 |i+1,d,c=>if decide (c<(b.length:Int))=true then ((idx b c).bind λj=>if 0≤a∧a<5 then (some (decide ((wrap .u64 (Arr5.get j a).Lo)≤f))).bind λk=>(if k=true then (idx b c).bind λl=>if 0≤a∧a<5 then some (decide (f≤(wrap .u64 (Arr5.get l a).Hi)))else none else some false).bind λm=>if m=true then (idx b c).bind λg=>if d.length+List.length [g]≤lim then some (d++[g])else none else some d else none).bind λn=>Znc b a f i n (wrap .i64 (c+1))else some d
def Zq6 (a:ZL) (b:Int) (c:Int):Option ZL:=(Znc a b c fuel ([]:ZL) 0).bind λd=>some d
def Zjw (b:ZL) (c:ZL):Nat→Int→Option Yb
 |0,_=>none
 |d+1,a=>if decide (a<(b.length:Int))=true then (idx b a).bind λf=>(idx c a).bind λg=>if(!(Ztq f g))=true then some (.inr false)else Zjw b c d (wrap .i64 (a+1))else some (.inl ())
def Zoz (a:ZL) (b:ZL):Option Bool:=if((a.length:Int)!=(b.length:Int))=true then some false else (Zjw a b fuel 0).bind λ(c:Yb)=>match c with
 |.inl ()=>some true
 |.inr d=>some d
def Zie (a:Int) (d:Int):Nat→ZL→Int→Option ZL
 |0,_,_=>none
 |g+1,b,c=>if decide (c<(b.length:Int))=true then (idx b c).bind λf=>if 0≤a∧a<5 then Zie a d g (List.set b (Int.toNat c) (Arr5.set f a ({(Arr5.get f a)with Hi:=(wrap .u32 d)}:Za))) (wrap .i64 (c+1))else none else some b
def Zfr (a:Int) (g:Ya) (i:Int) (b:Int) (c:ZL):Nat→ZL→Int→Option ZL
 |0,_,_=>none
 |l+1,d,f=>if decide (f<(c.length:Int))=true then (idx c f).bind λj=>(idx g i).bind λk=>if 0≤a∧a<5 then if d.length+List.length [Arr5.set j a (Za.mk (wrap .u32 k) (wrap .u32 b))]≤lim then Zfr a g i b c l (d++[Arr5.set j a (Za.mk (wrap .u32 k) (wrap .u32 b))]) (wrap .i64 (f+1))else none else none else some d
def Zif (g:ZL) (i:ZL) (j:Int) (b:Int) (k:ZL→ZL→Int→Int→Option ZL) (c:Ya):Nat→ZL→ZL→Int→Option ZL
 |0,_,_,_=>none
 |n+1,f,l,a=>if decide (a<(c.length:Int))=true then ((Zmz b).bind λo=>(if(decide ((wrap .i64 (a+1))<(c.length:Int)))=true then (idx c (wrap .i64 (a+1))).bind λp=>some (wrap .u64 (p-1))else some (wrap .u64 o)).bind λm=>(idx c a).bind λq=>(Zq6 g b q).bind λr=>(idx c a).bind λs=>(Zq6 i b s).bind λt=>(k r t j (wrap .i64 (b+1))).bind λd=>(some (decide (a>0))).bind λu=>(some (u&&(decide ((d.length:Int)>0)))).bind λv=>(if v=true then (Zoz d l).bind λw=>some w else some false).bind λx=>if x=true then (Zie b m fuel f (wrap .i64 ((f.length:Int)-(d.length:Int)))).bind λy=>some (y,l)else (Zfr b c a m d fuel f 0).bind λz=>some (z,d)).bind λ(a1,a2)=>Zif g i j b k c n a1 a2 (wrap .i64 (a+1))else some f
def Zcd:Nat→ZL→ZL→Int→Int→Option ZL
 |0,_,_,_,_=>none
 |nr+1,a,b,d,c=>if(c==5)=true then (Zql d (decide ((a.length:Int)>0)) (decide ((b.length:Int)>0))).bind λf=>if f=true then some [Arr5.mk Zao Zao Zao Zao Zao]else some ([]:ZL)else (Zro d (decide ((a.length:Int)>0)) (decide ((b.length:Int)>0))).bind λg=>if g=true then some ([]:ZL)else (Zpl a b c).bind λi=>(Zmz c).bind λj=>(Zh0 i j).bind λk=>(Zif a b d c (Zcd nr) k fuel ([]:ZL) ([]:ZL) 0).bind λl=>some l
def Zx7 (a:ZL):Option ZL:=(Zgg a).bind λb=>(Zcd fuel b ([]:ZL) 0 0).bind λc=>some c
def Ztu:Nat→ZL→Int→Option ZL
 |0,_,_=>none
 |f+1,a,b=>if(decide (b<(List.length [Za.mk 0 0,Za.mk 2 5,Za.mk 7 16,Za.mk 18 255]:Int)))=true then (Zcq).bind λc=>(idx [Za.mk 0 0,Za.mk 2 5,Za.mk 7 16,Za.mk 18 255] b).bind λd=>if a.length+List.length [({({({c with x2:=d}:ZB)with x3:=(Za.mk 0 0)}:ZB)with x4:=(Za.mk 0 0)}:ZB)]≤lim then Ztu f (a++[({({({c with x2:=d}:ZB)with x3:=(Za.mk 0 0)}:ZB)with x4:=(Za.mk 0 0)}:ZB)]) (wrap .i64 (b+1))else none else some a
def Ztv:Nat→ZL→Int→Option ZL
 |0,_,_=>none
 |d+1,b,a=>if decide (a≤17)=true then (Zcq).bind λc=>if b.length+List.length [({c with x2:=(Za.mk a a)}:ZB)]≤lim then Ztv d (b++[({c with x2:=(Za.mk a a)}:ZB)]) (wrap .u32 (a+11))else none else some b
def Zgw:Option ZL:=(Ztu fuel ([]:ZL) 0).bind λc=>(Ztv fuel c 6).bind λb=>(Zcq).bind λa=>if b.length+List.length [({({({a with x2:=(Za.mk 1 1)}:ZB)with x4:=(Za.mk 8 8)}:ZB)with x3:=({a.x3 with Hi:=(7:Int)}:Za)}:ZB),({({({a with x2:=(Za.mk 1 1)}:ZB)with x4:=(Za.mk 8 8)}:ZB)with x3:=({a.x3 with Lo:=(9:Int)}:Za)}:ZB)]≤lim then (Zx7 (b++[({({({a with x2:=(Za.mk 1 1)}:ZB)with x4:=(Za.mk 8 8)}:ZB)with x3:=({a.x3 with Hi:=(7:Int)}:Za)}:ZB),({({({a with x2:=(Za.mk 1 1)}:ZB)with x4:=(Za.mk 8 8)}:ZB)with x3:=({a.x3 with Lo:=(9:Int)}:Za)}:ZB)])).bind λd=>some d else none
def Zig (c:ZL) (d:ZL) (b:Int):Nat→Int→Option Yb
 |0,_=>none
 |f+1,a=>if decide (a<5)=true then (idx c b).bind λg=>if 0≤a∧a<5 then (idx d b).bind λi=>if 0≤a∧a<5 then if(!(Zba (Arr5.get g a) (Arr5.get i a)))=true then some (.inr false)else Zig c d b f (wrap .i64 (a+1))else none else none else some (.inl ())
def Zih (a:ZL) (c:ZL) (d:Int):Nat→Int→Option Yb
 |0,_=>none
 |f+1,b=>if decide (b<(a.length:Int))=true then (Zig a c b fuel d).bind λ(g:Yb)=>match g with
  |.inl ()=>Zih a c d f (wrap .i64 (b+1))
  |.inr i=>some (.inr i)else some (.inl ())
def Znd (a:ZL) (b:ZL) (c:Int):Option Bool:=if((a.length:Int)!=(b.length:Int))=true then some false else (Zih a b c fuel 0).bind λ(d:Yb)=>match d with
 |.inl ()=>some true
 |.inr f=>some f
def Ze9 (b:ZL) (a:Int) (d:Int):Nat→Int→Option Int
 |0,_=>none
 |f+1,c=>(some (decide (c<(b.length:Int)))).bind λg=>(if g=true then (idx b c).bind λi=>if 0≤a∧a<5 then (idx b d).bind λj=>if 0≤a∧a<5 then some (Zba (Arr5.get i a) (Arr5.get j a))else none else none else some false).bind λk=>if k=true then Ze9 b a d f (wrap .i64 (c+1))else some c
def Zds (c:ZL) (a:Int) (f:ZL→Int→Option Bool):Nat→ZL→Int→Option Yb
 |0,_,_=>none
 |k+1,l,b=>if decide (b<(c.length:Int))=true then ((Ze9 c a b fuel b).bind λd=>if 0≤b∧b≤d∧d≤(c.length:Int)then (if decide (b>0)=true then (idx c (wrap .i64 (b-1))).bind λg=>if 0≤a∧a<5 then (idx c b).bind λi=>if 0≤a∧a<5 then (some (decide ((Arr5.get i a).Lo≤(Arr5.get g a).Hi))).bind λm=>(if m=true then some true else (some ((Arr5.get i a).Lo==(wrap .u32 ((Arr5.get g a).Hi+1)))).bind λn=>(if n=true then (Znd l (List.drop (Int.toNat b) (List.take (Int.toNat d) c)) (wrap .i64 (a+1))).bind λo=>some o else some false).bind λp=>some p).bind λq=>if q=true then some (.inr false)else some (.inl ())else none else none else some (.inl ())).bind λ(r:Yb)=>match r with
  |.inl ()=>(f (List.drop (Int.toNat b) (List.take (Int.toNat d) c)) (wrap .i64 (a+1))).bind λs=>if(!s)=true then some (.inr false)else some (.inl (List.drop (Int.toNat b) (List.take (Int.toNat d) c)))
  |.inr t=>some (.inr t)else none).bind λ(u:(ZL⊕Bool))=>match u with
  |.inl j=>Zds c a f k j (wrap .i64 (b+(j.length:Int)))
  |.inr v=>some (.inr v)else some (.inl ())
def Zd1:Nat→ZL→Int→Option Bool
 |0,_,_=>none
 |nr+1,a,b=>if(b==5)=true then some ((a.length:Int)==1)else (Zds a b (Zd1 nr) fuel ([]:ZL) 0).bind λ(c:Yb)=>match c with
  |.inl ()=>some true
  |.inr d=>some d
def Zd6 (a:ZL):Option Bool:=(some (decide ((a.length:Int)≤4096))).bind λb=>(if b=true then (Zgg a).bind λc=>some ((c.length:Int)==(a.length:Int))else some false).bind λd=>(some d).bind λf=>(if f=true then (Zd1 fuel a 0).bind λg=>some g else some false).bind λi=>some i
def Zjx (a:ZL):Option (ZL×Int):=if decide ((a.length:Int)>4096)=true then some (([]:ZL),(3:Int))else some (a,(0:Int))
def Zjy (b:ZL):Nat→ZL→Int→Option (ZL⊕(ZL×Int))
 |0,_,_=>none
 |f+1,c,a=>if decide (a<(b.length:Int))=true then ((idx b a).bind λg=>(Zbp g).bind λi=>if(!i)=true then some (.inl c)else if 0≤a∧a≤(wrap .i64 (a+1))∧(wrap .i64 (a+1))≤(b.length:Int)then (Zcd fuel c (List.drop (Int.toNat a) (List.take (Int.toNat (wrap .i64 (a+1))) b)) (0:Int) (0:Int)).bind λj=>(Zjx j).bind λd=>if(d.2 !=(0:Int))=true then some (.inr (([]:ZL),d.2))else some (.inl d.1)else none).bind λ(k:(ZL⊕(ZL×Int)))=>match k with
  |.inl l=>Zjy b f l (wrap .i64 (a+1))
  |.inr m=>some (.inr m)else some (.inl c)
def Zep (a:ZL):Option (ZL×Int):=(Zjy a fuel ([]:ZL) 0).bind λ(b:(ZL⊕(ZL×Int)))=>match b with
 |.inl c=>some (c,(0:Int))
 |.inr d=>some d
def Zne (a:ZL):Option (ZL×Int):=(Zd6 a).bind λc=>if c=true then some (a,(0:Int))else (Zep a).bind λb=>some (b.1,b.2)
def Zgx (d:ZL) (f:ZL) (g:Int):Option (ZL×Int):=(Zne d).bind λa=>if(a.2 !=(0:Int))=true then some (([]:ZL),a.2)else (Zne f).bind λb=>if(b.2 !=(0:Int))=true then some (([]:ZL),b.2)else (Zcd fuel a.1 b.1 g 0).bind λi=>(Zjx i).bind λc=>some (c.1,c.2)
def Zby (b:ZL) (c:ZL):Option (ZL×Int):=(Zgx b c 1).bind λa=>some (a.1,a.2)
def Znf (a:Z2):Option ZL:=(Zcq).bind λb=>(Zgw).bind λc=>(Zby c [({({b with x2:=(Za.mk (wrap .u32 a.Proto) (wrap .u32 a.Proto))}:ZB)with x4:=a.Ports}:ZB)]).bind λd=>some d.1
def Zez (b:ZL) (c:ZL):Option (ZL×Int):=(Zgx b c 0).bind λa=>some (a.1,a.2)
def Ziz (a:(Yg×Int)):Nat→ZL→Int→Option (ZL⊕(ZL×Int))
 |0,_,_=>none
 |f+1,d,b=>if decide (b<(a.1.length:Int))=true then (idx a.1 b).bind λg=>(Znf g).bind λi=>(Zez d i).bind λc=>if(c.2 !=(0:Int))=true then some (.inr (([]:ZL),c.2))else Ziz a f c.1 (wrap .i64 (b+1))else some (.inl d)
def Zng (b:Zs) (c:ByteArray):Option (ZL×Int):=(Zcy b).bind λd=>if(!d)=true then some (([]:ZL),(1:Int))else if(c.toList==ByteArray.empty.toList)=true then (Zgw).bind λf=>some (f,(0:Int))else (Zqk (Zb.mk [] [] [] [] 0) b.Services c).bind λa=>if(a.2 !=(0:Int))=true then some (([]:ZL),a.2)else (Ziz a fuel ([]:ZL) 0).bind λ(g:(ZL⊕(ZL×Int)))=>match g with
 |.inl i=>some (i,(0:Int))
 |.inr j=>some j
def Zi0 (d:Yc) (a:Yc) (f:Int):Nat→ZL→Int→Option ZL
 |0,_,_=>none
 |k+1,b,c=>if decide (c<(a.length:Int))=true then (Zcq).bind λg=>(idx d f).bind λi=>(idx a c).bind λj=>if b.length+List.length [({({g with x0:=i}:ZB)with x1:=j}:ZB)]≤lim then Zi0 d a f k (b++[({({g with x0:=i}:ZB)with x1:=j}:ZB)]) (wrap .i64 (c+1))else none else some b
def Zi1 (a:Yc) (c:Yc):Nat→ZL→Int→Option ZL
 |0,_,_=>none
 |f+1,d,b=>if decide (b<(a.length:Int))=true then (Zi0 a c b fuel d 0).bind λg=>Zi1 a c f g (wrap .i64 (b+1))else some d
def Znh (a:Yc) (b:Yc):Option (ZL×Int):=(Zi1 a b fuel ([]:ZL) 0).bind λc=>(Zep c).bind λr88=>some (r88.1,r88.2)
def Zfs (b:ZL) (c:ZL):Option (ZL×Int):=(Zgx b c 2).bind λa=>some (a.1,a.2)
def Zkb (c:Zb) (a:Zs) (f:Int):Option (ZL×Int):=(Zax c).bind λp=>(some (!p)).bind λq=>(if q=true then some true else (Zcy a).bind λr=>some (!r)).bind λs=>if s=true then some (([]:ZL),(1:Int))else (some (decide (f<0))).bind λt=>if(t||(decide (f≥(a.Statements.length:Int))))=true then some (([]:ZL),(2:Int))else (idx a.Statements f).bind λb=>(Zdg c a b.From).bind λg=>if(g.2 !=(0:Int))=true then some (([]:ZL),g.2)else (Zdg c a b.To).bind λi=>if(i.2 !=(0:Int))=true then some (([]:ZL),i.2)else (Zng a b.Service).bind λj=>if(j.2 !=(0:Int))=true then some (([]:ZL),j.2)else (if b.Excepted=true then (Zdg c a b.ExceptFrom).bind λk=>if(k.2 !=(0:Int))=true then some (.inr (([]:ZL),k.2))else (Zdg c a b.ExceptTo).bind λl=>if(l.2 !=(0:Int))=true then some (.inr (([]:ZL),l.2))else some (.inl (k.1,l.1))else some (.inl (([]:Yc),([]:Yc)))).bind λ(u:((Yc×Yc)⊕(ZL×Int)))=>match u with
 |.inl (v,w)=>(Znh g.1 i.1).bind λm=>if(m.2 !=(0:Int))=true then some (([]:ZL),m.2)else (Zby m.1 j.1).bind λd=>(some (d.2 !=(0:Int))).bind λx=>if(x||(!b.Excepted))=true then some (d.1,d.2)else (Znh v w).bind λn=>if(n.2 !=(0:Int))=true then some (([]:ZL),n.2)else (Zfs d.1 n.1).bind λo=>some (o.1,o.2)
 |.inr y=>some y
def Zi2 (a:Zb) (c:ByteArray):Nat→Int→Option Yb
 |0,_=>none
 |d+1,b=>if decide (b<(a.Devices.length:Int))=true then (idx a.Devices b).bind λx7=>if(x7.Class.toList==c.toList)=true then some (.inr true)else Zi2 a c d (wrap .i64 (b+1))else some (.inl ())
def Zq7 (a:Zb) (b:ByteArray):Option Bool:=(Zi2 a b fuel 0).bind λ(c:Yb)=>match c with
 |.inl ()=>some false
 |.inr d=>some d
def Zlx (c:Zb) (a:Zs):Nat→Int→Option Yf
 |0,_=>none
 |f+1,b=>if decide (b<(a.Groups.length:Int))=true then (idx a.Groups b).bind λg=>(Zdg c a g.Name).bind λd=>if(d.2 !=(0:Int))=true then some (.inr d.2)else Zlx c a f (wrap .i64 (b+1))else some (.inl ())
def Zly (a:Zs):Nat→Int→Option Yf
 |0,_=>none
 |d+1,b=>if decide (b<(a.Services.length:Int))=true then (idx a.Services b).bind λf=>(Zng a f.Name).bind λc=>if(c.2 !=(0:Int))=true then some (.inr c.2)else Zly a d (wrap .i64 (b+1))else some (.inl ())
def Zlz (d:Zb) (a:Zs):Nat→Int→Option Yf
 |0,_=>none
 |g+1,b=>if decide (b<(a.Statements.length:Int))=true then (idx a.Statements b).bind λc=>(Zkb d a b).bind λf=>if(f.2 !=(0:Int))=true then some (.inr f.2)else (some (!(c.Class.toList==ByteArray.empty.toList))).bind λi=>(if i=true then (Zq7 d c.Class).bind λj=>some (!j)else some false).bind λk=>(some k).bind λl=>(if l=true then some true else (some (!(c.During.toList==ByteArray.empty.toList))).bind λm=>(if m=true then (Zea a.Windows c.During).bind λn=>some (decide (n<0))else some false).bind λo=>some o).bind λp=>if p=true then some (.inr (5:Int))else Zlz d a g (wrap .i64 (b+1))else some (.inl ())
def Zl0 (c:Zb) (a:Zs):Nat→Int→Option Yf
 |0,_=>none
 |d+1,b=>if decide (b<(a.Published.length:Int))=true then (idx a.Published b).bind λf=>(Zcc c f.Edge).bind λg=>if decide (g<0)=true then some (.inr (5:Int))else Zl0 c a d (wrap .i64 (b+1))else some (.inl ())
def Zl1 (c:Zb) (a:Zs):Nat→Int→Option Yf
 |0,_=>none
 |f+1,b=>if decide (b<(a.Hidden.length:Int))=true then (idx a.Hidden b).bind λg=>(Zcc c g.Edge).bind λi=>if decide (i<0)=true then some (.inr (5:Int))else (idx a.Hidden b).bind λj=>(Zdg c a j.Group).bind λd=>if(d.2 !=(0:Int))=true then some (.inr d.2)else Zl1 c a f (wrap .i64 (b+1))else some (.inl ())
def Zld (b:Zb) (a:Zs):Option Int:=(Zax b).bind λc=>(some (!c)).bind λd=>(if d=true then some true else (Zcy a).bind λf=>some (!f)).bind λg=>if g=true then some (1:Int)else (Zlx b a fuel 0).bind λ(i:Yf)=>match i with
 |.inl ()=>(Zly a fuel 0).bind λ(j:Yf)=>match j with
  |.inl ()=>(Zlz b a fuel 0).bind λ(k:Yf)=>match k with
   |.inl ()=>(Zl0 b a fuel 0).bind λ(l:Yf)=>match l with
    |.inl ()=>(Zl1 b a fuel 0).bind λ(m:Yf)=>match m with
     |.inl ()=>some (0:Int)
     |.inr n=>some n
    |.inr o=>some o
   |.inr p=>some p
  |.inr q=>some q
 |.inr r=>some r
def Zbg (a:Zb) (b:Int) (c:Int):Option ZB:=(Zcq).bind λd=>(idx a.Edges b).bind λx3=>(Za5 x3.Prefix).bind λf=>(idx a.Edges c).bind λx7=>(Za5 x7.Prefix).bind λg=>some ({({d with x0:=f.1}:ZB)with x1:=g.1}:ZB)
def Zni (c:Zb) (d:Int):Nat→ZL→Int→Option ZL
 |0,_,_=>none
 |g+1,a,b=>if decide (b<(c.Edges.length:Int))=true then (if(d !=b)=true then (Zbg c d b).bind λf=>if a.length+List.length [f]≤lim then some (a++[f])else none else some a).bind λi=>Zni c d g i (wrap .i64 (b+1))else some a
def Znj (a:Zb):Nat→ZL→Int→Option ZL
 |0,_,_=>none
 |d+1,c,b=>if decide (b<(a.Edges.length:Int))=true then (Zni a b fuel c 0).bind λf=>Znj a d f (wrap .i64 (b+1))else some c
def Ztw (b:Zb):Option (ZL×Int):=(Zax b).bind λd=>if(!d)=true then some (([]:ZL),(1:Int))else (Znj b fuel ([]:ZL) 0).bind λf=>(Zep f).bind λa=>if(a.2 !=(0:Int))=true then some (([]:ZL),a.2)else (Zgw).bind λg=>(Zby a.1 g).bind λc=>some (c.1,c.2)
def Zsw (b:Yc) (a:Int):Option Bool:=(some (decide (a≥0))).bind λc=>(some (c&&(decide (a≤4294967295)))).bind λd=>(if d=true then (Zfq b (wrap .u32 a)).bind λf=>some f else some false).bind λg=>some g
def Zr2 (a:Zs) (c:Int) (d:Int):Option Bool:=(idx a.Statements c).bind λx1=>(Zea a.Windows x1.During).bind λb=>(some (x1.During.toList==ByteArray.empty.toList)).bind λf=>(if f=true then some true else (some (decide (b≥0))).bind λg=>(if g=true then (idx a.Windows b).bind λi=>(Zsw i.Active d).bind λj=>some j else some false).bind λk=>some k).bind λl=>some l
def Zl2 (b:Zs) (d:Int) (f:Int):Nat→Ya→Int→Option Ya
 |0,_,_=>none
 |g+1,c,a=>if decide (a<(b.Statements.length:Int))=true then ((idx b.Statements a).bind λi=>(some (i.Priority==f)).bind λj=>(if j=true then (Zr2 b a d).bind λk=>some k else some false).bind λl=>if l=true then if c.length+List.length [a]≤lim then some (c++[a])else none else some c).bind λm=>Zl2 b d f g m (wrap .i64 (a+1))else some c
def Zl3 (b:Zs) (c:Int):Nat→Ya→Int→Option Ya
 |0,_,_=>none
 |f+1,d,a=>if decide (a≥0)=true then (Zl2 b c a fuel d 0).bind λg=>Zl3 b c f g (wrap .i64 (a-1))else some d
def Zsx (b:Zs) (a:Int):Option Ya:=(Zcy b).bind λc=>(some (!c)).bind λd=>(some (d||(decide (a<0)))).bind λf=>if(f||(decide (a≥10080)))=true then some ([]:Ya)else (Zl3 b a fuel [] 1000).bind λg=>some g
def Zn7 (b:Yv) (c:ByteArray):Nat→Int→Option Int
 |0,_=>none
 |d+1,a=>(some (decide (a<(b.length:Int)))).bind λf=>(if f=true then (idx b a).bind λg=>some (Op.bytesLess g.Class.toList c.toList)else some false).bind λi=>if i=true then Zn7 b c d (wrap .i64 (a+1))else some a
def Zup (a:Yv) (c:ByteArray) (d:ZL):Option (Yv×Int):=(some (c.toList==ByteArray.empty.toList)).bind λg=>if(g||((d.length:Int)==0))=true then some (a,(0:Int))else (Zn7 a c fuel 0).bind λb=>(some (b==(a.length:Int))).bind λi=>(if i=true then some true else (idx a b).bind λj=>some (!(j.Class.toList==c.toList))).bind λk=>if k=true then if 0≤(0:Int)∧(0:Int)≤b∧b≤(a.length:Int)then if List.length ([]:Yv)+List.length (List.drop (Int.toNat (0:Int)) (List.take (Int.toNat b) a))≤lim then if List.length ([]++(List.drop (Int.toNat (0:Int)) (List.take (Int.toNat b) a)))+List.length [Z9.mk c d]≤lim then if 0≤b∧b≤(a.length:Int)∧(a.length:Int)≤(a.length:Int)then if List.length (([]++(List.drop (Int.toNat (0:Int)) (List.take (Int.toNat b) a)))++[Z9.mk c d])+List.length (List.drop (Int.toNat b) (List.take (Int.toNat (a.length:Int)) a))≤lim then some (((([]++(List.drop (Int.toNat (0:Int)) (List.take (Int.toNat b) a)))++[Z9.mk c d])++(List.drop (Int.toNat b) (List.take (Int.toNat (a.length:Int)) a))),(0:Int))else none else none else none else none else none else (idx a b).bind λl=>(Zez l.Set d).bind λf=>if List.length ([]:Yv)+a.length≤lim then (idx ([]++a) b).bind λm=>some ((List.set ([]++a) (Int.toNat b) ({m with Set:=f.1}:Z9)),f.2)else none
def Zpm (k:Zb) (f:Zs) (a:Ya):Nat→Zac→ZL→Int→Option (Zac⊕(Zac×Int))
 |0,_,_,_=>none
 |r+1,b,l,c=>if decide (c<(a.length:Int))=true then ((idx a c).bind λs=>(idx f.Statements s).bind λg=>(idx a c).bind λt=>(Zkb k f t).bind λm=>(Zby l m.1).bind λd=>if(d.2 !=(0:Int))=true then some (.inr ((Zac.mk ([]:ZL) []),d.2))else (Zfs l m.1).bind λi=>((some (i.2==0)).bind λu=>if(u&&g.Permit)=true then (Zez b.Allow d.1).bind λn=>some (({b with Allow:=n.1}:Zac),n.2)else some (b,i.2)).bind λ(j,o)=>((some (o==0)).bind λw=>if(w&&g.Permit)=true then (Zup j.Inspect g.Class d.1).bind λp=>some (({j with Inspect:=p.1}:Zac),p.2)else some (j,o)).bind λ(y,q)=>if(q !=(0:Int))=true then some (.inr ((Zac.mk ([]:ZL) []),q))else some (.inl (y,i.1))).bind λ(z:((Zac×ZL)⊕(Zac×Int)))=>match z with
  |.inl (a0,a1)=>Zpm k f a r a0 a1 (wrap .i64 (c+1))
  |.inr a2=>some (.inr a2)else some (.inl b)
def Zsm (a:Zb) (b:Zs) (c:Int):Option (Zac×Int):=(Zax a).bind λg=>(some (!g)).bind λi=>(if i=true then some true else (Zcy b).bind λj=>some (!j)).bind λk=>if k=true then some ((Zac.mk ([]:ZL) []),(1:Int))else (some (decide (c<0))).bind λl=>if(l||(decide (c≥10080)))=true then some ((Zac.mk ([]:ZL) []),(2:Int))else (Zld a b).bind λf=>if(f !=(0:Int))=true then some ((Zac.mk ([]:ZL) []),f)else (Ztw a).bind λd=>if(d.2 !=(0:Int))=true then some ((Zac.mk ([]:ZL) []),d.2)else (Zsx b c).bind λm=>(Zpm a b m fuel Z3m d.1 0).bind λ(n:(Zac⊕(Zac×Int)))=>match n with
 |.inl o=>some (o,(0:Int))
 |.inr p=>some p
def Zef (b:Zb) (c:Int):Nat→Int→Option Yf
 |0,_=>none
 |d+1,a=>if decide (a<(b.Edges.length:Int))=true then (idx b.Edges a).bind λf=>(some (!f.Planned)).bind λg=>(if g=true then (idx b.Edges a).bind λi=>(Zb9 i.Prefix c).bind λj=>some j else some false).bind λk=>if k=true then some (.inr a)else Zef b c d (wrap .i64 (a+1))else some (.inl ())
def Zff (a:Zb) (b:Int):Option Int:=(Zef a b fuel 0).bind λ(c:Yf)=>match c with
 |.inl ()=>some (-1:Int)
 |.inr d=>some d
def Zl4 (a:Zb) (c:Int):Nat→Int→Option Yb
 |0,_=>none
 |d+1,b=>if decide (b<(a.Pools.length:Int))=true then (idx a.Pools b).bind λf=>(Zb9 f c).bind λg=>if g=true then some (.inr true)else Zl4 a c d (wrap .i64 (b+1))else some (.inl ())
def Zle (a:Zb) (b:Int):Option Bool:=(Zl4 a b fuel 0).bind λ(c:Yb)=>match c with
 |.inl ()=>(Zff a b).bind λd=>some (decide (d≥0))
 |.inr f=>some f
def Zhf (c:Yx) (d:Int) (x1:Za2):Nat→Int→Option Yf
 |0,_=>none
 |f+1,b=>if decide (b<d)=true then (idx c b).bind λa=>(some (x1.Edge.toList==a.Edge.toList)).bind λg=>(some (g&&(x1.Proto==a.Proto))).bind λi=>(if i=true then (some (x1.Addr==a.Addr)).bind λj=>(some (j&&(x1.Port==a.Port))).bind λk=>(if k=true then some true else (some (x1.Real==a.Real)).bind λl=>some (l&&(x1.RealPort==a.RealPort))).bind λm=>some m else some false).bind λn=>if n=true then some (.inr (12:Int))else Zhf c d x1 f (wrap .i64 (b+1))else some (.inl ())
def Zkc (a:Zb) (b:Yx) (c:Int):Option Int:=(idx b c).bind λx1=>(Zle a x1.Addr).bind λd=>if d=true then some (7:Int)else (Zff a x1.Real).bind λf=>if decide (f<0)=true then some (19:Int)else (Zff a x1.Real).bind λg=>(Zcc a x1.Edge).bind λi=>if(g==i)=true then some (2:Int)else (Zhf b c x1 fuel 0).bind λ(j:Yf)=>match j with
 |.inl ()=>some (0:Int)
 |.inr k=>some k
def Zkd (a:Zs) (x1:Zbb):Nat→Int→Option Yf
 |0,_=>none
 |c+1,b=>if decide (b<(a.Published.length:Int))=true then (idx a.Published b).bind λd=>(some (d.Edge.toList==x1.Edge.toList)).bind λf=>(if f=true then (idx a.Published b).bind λg=>some (g.Addr==x1.Addr)else some false).bind λi=>if i=true then some (.inr (12:Int))else Zkd a x1 c (wrap .i64 (b+1))else some (.inl ())
def Zke (b:Zs) (c:Int) (x1:Zbb):Nat→Int→Option Yf
 |0,_=>none
 |d+1,a=>if decide (a<c)=true then (idx b.Hidden a).bind λf=>(some (f.Edge.toList==x1.Edge.toList)).bind λg=>(if g=true then (idx b.Hidden a).bind λi=>some (i.Addr==x1.Addr)else some false).bind λj=>if j=true then some (.inr (12:Int))else Zke b c x1 d (wrap .i64 (a+1))else some (.inl ())
def Zn8 (c:Zb) (a:Zs) (b:Int):Option Int:=(idx a.Hidden b).bind λx1=>(Zle c x1.Addr).bind λd=>if d=true then some (7:Int)else (Zkd a x1 fuel 0).bind λ(f:Yf)=>match f with
 |.inl ()=>(Zke a b x1 fuel 0).bind λ(g:Yf)=>match g with
  |.inl ()=>some (0:Int)
  |.inr i=>some i
 |.inr j=>some j
def Zi3 (c:Zs) (d:Int) (g:(Yc×Int)) (i:Int):Nat→Ym→Int→Option Ym
 |0,_,_=>none
 |n+1,f,a=>if(decide (a<(List.length [Za.mk 6 6,Za.mk 17 17,Za.mk 1 1,Za.mk 0 0,Za.mk 2 5,Za.mk 7 16,Za.mk 18 255]:Int)))=true then ((Zcq).bind λb=>(idx c.Hidden d).bind λj=>(idx g.1 i).bind λk=>(idx [Za.mk 6 6,Za.mk 17 17,Za.mk 1 1,Za.mk 0 0,Za.mk 2 5,Za.mk 7 16,Za.mk 18 255] a).bind λl=>(if decide (a<3)=true then (idx c.Hidden d).bind λo=>some ({({(Zab.mk b j.Addr Zao)with Match:=({({b with x0:=k}:ZB)with x2:=l}:ZB)}:Zab)with Ports:=o.Ports}:Zab)else some ({(Zab.mk b j.Addr Zao)with Match:=({({b with x0:=k}:ZB)with x2:=l}:ZB)}:Zab)).bind λm=>if f.length+List.length [m]≤lim then some (f++[m])else none).bind λp=>Zi3 c d g i n p (wrap .i64 (a+1))else some f
def Zi4 (c:Zs) (d:Int) (a:(Yc×Int)):Nat→Ym→Int→Option Ym
 |0,_,_=>none
 |g+1,f,b=>if decide (b<(a.1.length:Int))=true then (Zi3 c d a b fuel f 0).bind λi=>Zi4 c d a g i (wrap .i64 (b+1))else some f
def Zi5 (c:Zb) (a:Zs) (f:Int):Nat→Ym→Int→Option Ym
 |0,_,_=>none
 |g+1,d,b=>if decide (b<(a.Hidden.length:Int))=true then ((idx a.Hidden b).bind λi=>(Zcc c i.Edge).bind λj=>if(j !=f)=true then some d else (idx a.Hidden b).bind λk=>(Zdg c a k.Group).bind λl=>(Zi4 a b l fuel d 0).bind λm=>some m).bind λn=>Zi5 c a f g n (wrap .i64 (b+1))else some d
def Zft (a:Zb) (b:Zs) (c:Int):Option Ym:=(Zi5 a b c fuel [] 0).bind λd=>some d
def Zl5 (c:Zb) (a:Zs):Nat→Int→Option Yf
 |0,_=>none
 |f+1,b=>if decide (b<(a.Published.length:Int))=true then (Zkc c a.Published b).bind λd=>if(d !=(0:Int))=true then some (.inr d)else Zl5 c a f (wrap .i64 (b+1))else some (.inl ())
def Zl6 (c:Zb) (a:Zs):Nat→Int→Option Yf
 |0,_=>none
 |f+1,b=>if decide (b<(a.Hidden.length:Int))=true then (Zn8 c a b).bind λd=>if(d !=(0:Int))=true then some (.inr d)else Zl6 c a f (wrap .i64 (b+1))else some (.inl ())
def Zl7 (a:Zb) (c:Zs):Nat→Int→Option Yf
 |0,_=>none
 |d+1,b=>if decide (b<(a.Edges.length:Int))=true then (Zft a c b).bind λf=>if decide ((f.length:Int)>256)=true then some (.inr (3:Int))else Zl7 a c d (wrap .i64 (b+1))else some (.inl ())
def Zpn (a:Zb) (b:Zs):Option Int:=(Zld a b).bind λc=>if(c !=(0:Int))=true then some c else (Zl5 a b fuel 0).bind λ(d:Yf)=>match d with
 |.inl ()=>(Zl6 a b fuel 0).bind λ(f:Yf)=>match f with
  |.inl ()=>(Zl7 a b fuel 0).bind λ(g:Yf)=>match g with
   |.inl ()=>some (0:Int)
   |.inr i=>some i
  |.inr j=>some j
 |.inr k=>some k
def Zdh (a:ZL) (b:ZL):Option Bool:=(Zgg a).bind λc=>(Zgg b).bind λd=>(Zcd fuel c d 2 0).bind λf=>some ((f.length:Int)==0)
def Zii (c:Zb) (d:Int):Nat→ZL→Int→Option ZL
 |0,_,_=>none
 |g+1,a,b=>if decide (b<(c.Edges.length:Int))=true then (if(d !=b)=true then (Zbg c d b).bind λf=>if a.length+List.length [f]≤lim then some (a++[f])else none else some a).bind λi=>Zii c d g i (wrap .i64 (b+1))else some a
def Zeg (a:Zb):Nat→ZL→Int→Option ZL
 |0,_,_=>none
 |d+1,c,b=>if decide (b<(a.Edges.length:Int))=true then (Zii a b fuel c 0).bind λf=>Zeg a d f (wrap .i64 (b+1))else some c
def Zqm (b:Zb) (a:ZL):Option Bool:=(Zeg b fuel ([]:ZL) 0).bind λc=>(Zdh a c).bind λd=>(some d).bind λf=>(if f=true then (Zgw).bind λg=>(Zdh a g).bind λi=>some i else some false).bind λj=>some j
def Zca (b:ZB) (c:ZB):Nat→ZB→Int→Option ZB
 |0,_,_=>none
 |f+1,d,a=>if decide (a<5)=true then if 0≤a∧a<5 then if 0≤a∧a<5 then if 0≤a∧a<5 then if 0≤a∧a<5 then if 0≤a∧a<5 then Zca b c f (Arr5.set d a (Za.mk (iMax ((Arr5.get b a).Lo) ((Arr5.get c a).Lo)) (iMin ((Arr5.get b a).Hi) ((Arr5.get c a).Hi)))) (wrap .i64 (a+1))else none else none else none else none else none else some d
def Zc1 (a:ZB) (b:ZB):Option (ZB×Bool):=(Zca a b fuel Zfo 0).bind λc=>(Zbp a).bind λd=>(some (!d)).bind λf=>(if f=true then some true else (Zbp b).bind λg=>some (!g)).bind λi=>(some i).bind λj=>(if j=true then some true else (Zbp c).bind λk=>some (!k)).bind λl=>if l=true then some ((Arr5.mk Zao Zao Zao Zao Zao),false)else some (c,true)
def Zh6 (c:ZL) (a:ZL) (d:Int):Nat→Int→Option Yb
 |0,_=>none
 |f+1,b=>if decide (b<(a.length:Int))=true then (idx c d).bind λg=>(idx a b).bind λi=>(Zc1 g i).bind λj=>if j.2=true then some (.inr false)else Zh6 c a d f (wrap .i64 (b+1))else some (.inl ())
def Zh7 (a:ZL) (c:ZL):Nat→Int→Option Yb
 |0,_=>none
 |d+1,b=>if decide (b<(a.length:Int))=true then (Zh6 a c b fuel 0).bind λ(f:Yb)=>match f with
  |.inl ()=>Zh7 a c d (wrap .i64 (b+1))
  |.inr g=>some (.inr g)else some (.inl ())
def Zp8 (a:ZL) (b:ZL):Option Bool:=(Zh7 a b fuel 0).bind λ(c:Yb)=>match c with
 |.inl ()=>some true
 |.inr d=>some d
def Zl8 (b:Zac) (c:Int) (d:Z9):Nat→Int→Option Yb
 |0,_=>none
 |f+1,a=>if decide (a<c)=true then (idx b.Inspect a).bind λg=>(Zp8 d.Set g.Set).bind λi=>if(!i)=true then some (.inr false)else Zl8 b c d f (wrap .i64 (a+1))else some (.inl ())
def Zhp (b:Zac):Nat→Int→Option Yb
 |0,_=>none
 |f+1,c=>if decide (c<(b.Inspect.length:Int))=true then (idx b.Inspect c).bind λa=>(Zad a.Class).bind λg=>(some (!g)).bind λi=>(if i=true then some true else (some (decide (c>0))).bind λj=>(if j=true then (idx b.Inspect (wrap .i64 (c-1))).bind λd=>some ((Op.bytesLess a.Class.toList d.Class.toList)||(a.Class.toList==d.Class.toList))else some false).bind λk=>some k).bind λl=>(some l).bind λm=>(some (m||((a.Set.length:Int)==0))).bind λn=>(if n=true then some true else (Zd6 a.Set).bind λo=>some (!o)).bind λp=>(some p).bind λq=>(if q=true then some true else (Zdh a.Set b.Allow).bind λr=>some (!r)).bind λs=>if s=true then some (.inr false)else (Zl8 b c a fuel 0).bind λ(t:Yb)=>match t with
  |.inl ()=>Zhp b f (wrap .i64 (c+1))
  |.inr u=>some (.inr u)else some (.inl ())
def Zpo (b:Zb) (a:Zac):Option Bool:=(Zax b).bind λc=>(some (!c)).bind λd=>(if d=true then some true else (Zd6 a.Allow).bind λf=>some (!f)).bind λg=>(some g).bind λi=>(if i=true then some true else (Zqm b a.Allow).bind λj=>some (!j)).bind λk=>if k=true then some false else (Zhp a fuel 0).bind λ(l:Yb)=>match l with
 |.inl ()=>some true
 |.inr m=>some m
def Znk (a:Zb) (f:Zac) (b:Int) (c:Int):Option (ZL×Int):=(Zax a).bind λg=>if(!g)=true then some (([]:ZL),(1:Int))else (some (decide (b<0))).bind λi=>(some (i||(decide (b≥(a.Edges.length:Int))))).bind λj=>(some (j||(decide (c<0)))).bind λk=>if(k||(decide (c≥(a.Edges.length:Int))))=true then some (([]:ZL),(2:Int))else if(b==c)=true then some (([]:ZL),(0:Int))else (Zbg a b c).bind λl=>(Zby f.Allow [l]).bind λd=>some (d.1,d.2)
def Zl9 (a:ZL) (c:ZB):Nat→Int→Option Yb
 |0,_=>none
 |d+1,b=>if decide (b<(a.length:Int))=true then (idx a b).bind λf=>(Zc1 f c).bind λg=>if g.2=true then some (.inr true)else Zl9 a c d (wrap .i64 (b+1))else some (.inl ())
def Zsy (a:ZL) (b:ZB):Option Bool:=(Zl9 a b fuel 0).bind λ(c:Yb)=>match c with
 |.inl ()=>some false
 |.inr d=>some d
def Zi6 (d:Zb) (a:Zac) (f:Int) (g:Int):Nat→Int→Int→Yq→Int→Option (Int×Int×Yq)
 |0,_,_,_,_=>none
 |l+1,i,j,b,c=>if decide (c<(a.Inspect.length:Int))=true then ((idx a.Inspect c).bind λm=>(Zbg d f g).bind λn=>(Zsy m.Set n).bind λo=>if o=true then (idx a.Inspect c).bind λk=>if b.length+List.length [k.Class]≤lim then some (b++[k.Class])else none else some b).bind λp=>Zi6 d a f g l i j p (wrap .i64 (c+1))else some (i,j,b)
def Zi7 (a:Zb) (f:Zac) (c:Int):Nat→Ys→Int→Option (Ys⊕(Ys×Int))
 |0,_,_=>none
 |l+1,d,b=>if decide (b<(a.Edges.length:Int))=true then ((Znk a f c b).bind λg=>if(g.2 !=(0:Int))=true then some (.inr (([]:Ys),g.2))else if((g.1.length:Int)==0)=true then some (.inl d)else (idx a.Edges c).bind λm=>(idx a.Edges b).bind λn=>(Zi6 a f c b fuel m.Device n.Device [] 0).bind λ(i,j,k)=>if d.length+List.length [Zaq.mk i j k]≤lim then some (.inl (d++[Zaq.mk i j k]))else none).bind λ(p:(Ys⊕(Ys×Int)))=>match p with
  |.inl q=>Zi7 a f c l q (wrap .i64 (b+1))
  |.inr r=>some (.inr r)else some (.inl d)
def Zi8 (a:Zb) (c:Zac):Nat→Ys→Int→Option (Ys⊕(Ys×Int))
 |0,_,_=>none
 |f+1,d,b=>if decide (b<(a.Edges.length:Int))=true then (Zi7 a c b fuel d 0).bind λ(g:(Ys⊕(Ys×Int)))=>match g with
  |.inl i=>Zi8 a c f i (wrap .i64 (b+1))
  |.inr j=>some (.inr j)else some (.inl d)
def Zq8 (a:Zb) (b:Zac):Option (Ys×Int):=(Zi8 a b fuel [] 0).bind λ(c:(Ys⊕(Ys×Int)))=>match c with
 |.inl d=>some (d,(0:Int))
 |.inr f=>some f
def Zpp (c:Zb) (a:Ya):Nat→Ya→Ya→Int→Option (Ya×Ya)
 |0,_,_,_=>none
 |j+1,d,f,b=>if decide (b<(a.length:Int))=true then ((idx a b).bind λk=>if decide (k<(c.Devices.length:Int))=true then (idx a b).bind λg=>if f.length+List.length [g]≤lim then some (d,f++[g])else none else (idx a b).bind λi=>if d.length+List.length [wrap .i64 (i-(c.Devices.length:Int))]≤lim then some ((d++[wrap .i64 (i-(c.Devices.length:Int))]),f)else none).bind λ(m,n)=>Zpp c a j m n (wrap .i64 (b+1))else some (d,f)
def Zsn (a:Zb) (b:Ya):Option Zp:=(Zpp a b fuel [] [] 0).bind λ(d,f)=>some (Zp.mk d f)
def Zn9 (a:Zb):Nat→Yw→Int→Option Yw
 |0,_,_=>none
 |f+1,b,c=>(some (decide (c<(wrap .i64 ((a.Devices.length:Int)+(a.Links.length:Int)))))).bind λg=>if(g&&(decide (a.Tolerate≥1)))=true then (Zsn a [c]).bind λd=>if b.length+List.length [d]≤lim then Zn9 a f (b++[d]) (wrap .i64 (c+1))else none else some b
def Zoa (a:Zb) (d:Int):Nat→Yw→Int→Option Yw
 |0,_,_=>none
 |g+1,b,c=>if(decide (c<(wrap .i64 ((a.Devices.length:Int)+(a.Links.length:Int)))))=true then (Zsn a [d,c]).bind λf=>if b.length+List.length [f]≤lim then Zoa a d g (b++[f]) (wrap .i64 (c+1))else none else some b
def Zob (a:Zb):Nat→Yw→Int→Option Yw
 |0,_,_=>none
 |d+1,c,b=>(some (decide (b<(wrap .i64 ((a.Devices.length:Int)+(a.Links.length:Int)))))).bind λf=>if(f&&(decide (a.Tolerate≥2)))=true then (Zoa a b fuel c (wrap .i64 (b+1))).bind λg=>Zob a d g (wrap .i64 (b+1))else some c
def Zrp (a:Zb):Option Yw:=(Zcx a).bind λb=>if(!b)=true then some ([]:Yw)else (Zn9 a fuel [Zp.mk [] ([]:Ya)] (0:Int)).bind λc=>(Zob a fuel c 0).bind λd=>some d
def Zb7 (b:Ya) (c:Int):Nat→Int→Option Yb
 |0,_=>none
 |d+1,a=>if decide (a<(b.length:Int))=true then (idx b a).bind λf=>(some (decide (f<0))).bind λg=>(if g=true then some true else (idx b a).bind λi=>some (decide (i≥c))).bind λj=>(some j).bind λk=>(if k=true then some true else (some (decide (a>0))).bind λl=>(if l=true then (idx b a).bind λm=>(idx b (wrap .i64 (a-1))).bind λn=>some (decide (m≤n))else some false).bind λo=>some o).bind λp=>if p=true then some (.inr false)else Zb7 b c d (wrap .i64 (a+1))else some (.inl ())
def Zdi (a:Ya) (b:Int):Option Bool:=(Zb7 a b fuel 0).bind λ(c:Yb)=>match c with
 |.inl ()=>some true
 |.inr d=>some d
def Zbh (a:Zb) (b:Zp):Option Bool:=(Zcx a).bind λc=>(some c).bind λd=>(if d=true then (Zdi b.Links (a.Links.length:Int)).bind λf=>some f else some false).bind λg=>(some g).bind λi=>(if i=true then (Zdi b.Devices (a.Devices.length:Int)).bind λj=>some j else some false).bind λk=>some k
def Zgy (a:Ya) (c:Int):Nat→Int→Option Yb
 |0,_=>none
 |d+1,b=>if decide (b<(a.length:Int))=true then (idx a b).bind λx7=>if(x7==c)=true then some (.inr true)else Zgy a c d (wrap .i64 (b+1))else some (.inl ())
def Zk3 (a:Ya) (b:Int):Option Bool:=(Zgy a b fuel 0).bind λ(c:Yb)=>match c with
 |.inl ()=>some false
 |.inr d=>some d
def Zbi (b:Zb) (c:Zp) (a:Int):Option Bool:=(Zbh b c).bind λd=>(some d).bind λf=>(some (f&&(decide (a≥0)))).bind λg=>(some (g&&(decide (a<(b.Devices.length:Int))))).bind λi=>(if i=true then (Zk3 c.Devices a).bind λj=>some (!j)else some false).bind λk=>some k
def Zjz (a:Zb) (c:Zp) (b:Int):Option Bool:=(Zbh a c).bind λd=>(some d).bind λf=>(some (f&&(decide (b≥0)))).bind λg=>(some (g&&(decide (b<(a.Links.length:Int))))).bind λi=>(if i=true then (Zk3 c.Links b).bind λj=>some (!j)else some false).bind λk=>(some k).bind λl=>(if l=true then (idx a.Links b).bind λm=>(Zbi a c m.A).bind λn=>some n else some false).bind λo=>(some o).bind λp=>(if p=true then (idx a.Links b).bind λq=>(Zbi a c q.B).bind λr=>some r else some false).bind λs=>some s
def Zgh (c:Zb) (d:Zp):Nat→Ya→Int→Option Ya
 |0,_,_=>none
 |f+1,a,b=>if decide (b<(c.Devices.length:Int))=true then ((Zbi c d b).bind λg=>if g=true then if a.length+List.length [b]≤lim then some (a++[b])else none else if a.length+List.length [(-1:Int)]≤lim then some (a++[(-1:Int)])else none).bind λi=>Zgh c d f i (wrap .i64 (b+1))else some a
def Zgi (c:Zb) (j:Zp):Nat→Ya→Int→Option Ya
 |0,_,_=>none
 |k+1,a,d=>if decide (d<(c.Links.length:Int))=true then ((Zjz c j d).bind λl=>if l=true then (idx c.Links d).bind λb=>(idx c.Links d).bind λf=>(idx a b.A).bind λg=>(idx a f.B).bind λi=>(idx a b.A).bind λ_=>(idx (List.set a (Int.toNat b.A) (iMin g i)) b.A).bind λm=>(idx (List.set a (Int.toNat b.A) (iMin g i)) f.B).bind λ_=>some (List.set (List.set a (Int.toNat b.A) (iMin g i)) (Int.toNat f.B) m)else some a).bind λn=>Zgi c j k n (wrap .i64 (d+1))else some a
def Zgj (a:Zb) (b:Zp):Nat→Ya→Int→Option Ya
 |0,_,_=>none
 |f+1,c,d=>if decide (d<(a.Devices.length:Int))=true then (Zgi a b fuel c 0).bind λg=>Zgj a b f g (wrap .i64 (d+1))else some c
def Zi9 (a:Zb) (b:Zp):Option Ya:=(Zbh a b).bind λc=>if(!c)=true then some ([]:Ya)else (Zgh a b fuel [] 0).bind λd=>(Zgj a b fuel d 0).bind λf=>some f
def Zkf (a:Zb) (b:Zp) (c:Int) (d:Int):Option Bool:=(Zi9 a b).bind λf=>(Zbi a b c).bind λg=>(some g).bind λi=>(if i=true then (Zbi a b d).bind λj=>some j else some false).bind λk=>(some k).bind λl=>(if l=true then (idx f c).bind λm=>(idx f d).bind λn=>some (m==n)else some false).bind λo=>some o
def Zgz (a:Zb) (c:Zp) (b:Int):Option Bool:=(Zbh a c).bind λd=>(some d).bind λf=>(some (f&&(decide (b≥0)))).bind λg=>some (g&&(decide (b<(a.Devices.length:Int))))
def Zpq (b:Nat) (a:Ya) (c:Int) (d:Int) (f:Int):Option Ya:=(idxn b a d).bind λx1=>(some (decide (x1≥0))).bind λg=>(if g=true then (idxn b a c).bind λx5=>(some (decide (x5<0))).bind λi=>(if i=true then some true else (idxn b a d).bind λj=>(idxn b a c).bind λk=>some (decide ((wrap .i64 (j+f))<k))).bind λl=>some l else some false).bind λm=>if m=true then (idxn b a d).bind λn=>(idxn b a c).bind λ_=>some (List.set a (Int.toNat c) (wrap .i64 (n+f)))else some a
def Zhg (b:Zb):Nat→Ya→Int→Option Ya
 |0,_,_=>none
 |d+1,a,c=>if decide (c<(b.Devices.length:Int))=true then if a.length+List.length [(-1:Int)]≤lim then Zhg b d (a++[(-1:Int)]) (wrap .i64 (c+1))else none else some a
def Zhh (a:Zb) (f:Zp):Nat→Ya→Int→Option Ya
 |0,_,_=>none
 |i+1,c,b=>if decide (b<(a.Links.length:Int))=true then ((Zjz a f b).bind λj=>if j=true then (idx a.Links b).bind λk=>(idx a.Links b).bind λl=>(idx a.Links b).bind λm=>if c≠[]then (Zpq (c.length) c k.A l.B m.Cost).bind λd=>if d.length=c.length then (idx a.Links b).bind λn=>(idx a.Links b).bind λo=>(idx a.Links b).bind λp=>if d≠[]then (Zpq (d.length) d n.B o.A p.Cost).bind λg=>if g.length=d.length then some g else none else none else none else none else some c).bind λq=>Zhh a f i q (wrap .i64 (b+1))else some c
def Zhi (a:Zb) (b:Zp):Nat→Ya→Int→Option Ya
 |0,_,_=>none
 |f+1,c,d=>if decide (d<(a.Devices.length:Int))=true then (Zhh a b fuel c 0).bind λg=>Zhi a b f g (wrap .i64 (d+1))else some c
def Zdj (a:Zb) (c:Zp) (b:Int):Option Ya:=(Zgz a c b).bind λf=>if(!f)=true then some ([]:Ya)else (Zhg a fuel [] 0).bind λd=>((Zbi a c b).bind λg=>if g=true then (idx d b).bind λ_=>some (List.set d (Int.toNat b) (0:Int))else some d).bind λi=>(Zhi a c fuel i 0).bind λj=>some j
def Zkg (i:Zb) (f:ByteArray) (b:Ya) (c:Ya):Nat→Int→Int→Int→Option Int
 |0,_,_,_=>none
 |j+1,d,g,a=>(some (decide (a<(b.length:Int)))).bind λk=>(some (k&&(decide (a<(c.length:Int))))).bind λl=>if(l&&(!(f.toList==ByteArray.empty.toList)))=true then ((idx i.Devices a).bind λm=>(some (!(m.Class.toList==f.toList))).bind λn=>(if n=true then some true else (idx b a).bind λo=>some (decide (o<0))).bind λp=>(some p).bind λq=>(if q=true then some true else (idx c a).bind λr=>some (decide (r<0))).bind λs=>if s=true then some (d,g)else (some (decide (d<0))).bind λt=>(if t=true then some true else (idx b a).bind λu=>(idx c a).bind λv=>some (decide ((wrap .i64 (u+v))<g))).bind λw=>if w=true then (idx b a).bind λx=>(idx c a).bind λy=>some (a,wrap .i64 (x+y))else some (d,g)).bind λ(a0,a1)=>Zkg i f b c j a0 a1 (wrap .i64 (a+1))else some d
def Zr3 (a:Zb) (b:Zp) (c:ByteArray) (d:Int) (f:Int):Option Int:=(Zdj a b d).bind λg=>(Zdj a b f).bind λi=>(Zkg a c g i fuel (-1:Int) 0 0).bind λj=>some j
def Zja (c:Zb) (d:Zp) (a:Zaq):Nat→Int→Option Yf
 |0,_=>none
 |f+1,b=>if decide (b<(a.f_classes.length:Int))=true then (idx a.f_classes b).bind λg=>(Zr3 c d g a.f_a a.f_b).bind λi=>if decide (i<0)=true then some (.inr (11:Int))else Zja c d a f (wrap .i64 (b+1))else some (.inl ())
def Zq9 (b:Zb) (c:Zp) (a:Zaq):Option Int:=(Zbi b c a.f_a).bind λd=>(some (!d)).bind λf=>(if f=true then some true else (Zbi b c a.f_b).bind λg=>some (!g)).bind λi=>if i=true then some (0:Int)else (Zkf b c a.f_a a.f_b).bind λj=>if(!j)=true then some (10:Int)else (Zja b c a fuel 0).bind λ(k:Yf)=>match k with
 |.inl ()=>some (0:Int)
 |.inr l=>some l
def Zgk (f:Zb) (a:(Ys×Int)) (b:Yw) (c:Int):Nat→Int→Option (Unit⊕(Zp×Int))
 |0,_=>none
 |i+1,d=>if decide (d<(a.1.length:Int))=true then (idx b c).bind λj=>(idx a.1 d).bind λk=>(Zq9 f j k).bind λg=>if(g !=(0:Int))=true then (idx b c).bind λl=>some (.inr (l,g))else Zgk f a b c i (wrap .i64 (d+1))else some (.inl ())
def Zgl (c:Zb) (d:(Ys×Int)) (a:Yw):Nat→Int→Option (Unit⊕(Zp×Int))
 |0,_=>none
 |f+1,b=>if decide (b<(a.length:Int))=true then (Zgk c d a b fuel 0).bind λ(g:(Unit⊕(Zp×Int)))=>match g with
  |.inl ()=>Zgl c d a f (wrap .i64 (b+1))
  |.inr i=>some (.inr i)else some (.inl ())
def Zr4 (a:Zb) (c:Zac):Option (Zp×Int):=(Zpo a c).bind λd=>if(!d)=true then some ((Zp.mk [] []),(1:Int))else (Zq8 a c).bind λb=>if(b.2 !=(0:Int))=true then some ((Zp.mk [] []),b.2)else (Zrp a).bind λf=>(Zgl a b f fuel 0).bind λ(g:(Unit⊕(Zp×Int)))=>match g with
 |.inl ()=>some ((Zp.mk [] []),(0:Int))
 |.inr i=>some i
def Zma (c:Za) (b:Int):Nat→Int→Option Int
 |0,_=>none
 |d+1,a=>if(wrap .u64 ((2:Int)*a))≠0 then (some ((Int.tmod b (wrap .u64 ((2:Int)*a)))==0)).bind λf=>if(f&&(decide ((wrap .u64 (b+(wrap .u64 ((2:Int)*a))))≤(wrap .u64 ((wrap .u64 c.Hi)+1)))))=true then Zma c b d (wrap .u64 (a*2))else some a else none
def Zmb (b:Za):Nat→Yc→Int→Option Yc
 |0,_,_=>none
 |f+1,c,a=>if(decide (a<(wrap .u64 ((wrap .u64 b.Hi)+1))))=true then (Zma b a fuel 1).bind λd=>if c.length+List.length [Za.mk (wrap .u32 a) (wrap .u32 (wrap .u64 ((wrap .u64 (a+d))-1)))]≤lim then Zmb b f (c++[Za.mk (wrap .u32 a) (wrap .u32 (wrap .u64 ((wrap .u64 (a+d))-1)))]) (wrap .u64 (a+d))else none else some c
def Zdk (a:Za) (b:Int):Option Yc:=(some (decide (b<0))).bind λc=>(some (c||(decide (b>32)))).bind λd=>(some (d||(decide (a.Lo>a.Hi)))).bind λf=>(if f=true then some true else if 0≤(wrap .u64 b)then some (decide ((wrap .u64 a.Hi)≥(bShl .u64 (1:Int) (wrap .u64 b))))else none).bind λg=>if g=true then some ([]:Yc)else (Zmb a fuel [] (wrap .u64 a.Lo)).bind λi=>some i
def Zsz (b:ZB) (a:Int):Option Yc:=if 0≤a∧a<5 then if 0≤a∧a<5 then (Zdk (Arr5.get b a) (Arr5.get (Arr5.mk 32 32 8 16 16) a)).bind λc=>some c else none else none
def Zr5 (b:ZB) (c:Bool):Nat→Int→Int→Option Int
 |0,_,_=>none
 |f+1,d,a=>(some (decide (a<5))).bind λg=>if(g&&(!c))=true then (Zsz b a).bind λi=>Zr5 b c f (wrap .i64 (d*(i.length:Int))) (wrap .i64 (a+1))else some d
def Zrq (a:ZB) (b:Bool):Option Int:=(Zbp a).bind λc=>if(!c)=true then some (0:Int)else (Zr5 a b fuel 1 0).bind λd=>some d
def Zpr (a:ZL) (c:Bool):Nat→Int→Int→Option Int
 |0,_,_=>none
 |f+1,d,b=>if decide (b<(a.length:Int))=true then (idx a b).bind λg=>(Zrq g c).bind λi=>Zpr a c f (wrap .i64 (d+i)) (wrap .i64 (b+1))else some d
def Zso (a:ZL) (b:Bool):Option Int:=(Zpr a b fuel 0 0).bind λc=>some c
def Znl (d:Zb) (a:Ya) (b:Zal):Option Ya:=if List.length ([]:Ya)+a.length≤lim then (idx d.Edges b.From).bind λx2=>(idx d.Edges b.To).bind λx4=>(if b.Egress=true then some (x4.Device,x2.Device)else some (x2.Device,x4.Device)).bind λ(c,f)=>(idx ([]++a) c).bind λg=>(idx d.Devices c).bind λk=>(Zso b.Allow k.Ranges).bind λi=>(idx ([]++a) c).bind λ_=>(idx (List.set ([]++a) (Int.toNat c) (wrap .i64 (g+i))) f).bind λl=>(Zbg d b.From b.To).bind λm=>(idx d.Devices f).bind λn=>(Zrq m n.Ranges).bind λo=>(idx (List.set ([]++a) (Int.toNat c) (wrap .i64 (g+i))) f).bind λ_=>some (List.set (List.set ([]++a) (Int.toNat c) (wrap .i64 (g+i))) (Int.toNat f) (wrap .i64 (l+o)))else none
def Znm (c:Zb) (b:Ya):Nat→Int→Option Yb
 |0,_=>none
 |d+1,a=>if decide (a<(b.length:Int))=true then (idx b a).bind λf=>(idx c.Devices a).bind λg=>if decide (f>g.Capacity)=true then some (.inr false)else Znm c b d (wrap .i64 (a+1))else some (.inl ())
def Zqn (a:Zb) (b:Ya):Option Bool:=(Znm a b fuel 0).bind λ(c:Yb)=>match c with
 |.inl ()=>some true
 |.inr d=>some d
def Zmc (a:Zb) (j:Zac) (d:Int):Nat→Yp→Int→Ya→Int→Option ((Yp×Int×Ya)⊕(Yp×Int))
 |0,_,_,_,_=>none
 |n+1,f,i,g,b=>if decide (b<(a.Edges.length:Int))=true then ((Znk a j d b).bind λc=>if(c.2 !=(0:Int))=true then some (.inr (([]:Yp),c.2))else (some ((c.1.length:Int)==0)).bind λo=>if(o||(i !=(0:Int)))=true then some (.inl (f,i,g))else (Znl a g (Zal.mk d b false c.1)).bind λk=>((Zqn a k).bind λp=>if(!p)=true then (Znl a g ({(Zal.mk d b false c.1)with Egress:=true}:Zal)).bind λq=>some (({(Zal.mk d b false c.1)with Egress:=true}:Zal),q)else some ((Zal.mk d b false c.1),k)).bind λ(l,m)=>(Zqn a m).bind λs=>if(!s)=true then some (.inl (f,(9:Int),g))else if f.length+List.length [l]≤lim then some (.inl ((f++[l]),i,m))else none).bind λ(t:((Yp×Int×Ya)⊕(Yp×Int)))=>match t with
  |.inl (u,v,w)=>Zmc a j d n u v w (wrap .i64 (b+1))
  |.inr x=>some (.inr x)else some (.inl (f,i,g))
def Zmd (a:Zb) (c:Zac):Nat→Yp→Ya→Int→Ya→Int→Option ((Yp×Ya×Int)⊕(Yp×Int))
 |0,_,_,_,_,_=>none
 |i+1,d,f,g,j,b=>if decide (b<(a.Edges.length:Int))=true then (Zmc a c b fuel d g j 0).bind λ(k:((Yp×Int×Ya)⊕(Yp×Int)))=>match k with
  |.inl (l,m,n)=>Zmd a c i l f m n (wrap .i64 (b+1))
  |.inr o=>some (.inr o)else some (.inl (d,f,g))
def Zs0 (a:Zb) (b:Zac):Option (Yp×Int):=(Zpo a b).bind λd=>if(!d)=true then some (([]:Yp),(1:Int))else if 0≤(a.Devices.length:Int)∧(a.Devices.length:Int)≤(lim:Int)then (Zmd a b fuel [] (List.replicate (Int.toNat (a.Devices.length:Int)) (0:Int)) 0 (List.replicate (Int.toNat (a.Devices.length:Int)) (0:Int)) 0).bind λ(f:((Yp×Ya×Int)⊕(Yp×Int)))=>match f with
 |.inl (g,_,c)=>if(c !=(0:Int))=true then some (([]:Yp),c)else some (g,(0:Int))
 |.inr i=>some i else none
def Zqo (a:ZL):Nat→Yn→Int→Option Yn
 |0,_,_=>none
 |f+1,b,c=>if decide (c<(a.length:Int))=true then (idx a c).bind λd=>if b.length+List.length [Zai.mk d true]≤lim then Zqo a f (b++[Zai.mk d true]) (wrap .i64 (c+1))else none else some b
def Zwt (a:ZL):Option Yn:=(Zqo a fuel [] 0).bind λb=>some b
def Zme (f:Zb) (a:Yp) (g:Int) (d:Bool):Nat→Yn→Int→Option Yn
 |0,_,_=>none
 |k+1,c,b=>if decide (b<(a.length:Int))=true then ((idx a b).bind λl=>(if d=true then (idx a b).bind λm=>some m.To else some l.From).bind λn=>if(n !=g)=true then some c else (idx a b).bind λo=>if(o.Egress==d)=true then (idx a b).bind λp=>(Zwt p.Allow).bind λi=>if c.length+i.length≤lim then some (c++i)else none else (idx a b).bind λq=>(idx a b).bind λr=>(Zbg f q.From r.To).bind λj=>if c.length+List.length [Zai.mk j true]≤lim then some (c++[Zai.mk j true])else none).bind λs=>Zme f a g d k s (wrap .i64 (b+1))else some c
def Zps (a:Zb) (b:Yp) (c:Int) (d:Bool):Option Yn:=(Zme a b c d fuel [] 0).bind λf=>some f
def Zoc (a:Int) (b:Int) (c:Int):Option ZB:=(Zcq).bind λd=>some ({({({d with x1:=(Za.mk a a)}:ZB)with x2:=(Za.mk (wrap .u32 b) (wrap .u32 b))}:ZB)with x4:=(Za.mk (wrap .u32 c) (wrap .u32 c))}:ZB)
def Zjb (f:Zb) (c:Zs) (g:Int):Nat→Yj→Int→Option Yj
 |0,_,_=>none
 |k+1,b,d=>if decide (d<(c.Published.length:Int))=true then ((idx c.Published d).bind λa=>(Zcc f a.Edge).bind λl=>if(l==g)=true then (Zoc a.Addr a.Proto a.Port).bind λi=>(Zoc a.Real a.Proto a.RealPort).bind λj=>if b.length+List.length [Zaa.mk i j]≤lim then some (b++[Zaa.mk i j])else none else some b).bind λm=>Zjb f c g k m (wrap .i64 (d+1))else some b
def Zra (a:Zb) (b:Zs) (c:Int):Option Yj:=(Zjb a b c fuel [] 0).bind λd=>some d
def Zkh (d:Zac) (f:Int) (a:(ZL×Int)):Nat→Yi→Int→Option Yi
 |0,_,_=>none
 |j+1,b,c=>if decide (c<(a.1.length:Int))=true then (idx a.1 c).bind λg=>(idx d.Inspect f).bind λi=>if b.length+List.length [Zaf.mk g i.Class]≤lim then Zkh d f a j (b++[Zaf.mk g i.Class]) (wrap .i64 (c+1))else none else some b
def Zki (a:Zac):Nat→Yi→ZB→Int→Option ((Yi×ZB)⊕(Yi×Int))
 |0,_,_,_=>none
 |g+1,f,c,b=>if decide (b<(a.Inspect.length:Int))=true then (idx a.Inspect b).bind λi=>(Zby i.Set [c]).bind λd=>if(d.2 !=(0:Int))=true then some (.inr (([]:Yi),d.2))else (Zkh a b d fuel f 0).bind λj=>Zki a g j c (wrap .i64 (b+1))else some (.inl (f,c))
def Zod (c:Zb) (d:Zac) (a:Int):Option (Yi×Int):=(Zcq).bind λf=>(Zbg c a a).bind λg=>(Zki d fuel [] ({f with x0:=g.x0}:ZB) 0).bind λ(i:((Yi×ZB)⊕(Yi×Int)))=>match i with
 |.inl (b,_)=>if decide ((b.length:Int)>4096)=true then some (([]:Yi),(3:Int))else some (b,(0:Int))
 |.inr j=>some j
def Zmf (b:Zb) (d:Zs) (j:(Zac×Int)) (f:(Yp×Int)):Nat→Yh→Int→Option (Yh⊕(Yh×Int))
 |0,_,_=>none
 |p+1,g,a=>if decide (a<(b.Edges.length:Int))=true then (Zps b f.1 a false).bind λk=>(Zps b f.1 a true).bind λl=>(Zra b d a).bind λm=>(Zft b d a).bind λn=>(Zod b j.1 a).bind λc=>if(c.2 !=(0:Int))=true then some (.inr (([]:Yh),c.2))else (idx b.Edges a).bind λo=>(idx g o.Device).bind λi=>if i.Ports.length+List.length [({({({(Zw.mk a k l [] [] [])with Moves:=m}:Zw)with Hides:=n}:Zw)with Steers:=c.1}:Zw)]≤lim then Zmf b d j f p (List.set g (Int.toNat o.Device) ({i with Ports:=(i.Ports++[({({({(Zw.mk a k l [] [] [])with Moves:=m}:Zw)with Hides:=n}:Zw)with Steers:=c.1}:Zw)])}:Zo)) (wrap .i64 (a+1))else none else some (.inl g)
def Zs1 (a:Zb) (c:Zs) (i:Int):Option (Yh×Int):=(Zsm a c i).bind λb=>if(b.2 !=(0:Int))=true then some (([]:Yh),b.2)else (Zpn a c).bind λf=>if(f !=(0:Int))=true then some (([]:Yh),f)else (Zr4 a b.1).bind λg=>if(g.2 !=(0:Int))=true then some (([]:Yh),g.2)else (Zs0 a b.1).bind λd=>if(d.2 !=(0:Int))=true then some (([]:Yh),d.2)else if 0≤(a.Devices.length:Int)∧(a.Devices.length:Int)≤(lim:Int)then (Zmf a c b d fuel (List.replicate (Int.toNat (a.Devices.length:Int)) Zee) 0).bind λ(j:(Yh⊕(Yh×Int)))=>match j with
 |.inl k=>some (k,(0:Int))
 |.inr l=>some l else none
def Zec (a:Yh):Nat→Yh→Int→Option Yh
 |0,_,_=>none
 |f+1,b,c=>if decide (c<(a.length:Int))=true then (idx a c).bind λd=>if List.length ([]:Yo)+d.Ports.length≤lim then if b.length+1≤lim then Zec a f (b++[Zo.mk ([]++d.Ports)]) (wrap .i64 (c+1))else none else none else some b
def Zcr (a:Yh):Option Yh:=(Zec a fuel [] 0).bind λb=>some b
def Zet (g:Zc):Option (Za×Zc):=(Zg g 4).bind λa=>if(a.1==0)=true then (Zg a.2 6).bind λf=>(Zey f.1).bind λi=>(Za5 i).bind λj=>some (j.1,f.2)else if(a.1==1)=true then (Zc7 a.2).bind λb=>(Zc7 b.2).bind λc=>some ((Za.mk (iMin b.1 c.1) (iMax b.1 c.1)),c.2)else if(a.1==2)=true then (Zc7 a.2).bind λd=>some ((Za.mk d.1 d.1),d.2)else some ((Za.mk 0 4294967295),a.2)
def Zeq:Nat→Zc→ZB→Int→Option (Zc×ZB)
 |0,_,_,_=>none
 |m+1,c,b,d=>if decide (d>0)=true then ((Zg c 5).bind λa=>if(a.1==0)=true then (Zet a.2).bind λf=>some (f.2,({b with x0:=f.1}:ZB))else if(a.1==1)=true then (Zet a.2).bind λg=>some (g.2,({b with x1:=g.1}:ZB))else if(a.1==2)=true then (Zg a.2 6).bind λi=>(idx [(6:Int),(17:Int),(1:Int),(0:Int),(7:Int),(255:Int)] i.1).bind λj=>some (i.2,({b with x2:=(Za.mk j j)}:ZB))else if(a.1==3)=true then (Ze4 a.2 65535).bind λk=>some (k.2,({b with x3:=k.1}:ZB))else (Ze4 a.2 65535).bind λl=>some (l.2,({b with x4:=l.1}:ZB))).bind λ(o,p)=>Zeq m o p (wrap .i64 (d-1))else some (c,b)
def Zoe (b:Zc):Option (ZB×Zc):=(Zcq).bind λc=>(Zg b 3).bind λa=>(Zeq fuel a.2 c (wrap .i64 ((1:Int)+a.1))).bind λ(f,g)=>some (g,f)
def Zcl (m:Zc) (a:Zb):Option (ZB×Zc):=(Zoe m).bind λb=>((some (decide ((a.Edges.length:Int)>0))).bind λn=>(if n=true then (Zg b.2 4).bind λf=>some ((decide (f.1>(0:Int))),f.2)else some (false,b.2)).bind λc=>if c.1=true then (Zg c.2 (a.Edges.length:Int)).bind λg=>(idx a.Edges g.1).bind λo=>(Za5 o.Prefix).bind λp=>(Zg g.2 (a.Edges.length:Int)).bind λi=>(idx a.Edges i.1).bind λq=>(Za5 q.Prefix).bind λr=>some (i.2,({({b.1 with x0:=p.1}:ZB)with x1:=r.1}:ZB))else some (c.2,b.1)).bind λ(t,j)=>((Zg t 3).bind λd=>if(d.1==0)=true then (Zg d.2 4).bind λk=>(idx [(6:Int),(17:Int),(1:Int),(50:Int)] k.1).bind λl=>some (k.2,({j with x2:=(Za.mk l l)}:ZB))else some (d.2,j)).bind λ(v,w)=>some (w,v)
def Ze0 (d:Zb):Nat→Zc→Yn→Int→Option (Zc×Yn)
 |0,_,_,_=>none
 |i+1,f,a,g=>if decide (g>0)=true then (Zcl f d).bind λb=>(Zg b.2 3).bind λc=>if a.length+List.length [Zai.mk b.1 (decide (c.1>(0:Int)))]≤lim then Ze0 d i c.2 (a++[Zai.mk b.1 (decide (c.1>(0:Int)))]) (wrap .i64 (g-1))else none else some (f,a)
def Zeh (b:Zc) (c:Zb) (d:Int):Option (Yn×Zc):=(Zg b (wrap .i64 (d+1))).bind λa=>(Ze0 c fuel a.2 [] a.1).bind λ(g,i)=>some (i,g)
def Zgm (d:Zb):Nat→Zc→Yn→Int→Option (Zc×Yn)
 |0,_,_,_=>none
 |i+1,f,a,g=>if decide (g>0)=true then (Zcl f d).bind λb=>(Zg b.2 3).bind λc=>if a.length+List.length [Zai.mk b.1 (decide (c.1>(0:Int)))]≤lim then Zgm d i c.2 (a++[Zai.mk b.1 (decide (c.1>(0:Int)))]) (wrap .i64 (g-1))else none else some (f,a)
def Zc5 (b:Zc) (c:Zb) (d:Int):Option (Yn×Zc):=(Zg b (wrap .i64 (d+1))).bind λa=>(Zgm c fuel a.2 [] a.1).bind λ(g,i)=>some (i,g)
def Zpt (n:Zc) (c:Zb) (a:Zw):Option (Zw×Zc):=((Zg n 8).bind λb=>if(b.1==0)=true then (Zeh b.2 c 2).bind λd=>if d.1.length+a.Ingress.length≤lim then some (d.2,({a with Ingress:=(d.1++a.Ingress)}:Zw))else none else if(b.1==1)=true then (Zeh b.2 c 2).bind λf=>if f.1.length+a.Egress.length≤lim then some (f.2,({a with Egress:=(f.1++a.Egress)}:Zw))else none else if(b.1==2)=true then if decide ((a.Ingress.length:Int)>0)=true then if 0≤(1:Int)∧(1:Int)≤(a.Ingress.length:Int)∧(a.Ingress.length:Int)≤(a.Ingress.length:Int)then some (b.2,({a with Ingress:=(List.drop (Int.toNat (1:Int)) (List.take (Int.toNat (a.Ingress.length:Int)) a.Ingress))}:Zw))else none else some (b.2,a)else if(b.1==3)=true then if decide ((a.Egress.length:Int)>0)=true then if 0≤(1:Int)∧(1:Int)≤(a.Egress.length:Int)∧(a.Egress.length:Int)≤(a.Egress.length:Int)then some (b.2,({a with Egress:=(List.drop (Int.toNat (1:Int)) (List.take (Int.toNat (a.Egress.length:Int)) a.Egress))}:Zw))else none else some (b.2,a)else if(b.1==4)=true then (Zcl b.2 c).bind λi=>some (i.2,({a with Ingress:=[Zai.mk i.1 true]}:Zw))else if(b.1==5)=true then (Zcl b.2 c).bind λg=>(Zg g.2 3).bind λj=>(idx [(⟨#[105,112,115]⟩:ByteArray),⟨#[100,108,112]⟩,⟨#[110,111,110,101]⟩] j.1).bind λk=>if List.length [Zaf.mk g.1 k]+a.Steers.length≤lim then some (j.2,({a with Steers:=([Zaf.mk g.1 k]++a.Steers)}:Zw))else none else if(b.1==6)=true then some (b.2,({({a with Steers:=([]:Yi)}:Zw)with Moves:=([]:Yj)}:Zw))else (Zc5 b.2 c 4).bind λl=>(Zc5 l.2 c 4).bind λm=>some (m.2,({({a with Ingress:=l.1}:Zw)with Egress:=m.1}:Zw))).bind λ(p,q)=>some (q,p)
def Zmt (f:Zb):Nat→Zc→Yh→Int→Option (Zc×Yh)
 |0,_,_,_=>none
 |k+1,g,a,i=>if decide (i>0)=true then ((Zg g (a.length:Int)).bind λb=>(some (decide (b.1<(a.length:Int)))).bind λl=>(if l=true then (idx a b.1).bind λm=>some (decide ((m.Ports.length:Int)>0))else some false).bind λn=>if n=true then (idx a b.1).bind λo=>(Zg b.2 (o.Ports.length:Int)).bind λc=>(idx a b.1).bind λd=>(idx d.Ports c.1).bind λp=>(Zpt c.2 f p).bind λj=>(idx d.Ports c.1).bind λ_=>some (j.2,List.set a (Int.toNat b.1) ({d with Ports:=(List.set d.Ports (Int.toNat c.1) j.1)}:Zo))else some (b.2,a)).bind λ(r,s)=>Zmt f k r s (wrap .i64 (i-1))else some (g,a)
def Zkj (b:Zc) (c:Zb) (d:Yh):Option (Yh×Zc):=(Zcr d).bind λf=>(Zg b 3).bind λa=>(Zmt c fuel a.2 f (wrap .i64 ((1:Int)+a.1))).bind λ(i,j)=>some (j,i)
def Zc2 (c:Zb) (d:Int):Nat→Ya→Int→Option Ya
 |0,_,_=>none
 |f+1,b,a=>if decide (a<(c.Edges.length:Int))=true then ((idx c.Edges a).bind λg=>if(g.Device==d)=true then if b.length+List.length [a]≤lim then some (b++[a])else none else some b).bind λi=>Zc2 c d f i (wrap .i64 (a+1))else some b
def Zcz (a:Zb) (b:Int):Option Ya:=(Zc2 a b fuel [] 0).bind λc=>some c
def Zm0:Option ZB:=some (Arr5.mk (Za.mk 0 4294967295) (Za.mk 0 4294967295) (Za.mk 0 255) (Za.mk 0 65535) (Za.mk 0 65535))
def Zhj (j:Zc) (d:Zb):Option (Zaa×Zc):=(Zm0).bind λa=>(Zm0).bind λb=>(Zg j 2).bind λf=>(idx [(6:Int),(17:Int)] f.1).bind λx7=>(if decide ((d.Edges.length:Int)>0)=true then (Zg f.2 (d.Edges.length:Int)).bind λi=>(idx d.Edges i.1).bind λk=>some (i.2,k.Prefix.Addr)else some (f.2,(167772165:Int))).bind λ(m,c)=>(Zg m 3).bind λg=>some (({({({({({({(Zaa.mk a b)with From:=({a with x2:=(Za.mk x7 x7)}:ZB)}:Zaa)with To:=({b with x2:=(Za.mk x7 x7)}:ZB)}:Zaa)with From:=({({a with x2:=(Za.mk x7 x7)}:ZB)with x1:=(Za.mk 3405803781 3405803781)}:ZB)}:Zaa)with To:=({({b with x2:=(Za.mk x7 x7)}:ZB)with x1:=(Za.mk c c)}:ZB)}:Zaa)with From:=({({({a with x2:=(Za.mk x7 x7)}:ZB)with x1:=(Za.mk 3405803781 3405803781)}:ZB)with x4:=(Za.mk 80 81)}:ZB)}:Zaa)with To:=({({({b with x2:=(Za.mk x7 x7)}:ZB)with x1:=(Za.mk c c)}:ZB)with x4:=(Za.mk (wrap .u32 ((wrap .u32 g.1)*80)) (wrap .u32 ((wrap .u32 ((wrap .u32 g.1)*80))+1)))}:ZB)}:Zaa),g.2)
def Zjc (a:Zb) (b:Int) (c:Ya):Nat→Zc→Yh→Int→Option (Zc×Yh)
 |0,_,_,_=>none
 |z+1,o,d,f=>if decide (f<(c.length:Int))=true then ((idx c f).bind λp=>(Zc5 o a 4).bind λg=>(Zc5 g.2 a 4).bind λi=>((Zg i.2 2).bind λj=>if(j.1==0)=true then (Zm0).bind λa0=>some (j.2,({(Zw.mk p g.1 i.1 [] [] [])with Egress:=[Zai.mk a0 true]}:Zw))else some (j.2,Zw.mk p g.1 i.1 [] [] [])).bind λ(a2,q)=>((Zg a2 3).bind λk=>if(k.1==0)=true then (Zcl k.2 a).bind λr=>(Zg r.2 2).bind λs=>(idx [(⟨#[105,112,115]⟩:ByteArray),⟨#[100,108,112]⟩] s.1).bind λa3=>some (s.2,({q with Steers:=[Zaf.mk r.1 a3]}:Zw))else some (k.2,q)).bind λ(a5,t)=>((Zg a5 4).bind λl=>if(l.1==0)=true then (Zcl l.2 a).bind λu=>(Zg u.2 3).bind λv=>some (v.2,({t with Hides:=[Zab.mk u.1 3325256705 (Za.mk 1024 (wrap .u32 ((1024:Int)+(wrap .u32 v.1))))]}:Zw))else some (l.2,t)).bind λ(a7,w)=>((Zg a7 4).bind λm=>if(m.1==0)=true then (Zhj m.2 a).bind λx=>some (x.2,({w with Moves:=[x.1]}:Zw))else some (m.2,w)).bind λ(a9,y)=>(idx d b).bind λn=>if n.Ports.length+List.length [y]≤lim then some (a9,List.set d (Int.toNat b) ({n with Ports:=(n.Ports++[y])}:Zo))else none).bind λ(b1,b2)=>Zjc a b c z b1 b2 (wrap .i64 (f+1))else some (o,d)
def Zjd (a:Zb):Nat→Zc→Yh→Int→Option (Zc×Yh)
 |0,_,_,_=>none
 |f+1,c,d,b=>if decide (b<(a.Devices.length:Int))=true then (Zcz a b).bind λg=>(Zjc a b g fuel c d 0).bind λ(j,k)=>Zjd a f j k (wrap .i64 (b+1))else some (c,d)
def Znn (b:Zc) (a:Zb):Option (Yh×Zc):=if 0≤(a.Devices.length:Int)∧(a.Devices.length:Int)≤(lim:Int)then (Zjd a fuel b (List.replicate (Int.toNat (a.Devices.length:Int)) Zee) 0).bind λ(d,f)=>some (f,d)else none
def Zo0 (i:Zc) (b:Zb) (j:Zs) (k:Int):Option (Yh×Zc):=((Zg i 2).bind λa=>if(a.1==0)=true then (Zs1 b j k).bind λc=>if(c.2==0)=true then (Zg a.2 3).bind λd=>if(d.1==0)=true then (Zkj d.2 b c.1).bind λf=>some (.inr (f.1,f.2))else some (.inr (c.1,d.2))else some (.inl a.2)else some (.inl a.2)).bind λ(l:(Zc⊕(Yh×Zc)))=>match l with
 |.inl m=>(Znn m b).bind λg=>some (g.1,g.2)
 |.inr n=>some n
def Zfu (a:Yn):Nat→Int→Option Yb
 |0,_=>none
 |c+1,b=>if decide (b<(a.length:Int))=true then (idx a b).bind λd=>(Zbp d.Match).bind λf=>if(!f)=true then some (.inr false)else Zfu a c (wrap .i64 (b+1))else some (.inl ())
def Zgn (a:Yn):Option Bool:=(Zfu a fuel 0).bind λ(b:Yb)=>match b with
 |.inl ()=>some (decide ((a.length:Int)≤4096))
 |.inr c=>some c
def Zfa (b:Zaa):Nat→Int→Option Yb
 |0,_=>none
 |c+1,a=>if decide (a<5)=true then if 0≤a∧a<5 then if 0≤a∧a<5 then if 0≤a∧a<5 then if 0≤a∧a<5 then if((wrap .u32 ((Arr5.get b.From a).Hi-(Arr5.get b.From a).Lo))!=(wrap .u32 ((Arr5.get b.To a).Hi-(Arr5.get b.To a).Lo)))=true then some (.inr false)else Zfa b c (wrap .i64 (a+1))else none else none else none else none else some (.inl ())
def Zhq (a:Zaa):Option Bool:=(Zfa a fuel 0).bind λ(b:Yb)=>match b with
 |.inl ()=>(Zbp a.From).bind λc=>(some c).bind λd=>(if d=true then (Zbp a.To).bind λf=>some f else some false).bind λg=>some g
 |.inr i=>some i
def Zfv (a:Yj) (b:Int):Nat→Int→Option Yb
 |0,_=>none
 |d+1,c=>if decide (c<b)=true then (idx a b).bind λf=>(idx a c).bind λg=>(Zc1 f.From g.From).bind λi=>if i.2=true then some (.inr false)else Zfv a b d (wrap .i64 (c+1))else some (.inl ())
def Zei (a:Yj):Nat→Int→Option Yb
 |0,_=>none
 |c+1,b=>if decide (b<(a.length:Int))=true then (idx a b).bind λd=>(Zhq d).bind λf=>if(!f)=true then some (.inr false)else (Zfv a b fuel 0).bind λ(g:Yb)=>match g with
  |.inl ()=>Zei a c (wrap .i64 (b+1))
  |.inr i=>some (.inr i)else some (.inl ())
def Zgo (a:Yj):Option Bool:=if decide ((a.length:Int)>64)=true then some false else (Zei a fuel 0).bind λ(b:Yb)=>match b with
 |.inl ()=>some true
 |.inr c=>some c
def Zmg (a:Zab):Option Bool:=(Zbp a.Match).bind λb=>(some b).bind λc=>(some (c&&(decide (a.Ports.Lo≤a.Ports.Hi)))).bind λd=>some (d&&(decide (a.Ports.Hi≤65535)))
def Zdc (a:Ym):Nat→Int→Option Yb
 |0,_=>none
 |c+1,b=>if decide (b<(a.length:Int))=true then (idx a b).bind λd=>(Zmg d).bind λf=>if(!f)=true then some (.inr false)else Zdc a c (wrap .i64 (b+1))else some (.inl ())
def Zgp (a:Ym):Option Bool:=(Zdc a fuel 0).bind λ(b:Yb)=>match b with
 |.inl ()=>some (decide ((a.length:Int)≤256))
 |.inr c=>some c
def Zj0 (a:Zaa):Option Bool:=(some (a.From.x2.Lo !=a.From.x2.Hi)).bind λb=>(if b=true then some true else (some (a.From.x2.Lo !=(6:Int))).bind λc=>some (c&&(a.From.x2.Lo !=(17:Int)))).bind λd=>if d=true then some false else (some (Zba a.From.x0 a.To.x0)).bind λf=>(some (f&&(Zba a.From.x2 a.To.x2))).bind λg=>some (g&&(Zba a.From.x3 a.To.x3))
def Zc6 (b:Zb) (c:Za):Nat→Int→Option Yb
 |0,_=>none
 |f+1,a=>if decide (a<(b.Edges.length:Int))=true then (Zbg b a a).bind λd=>(some (decide (d.x0.Lo≤c.Hi))).bind λg=>if(g&&(decide (c.Lo≤d.x0.Hi)))=true then some (.inr false)else Zc6 b c f (wrap .i64 (a+1))else some (.inl ())
def Zij (a:Zb) (b:Za):Option Bool:=(Zc6 a b fuel 0).bind λ(c:Yb)=>match c with
 |.inl ()=>some true
 |.inr d=>some d
def Zhk (a:Zw) (b:Int):Nat→Int→Option Yb
 |0,_=>none
 |d+1,c=>if decide (c<b)=true then (idx a.Moves b).bind λf=>(idx a.Moves c).bind λg=>(Zc1 f.To g.To).bind λi=>if i.2=true then some (.inr false)else Zhk a b d (wrap .i64 (c+1))else some (.inl ())
def Zcn (c:Zb) (a:Zw):Nat→Int→Option Yb
 |0,_=>none
 |d+1,b=>if decide (b<(a.Moves.length:Int))=true then (idx a.Moves b).bind λf=>(Zj0 f).bind λg=>(some (!g)).bind λi=>(if i=true then some true else (idx a.Moves b).bind λj=>(Zij c j.From.x1).bind λk=>some (!k)).bind λl=>if l=true then some (.inr false)else (Zhk a b fuel 0).bind λ(m:Yb)=>match m with
  |.inl ()=>Zcn c a d (wrap .i64 (b+1))
  |.inr r88=>some (.inr r88)else some (.inl ())
def Zco (c:Zb) (a:Zw):Nat→Int→Option Yb
 |0,_=>none
 |d+1,b=>if decide (b<(a.Hides.length:Int))=true then (idx a.Hides b).bind λf=>(Zff c f.Addr).bind λg=>if decide (g≥0)=true then some (.inr false)else Zco c a d (wrap .i64 (b+1))else some (.inl ())
def Zcp (a:Zw):Nat→Int→Option Yb
 |0,_=>none
 |c+1,b=>if decide (b<(a.Steers.length:Int))=true then (idx a.Steers b).bind λd=>(Zbp d.Match).bind λf=>(some (!f)).bind λg=>(if g=true then some true else (idx a.Steers b).bind λi=>(Zad i.Class).bind λj=>some (!j)).bind λk=>if k=true then some (.inr false)else Zcp a c (wrap .i64 (b+1))else some (.inl ())
def Zgq (b:Zb) (a:Zw):Option Bool:=(Zgn a.Ingress).bind λc=>(some (!c)).bind λd=>(if d=true then some true else (Zgn a.Egress).bind λf=>some (!f)).bind λg=>(some g).bind λi=>(if i=true then some true else (Zgo a.Moves).bind λj=>some (!j)).bind λk=>(some k).bind λl=>(if l=true then some true else (Zgp a.Hides).bind λm=>some (!m)).bind λn=>(some n).bind λo=>if(o||(decide ((a.Steers.length:Int)>4096)))=true then some false else (Zcn b a fuel 0).bind λ(p:Yb)=>match p with
 |.inl ()=>(Zco b a fuel 0).bind λ(q:Yb)=>match q with
  |.inl ()=>(Zcp a fuel 0).bind λ(r:Yb)=>match r with
   |.inl ()=>some true
   |.inr s=>some s
  |.inr t=>some t
 |.inr u=>some u
def Zd2 (f:Zb) (b:Yh) (c:Int) (d:Ya):Nat→Int→Option Yb
 |0,_=>none
 |g+1,a=>if decide (a<(d.length:Int))=true then (idx b c).bind λi=>(idx i.Ports a).bind λj=>(idx d a).bind λk=>(some (j.Edge !=k)).bind λl=>(if l=true then some true else (idx b c).bind λm=>(idx m.Ports a).bind λn=>(Zgq f n).bind λo=>some (!o)).bind λp=>if p=true then some (.inr false)else Zd2 f b c d g (wrap .i64 (a+1))else some (.inl ())
def Ze6 (c:Zb) (b:Yh):Nat→Int→Option Yb
 |0,_=>none
 |f+1,a=>if decide (a<(b.length:Int))=true then (Zcz c a).bind λd=>(idx b a).bind λg=>if((g.Ports.length:Int)!=(d.length:Int))=true then some (.inr false)else (Zd2 c b a d fuel 0).bind λ(i:Yb)=>match i with
  |.inl ()=>Ze6 c b f (wrap .i64 (a+1))
  |.inr j=>some (.inr j)else some (.inl ())
def Zfm (a:Zb) (b:Yh):Option Bool:=(Zax a).bind λc=>(some (!c)).bind λd=>if(d||((b.length:Int)!=(a.Devices.length:Int)))=true then some false else (Ze6 a b fuel 0).bind λ(f:Yb)=>match f with
 |.inl ()=>some true
 |.inr g=>some g
def Zje (a:Zl) (b:Zl):Option Bool:=(some (decide (a.Addr<b.Addr))).bind λc=>(if c=true then some true else (some (a.Addr==b.Addr)).bind λd=>some (d&&(decide (a.Bits<b.Bits)))).bind λf=>some f
def Zof (b:Yd) (c:Zi):Nat→Int→Option Int
 |0,_=>none
 |d+1,a=>(some (decide (a<(b.length:Int)))).bind λf=>(if f=true then (idx b a).bind λg=>(Zje g.Prefix c.Prefix).bind λi=>some i else some false).bind λj=>if j=true then Zof b c d (wrap .i64 (a+1))else some a
def Zrr (a:Yd) (c:Zi):Option Yd:=(Zof a c fuel 0).bind λb=>if 0≤(0:Int)∧(0:Int)≤b∧b≤(a.length:Int)then if List.length ([]:Yd)+List.length (List.drop (Int.toNat (0:Int)) (List.take (Int.toNat b) a))≤lim then if List.length ([]++(List.drop (Int.toNat (0:Int)) (List.take (Int.toNat b) a)))+List.length [c]≤lim then if 0≤b∧b≤(a.length:Int)∧(a.length:Int)≤(a.length:Int)then if List.length (([]++(List.drop (Int.toNat (0:Int)) (List.take (Int.toNat b) a)))++[c])+List.length (List.drop (Int.toNat b) (List.take (Int.toNat (a.length:Int)) a))≤lim then some ((([]++(List.drop (Int.toNat (0:Int)) (List.take (Int.toNat b) a)))++[c])++(List.drop (Int.toNat b) (List.take (Int.toNat (a.length:Int)) a)))else none else none else none else none else none
def Zpu (a:Zah) (b:Int):Option Int:=if(b==a.A)=true then some a.B else if(b==a.B)=true then some a.A else some (-1:Int)
def Zno (b:Zb) (g:Zp) (d:Int) (c:Ya):Nat→Int→Option Yf
 |0,_=>none
 |i+1,a=>if decide (a<(b.Links.length:Int))=true then (idx b.Links a).bind λj=>(Zpu j d).bind λf=>(Zjz b g a).bind λk=>(some k).bind λl=>(some (l&&(decide (f≥0)))).bind λm=>(if m=true then (idx c f).bind λn=>some (decide (n≥0))else some false).bind λo=>(some o).bind λp=>(if p=true then (idx c f).bind λq=>(idx b.Links a).bind λr=>(idx c d).bind λs=>some ((wrap .i64 (q+r.Cost))==s)else some false).bind λt=>if t=true then some (.inr a)else Zno b g d c i (wrap .i64 (a+1))else some (.inl ())
def Znp (a:Zb) (b:Zp) (c:Int) (d:Int):Option Int:=(Zgz a b c).bind λf=>(some (!f)).bind λg=>(if g=true then some true else (Zgz a b d).bind λi=>some (!i)).bind λj=>(some j).bind λk=>if(k||(c==d))=true then some (-1:Int)else (Zdj a b d).bind λl=>(Zno a b c l fuel 0).bind λ(m:Yf)=>match m with
 |.inl ()=>some (-1:Int)
 |.inr n=>some n
def Zkk (a:Zb) (g:Zp) (c:Int):Nat→Yd→Int→Option Yd
 |0,_,_=>none
 |i+1,d,f=>if decide (f<(a.Edges.length:Int))=true then ((idx a.Edges f).bind λb=>(Zkf a g c b.Device).bind λj=>if(!j)=true then some d else if(c==b.Device)=true then (Zrr d (Zi.mk b.Prefix true f)).bind λk=>some k else (Znp a g c b.Device).bind λl=>(Zrr d (Zi.mk b.Prefix false l)).bind λm=>some m).bind λn=>Zkk a g c i n (wrap .i64 (f+1))else some d
def Zkl (a:Zb) (d:Zp):Nat→(List Yd)→Int→Option (List Yd)
 |0,_,_=>none
 |g+1,b,c=>if decide (c<(a.Devices.length:Int))=true then (Zkk a d c fuel [] 0).bind λf=>if b.length+List.length [f]≤lim then Zkl a d g (b++[f]) (wrap .i64 (c+1))else none else some b
def Zog (a:Zb) (b:Zp):Option (List Yd):=(Zax a).bind λc=>(some (!c)).bind λd=>(if d=true then some true else (Zbh a b).bind λf=>some (!f)).bind λg=>if g=true then some ([]:(List Yd))else (Zkl a b fuel ([]:(List Yd)) 0).bind λi=>some i
def Zkm (a:Zb) (d:Zp) (f:Int):Nat→Ya→Int→Option Ya
 |0,_,_=>none
 |i+1,b,c=>if decide (c<(a.Devices.length:Int))=true then (Znp a d f c).bind λg=>if b.length+List.length [g]≤lim then Zkm a d f i (b++[g]) (wrap .i64 (c+1))else none else some b
def Zkn (a:Zb) (d:Zp):Nat→(List Ya)→Int→Option (List Ya)
 |0,_,_=>none
 |g+1,b,c=>if decide (c<(a.Devices.length:Int))=true then (Zkm a d c fuel [] 0).bind λf=>if b.length+List.length [f]≤lim then Zkn a d g (b++[f]) (wrap .i64 (c+1))else none else some b
def Zoh (a:Zb) (b:Zp):Option (List Ya):=(Zbh a b).bind λc=>if(!c)=true then some ([]:(List Ya))else (Zkn a b fuel ([]:(List Ya)) 0).bind λd=>some d
def Zmh (a:Zb) (b:Zp) (c:Yh):Option (Z0×Int):=(Zfm a c).bind λd=>(some (!d)).bind λf=>(if f=true then some true else (Zbh a b).bind λg=>some (!g)).bind λi=>if i=true then some ((Z0.mk Zuk Z1r [] ([]:(List Yd)) ([]:(List Ya))),(1:Int))else (Zog a b).bind λj=>(Zoh a b).bind λk=>some ((Z0.mk a b c j k),(0:Int))
def Zh8 (b:Zb) (d:Int):Nat→Ya→Int→Option Ya
 |0,_,_=>none
 |f+1,c,a=>if decide (a<(b.Links.length:Int))=true then ((idx b.Links a).bind λg=>(some (g.A==d)).bind λi=>(if i=true then some true else (idx b.Links a).bind λj=>some (j.B==d)).bind λk=>if k=true then if c.length+List.length [a]≤lim then some (c++[a])else none else some c).bind λl=>Zh8 b d f l (wrap .i64 (a+1))else some c
def Zmi (a:Zb) (b:Int):Option Ya:=(Zh8 a b fuel [] 0).bind λc=>some c
def Zjf (q:Zc) (c:Z0) (f:Int):Option (Z0×Zc):=(Zmi c.Topology f).bind λb=>if List.length ([]:(List Yd))+c.Routes.length≤lim then if List.length ([]:(List Ya))+c.Labels.length≤lim then (idx (([]:(List Yd))++c.Routes) f).bind λx5=>if List.length ([]:Yd)+x5.length≤lim then (idx (([]:(List Ya))++c.Labels) f).bind λx8=>if List.length ([]:Ya)+x8.length≤lim then (Zg q (List.length ([]++x5):Int)).bind λa=>((Zg a.2 5).bind λd=>(some (d.1==0)).bind λr=>if(r&&(decide ((List.length ([]++x5):Int)>0)))=true then if 0≤(0:Int)∧(0:Int)≤a.1∧a.1≤(List.length ([]++x5):Int)then if List.length ([]:Yd)+List.length (List.drop (Int.toNat (0:Int)) (List.take (Int.toNat a.1) ([]++x5)))≤lim then if 0≤(wrap .i64 (a.1+(1:Int)))∧(wrap .i64 (a.1+(1:Int)))≤(List.length ([]++x5):Int)∧(List.length ([]++x5):Int)≤(List.length ([]++x5):Int)then if List.length ([]++(List.drop (Int.toNat (0:Int)) (List.take (Int.toNat a.1) ([]++x5))))+List.length (List.drop (Int.toNat (wrap .i64 (a.1+(1:Int)))) (List.take (Int.toNat (List.length ([]++x5):Int)) ([]++x5)))≤lim then some (d.2,b,[]++x5,[]++x8,([]++(List.drop (Int.toNat (0:Int)) (List.take (Int.toNat a.1) ([]++x5))))++(List.drop (Int.toNat (wrap .i64 (a.1+(1:Int)))) (List.take (Int.toNat (List.length ([]++x5):Int)) ([]++x5))))else none else none else none else none else (some (decide (d.1≤(2:Int)))).bind λs=>(some (s&&(decide ((List.length ([]++x5):Int)>0)))).bind λt=>if(t&&(decide ((b.length:Int)>0)))=true then (Zg d.2 (b.length:Int)).bind λl=>(idx b l.1).bind λm=>(idx ([]++x5) a.1).bind λj=>(idx (List.set ([]++x5) (Int.toNat a.1) ({j with Edge:=false}:Zi)) a.1).bind λn=>some (l.2,b,List.set (List.set ([]++x5) (Int.toNat a.1) ({j with Edge:=false}:Zi)) (Int.toNat a.1) ({n with Port:=m}:Zi),[]++x8,List.set (List.set ([]++x5) (Int.toNat a.1) ({j with Edge:=false}:Zi)) (Int.toNat a.1) ({n with Port:=m}:Zi))else (some (d.1==3)).bind λu=>(some (u&&(decide ((List.length ([]++x5):Int)>0)))).bind λv=>(some (v&&(decide ((b.length:Int)>0)))).bind λw=>(if w=true then (idx ([]++x5) a.1).bind λx=>some (decide (x.Prefix.Bits<31))else some false).bind λy=>if y=true then (idx ([]++x5) a.1).bind λg=>(some (decide ((wrap .i64 (a.1+(1:Int)))<(List.length ([]++x5):Int)))).bind λz=>(if z=true then (idx ([]++x5) (wrap .i64 (a.1+(1:Int)))).bind λa0=>some (Z1q a0.Prefix ({g.Prefix with Bits:=(wrap .i64 (g.Prefix.Bits+1))}:Zl))else some false).bind λa1=>if a1=true then some (d.2,b,[]++x5,[]++x8,[]++x5)else if 0≤(0:Int)∧(0:Int)≤(wrap .i64 (a.1+(1:Int)))∧(wrap .i64 (a.1+(1:Int)))≤(List.length ([]++x5):Int)then if List.length ([]:Yd)+List.length (List.drop (Int.toNat (0:Int)) (List.take (Int.toNat (wrap .i64 (a.1+(1:Int)))) ([]++x5)))≤lim then (Zg d.2 (b.length:Int)).bind λo=>(idx b o.1).bind λk=>if List.length ([]++(List.drop (Int.toNat (0:Int)) (List.take (Int.toNat (wrap .i64 (a.1+(1:Int)))) ([]++x5))))+List.length [Zi.mk ({g.Prefix with Bits:=(wrap .i64 (g.Prefix.Bits+1))}:Zl) false k]≤lim then if 0≤(wrap .i64 (a.1+(1:Int)))∧(wrap .i64 (a.1+(1:Int)))≤(List.length ([]++x5):Int)∧(List.length ([]++x5):Int)≤(List.length ([]++x5):Int)then if List.length (([]++(List.drop (Int.toNat (0:Int)) (List.take (Int.toNat (wrap .i64 (a.1+(1:Int)))) ([]++x5))))++[Zi.mk ({g.Prefix with Bits:=(wrap .i64 (g.Prefix.Bits+1))}:Zl) false k])+List.length (List.drop (Int.toNat (wrap .i64 (a.1+(1:Int)))) (List.take (Int.toNat (List.length ([]++x5):Int)) ([]++x5)))≤lim then some (o.2,b,[]++x5,[]++x8,(([]++(List.drop (Int.toNat (0:Int)) (List.take (Int.toNat (wrap .i64 (a.1+(1:Int)))) ([]++x5))))++[Zi.mk ({g.Prefix with Bits:=(wrap .i64 (g.Prefix.Bits+1))}:Zl) false k])++(List.drop (Int.toNat (wrap .i64 (a.1+(1:Int)))) (List.take (Int.toNat (List.length ([]++x5):Int)) ([]++x5))))else none else none else none else none else none else (some (decide ((List.length ([]++x8):Int)>1))).bind λa2=>if(a2&&(decide ((b.length:Int)>0)))=true then (Zg d.2 (List.length ([]++x8):Int)).bind λi=>if(i.1 !=f)=true then if b.length+List.length [(-1:Int)]≤lim then (Zg i.2 (wrap .i64 ((b.length:Int)+1))).bind λp=>(idx (b++[(-1:Int)]) p.1).bind λa3=>(idx ([]++x8) i.1).bind λ_=>some (p.2,b++[(-1:Int)],[]++x5,List.set ([]++x8) (Int.toNat i.1) a3,[]++x5)else none else some (i.2,b,[]++x5,[]++x8,[]++x5)else some (d.2,b,[]++x5,[]++x8,[]++x5)).bind λ(a5,_,_,a6,a7)=>(idx (([]:(List Yd))++c.Routes) f).bind λ_=>(idx (([]:(List Ya))++c.Labels) f).bind λ_=>some ((Z0.mk c.Topology c.Failure c.Configs (List.set (([]:(List Yd))++c.Routes) (Int.toNat f) a7) (List.set (([]:(List Ya))++c.Labels) (Int.toNat f) a6)),a5)else none else none else none else none
def Zgr (d:Bool) (c:(Zb×Zs×Int×Zc)):Nat→Zc→Z0→Int→Option (Zc×Z0)
 |0,_,_,_=>none
 |j+1,f,a,g=>(some d).bind λk=>if(k&&(decide (g>0)))=true then ((Zg f (c.1.Devices.length:Int)).bind λb=>(Zbi c.1 a.Failure b.1).bind λl=>if l=true then (Zjf b.2 a b.1).bind λi=>some (i.2,i.1)else some (b.2,a)).bind λ(n,o)=>Zgr d c j n o (wrap .i64 (g-1))else some (f,a)
def Zo1 (f:Zc) (g:Int) (i:Int) (j:Bool):Option (Z0×Zc):=(Zr1 f g i).bind λa=>(Zov a.2.2.2 a.1).bind λb=>(Zo0 b.2 a.1 a.2.1 a.2.2.1).bind λc=>(Zmh a.1 b.1 c.1).bind λk=>(Zg c.2 3).bind λd=>(Zgr j a fuel d.2 k.1 d.1).bind λ(m,n)=>some (n,m)
def Zlf (b:Zc) (c:Zb) (d:Zb) (a:Zb):Option (Yr×Yt×Yk×Yl×Int):=if List.length ([]:Yr)+a.Devices.length≤lim then if List.length ([]:Yt)+a.Links.length≤lim then if List.length ([]:Yk)+a.Edges.length≤lim then if List.length ([]:Yl)+a.Pools.length≤lim then some (([]++a.Devices),[]++a.Links,[]++a.Edges,[]++a.Pools,a.Tolerate)else none else none else none else none
def Zko (f:Zc) (a:Zl):Option (Zl×Zc):=((Zg f 4).bind λb=>if(b.1==0)=true then (Zg b.2 4).bind λd=>(idx [(-1:Int),(33:Int),(0:Int),(32:Int)] d.1).bind λg=>some (d.2,({a with Bits:=g}:Zl))else if(b.1==1)=true then some (b.2,({a with Addr:=(bOr .u32 a.Addr (1:Int))}:Zl))else if(b.1==2)=true then some (b.2,({a with Bits:=(wrap .i64 (a.Bits+1))}:Zl))else (Zg b.2 32).bind λc=>if 0≤(wrap .u64 c.1)then some (c.2,({a with Addr:=(bXor .u32 a.Addr (bShl .u32 (1:Int) (wrap .u64 c.1)))}:Zl))else none).bind λ(j,k)=>some (k,j)
end
end Go.AM

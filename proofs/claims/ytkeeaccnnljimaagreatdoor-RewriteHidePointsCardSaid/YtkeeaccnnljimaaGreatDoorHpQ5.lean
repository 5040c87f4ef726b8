/- Parts of a proof, printed short. No condition. -/
import Derived.Sort.AssemblyPlain
import Derived.Sort.LotD5
import Derived.Test.YtkeeaccnnljimaaGreatDoorHpQ4
set_option maxRecDepth 100000
namespace Go.AM
open Go
instance decRg:DecidableEq Zb:=fun a b=>
 if h:a.Lo=b.Lo∧a.Hi=b.Hi then .isTrue (by cases a; cases b; obtain⟨h1,h2⟩:=h; simp only at h1 h2; rw [h1,h2]) else .isFalse fun e=>h (by rw [e]; exact⟨rfl,rfl⟩)
def inR (v:Int) (r:Zb):Bool:=decide (r.Lo≤v) && decide (v≤r.Hi)
def mB:List Zb→List Int→Bool
 | [],[]=>true
 | r :: b,v :: p=>inR v r && mB b p
 | _,_=>false
def mS (l:List (List Zb)) (p:List Int):Bool:=l.any (mB · p)
def atv (l:List (List Zb)) (v:Int):List (List Zb):=l.flatMap fun b=>match b with
 | r :: b'=>if inR v r then [b'] else []
 | []=>[]
def vP:List Int→List Int→Prop
 | [],[]=>True
 | t :: ts,v :: p=>0≤v∧v≤t∧vP ts p
 | _,_=>False
def vR:List Int→List Zb→Prop
 | [],[]=>True
 | t :: ts,r :: b=>0≤r.Lo∧r.Lo≤r.Hi∧r.Hi≤t∧vR ts b
 | _,_=>False
theorem Zhl (l:List (List Zb)) (v:Int) (p:List Int):mS l (v :: p)=mS (atv l v) p:=by
 induction l with
 | nil=>rfl
 | cons b l ih=>
  have e:mS (b :: l) (v :: p)=(mB b (v :: p) || mS l (v :: p)):=rfl
  rw [e,ih]
  cases b with
  | nil=>rfl
  | cons r b=>
   have e2:atv ((r :: b) :: l) v=(if inR v r then [b] else [])++atv l v:=rfl
   rw [e2]
   unfold mS
   rw [List.any_append]
   simp only [mB]
   cases inR v r <;> simp
theorem mS_app (a b:List (List Zb)) (p:List Int):mS (a++b) p=(mS a p || mS b p):=by unfold mS; rw [List.any_append]
theorem mS_nil (p:List Int):mS [] p=false:=rfl
theorem Z0g (a b:List (List Zb)) (v:Int):atv (a++b) v=atv a v++atv b v:=by unfold atv; rw [List.flatMap_append]
theorem mS_iff {l:List (List Zb)} {p:List Int}:mS l p=true ↔ ∃ b∈l,mB b p=true:=by unfold mS; rw [List.any_eq_true]
abbrev Cell:=Zb × List (List Zb)
def gp (y x:Cell):Prop:=y.1.Hi<x.1.Lo∧(y.1.Hi + 1=x.1.Lo→y.2 ≠ x.2)
def lk (c:List Cell) (v:Int):List (List Zb):=c.flatMap fun x=>if inR v x.1 then x.2 else []
def flt (c:List Cell):List (List Zb):=c.flatMap fun x=>x.2.map (x.1 :: ·)
structure Ord (t:Int) (c:List Cell):Prop where
 pw:c.Pairwise gp
 ok:∀ x∈c,0≤x.1.Lo∧x.1.Lo≤x.1.Hi∧x.1.Hi≤t∧x.2 ≠ []
def CF:List Int→List (List Zb)→Prop
 | [],l=>l=[]∨l=[[]]
 | t :: ts,l=>∃ c,l=flt c∧Ord t c∧∀ x∈c,CF ts x.2
theorem lk_app (a b:List Cell) (v:Int):lk (a++b) v=lk a v++lk b v:=by unfold lk; rw [List.flatMap_append]
theorem Zid (x:Cell) (b:List Cell) (v:Int):lk (x :: b) v=(if inR v x.1 then x.2 else [])++lk b v:=rfl
theorem Zer (a b:List Cell):flt (a++b)=flt a++flt b:=by unfold flt; rw [List.flatMap_append]
theorem Zg3 (x:Cell) (b:List Cell):flt (x :: b)=x.2.map (x.1 :: ·)++flt b:=rfl
theorem Zo6 (r:Zb) (v:Int):∀(l:List (List Zb)),atv (l.map (r :: ·)) v=if inR v r then l else []
 | []=>by simp [atv]
 | b :: l=>by
  have e:atv ((b :: l).map (r :: ·)) v=(if inR v r then [b] else [])++atv (l.map (r :: ·)) v:=rfl
  rw [e,Zo6 r v l]
  split <;> rfl
theorem Zkq (c:List Cell) (v:Int):atv (flt c) v=lk c v:=by
 induction c with
 | nil=>rfl
 | cons x c ih=>rw [Zg3,Zid,Z0g,Zo6,ih]
theorem Zbo {v:Int} {r:Zb}:inR v r=true ↔ r.Lo≤v∧v≤r.Hi:=by unfold inR; simp
theorem Zos {c:List Cell} {v:Int} (h:∀ x∈c,¬ (x.1.Lo≤v∧v≤x.1.Hi)):lk c v=[]:=by
 induction c with
 | nil=>rfl
 | cons x c ih=>
  rw [Zid,ih fun y hy=>h y (List.mem_cons_of_mem _ hy),if_neg (by rw [Zbo]; exact h x (List.mem_cons_self ..))]; rfl
theorem Ord.tail {t:Int} {x:Cell} {c:List Cell} (h:Ord t (x :: c)):Ord t c:=⟨(List.pairwise_cons.1 h.pw).2,fun y hy=>h.ok y (List.mem_cons_of_mem _ hy)⟩
theorem lk_mem {t:Int}:∀ {c:List Cell},Ord t c→∀ {x:Cell},x∈c→∀ {v:Int},x.1.Lo≤v→v≤x.1.Hi→lk c v=x.2
 | [],_,_,h,_,_,_=>(by cases h)
 | y :: c,ho,x,hx,v,h1,h2=>by
  have hp:=List.pairwise_cons.1 ho.pw
  rw [Zid]
  rcases List.mem_cons.1 hx with rfl | hx
  ·rw [if_pos (Zbo.2 ⟨h1,h2⟩),Zos,List.append_nil]
   intro z hz
   have:=(hp.1 z hz).1
   omega
  ·have:=(hp.1 x hx).1
   rw [if_neg (by rw [Zbo]; omega),lk_mem ho.tail hx h1 h2]; rfl
theorem Zi1 {c:List Cell} {v:Int} (h:lk c v ≠ []):∃ x∈c,x.1.Lo≤v∧v≤x.1.Hi:=by
 apply Classical.byContradiction
 intro hn
 exact h (Zos fun x hx hv=>hn ⟨x,hx,hv⟩)
theorem Ord.inj {t:Int}:∀ {c c':List Cell},Ord t c→Ord t c'→(∀ v,lk c v=lk c' v)→c=c'
 | [],[],_,_,_=>rfl
 | [],y :: c',_,h',h=>by
  have hy:=h'.ok y (List.mem_cons_self ..)
  have:=h y.1.Lo
  rw [lk_mem h' (List.mem_cons_self ..) (Int.le_refl _) hy.2.1] at this
  exact absurd this.symm hy.2.2.2
 | x :: c,[],h,_,he=>by
  have hy:=h.ok x (List.mem_cons_self ..)
  have:=he x.1.Lo
  rw [lk_mem h (List.mem_cons_self ..) (Int.le_refl _) hy.2.1] at this
  exact absurd this hy.2.2.2
 | x :: c,y :: c',h,h',he=>by
  have hx:=h.ok x (List.mem_cons_self ..)
  have hy:=h'.ok y (List.mem_cons_self ..)
  have px:=List.pairwise_cons.1 h.pw
  have py:=List.pairwise_cons.1 h'.pw
  have low:∀ {x:Cell} {c c':List Cell} {y:Cell},Ord t (x :: c)→Ord t (y :: c')→(∀ v,lk (x :: c) v=lk (y :: c') v)→y.1.Lo≤x.1.Lo:=by
   intro x c c' y h h' he
   have hx:=h.ok x (List.mem_cons_self ..)
   have py:=List.pairwise_cons.1 h'.pw
   have h1:=he x.1.Lo
   rw [lk_mem h (List.mem_cons_self ..) (Int.le_refl _) hx.2.1] at h1
   obtain⟨z,hz,h2,h3⟩:=Zi1 (c:=y :: c') (v:=x.1.Lo) (by rw [← h1]; exact hx.2.2.2)
   rcases List.mem_cons.1 hz with rfl | hz
   ·exact h2
   ·have:=(py.1 z hz).1
    have:=(h'.ok y (List.mem_cons_self ..)).2.1
    omega
  have e1:x.1.Lo=y.1.Lo:=Int.le_antisymm (low h' h fun v=>(he v).symm) (low h h' he)
  have e2:x.2=y.2:=by
   have h1:=he x.1.Lo
   rw [lk_mem h (List.mem_cons_self ..) (Int.le_refl _) hx.2.1,lk_mem h' (List.mem_cons_self ..) (by omega) (by omega)] at h1
   exact h1
  have hi:∀ {x:Cell} {c c':List Cell} {y:Cell},Ord t (x :: c)→Ord t (y :: c')→(∀ v,lk (x :: c) v=lk (y :: c') v)→x.1.Lo=y.1.Lo→x.2=y.2→¬ x.1.Hi<y.1.Hi:=by
   intro x c c' y h h' he e1 e2 hlt
   have hx:=h.ok x (List.mem_cons_self ..)
   have px:=List.pairwise_cons.1 h.pw
   have h1:=he (x.1.Hi + 1)
   rw [lk_mem h' (v:=x.1.Hi + 1) (List.mem_cons_self ..) (by omega) (by omega)] at h1
   obtain⟨z,hz,h2,h3⟩:=Zi1 (c:=x :: c) (v:=x.1.Hi + 1) (by rw [h1,← e2]; exact hx.2.2.2)
   rcases List.mem_cons.1 hz with rfl | hzc
   ·omega
   ·have hg:=px.1 z hzc
    rw [lk_mem h hz h2 h3,← e2] at h1
    exact hg.2 (by have:=hg.1; omega) h1.symm
  have e3:x.1.Hi=y.1.Hi:=by
   have a1:=hi h h' he e1 e2
   have a2:=hi h' h (fun v=>(he v).symm) e1.symm e2.symm
   omega
  have exy:x=y:=by
   obtain⟨⟨a,b⟩,r⟩:=x
   obtain⟨⟨a',b'⟩,r'⟩:=y
   simp only at e1 e2 e3
   subst e1 e2 e3
   rfl
  subst exy
  congr 1
  refine Ord.inj h.tail h'.tail fun v=>?_
  have h1:=he v
  rw [Zid,Zid] at h1
  exact List.append_cancel_left h1
theorem CF_nil:∀ ts,CF ts []
 | []=>.inl rfl
 | _ :: _=>⟨[],rfl,⟨List.Pairwise.nil,fun _ h=>(by cases h)⟩,fun _ h=>(by cases h)⟩
theorem CF_lk {ts:List Int} {t:Int} {c:List Cell} (h:Ord t c) (hc:∀ x∈c,CF ts x.2) (v:Int):CF ts (lk c v):=by
 by_cases hv:lk c v=[]
 ·rw [hv]; exact CF_nil ts
 ·obtain⟨x,hx,h1,h2⟩:=Zi1 hv
  rw [lk_mem h hx h1 h2]
  exact hc x hx
theorem lk_out {t:Int} {c:List Cell} (h:Ord t c) {v:Int} (hv:v<0∨t<v):lk c v=[]:=
 Zos fun x hx=>by have:=h.ok x hx; omega
theorem CF_inj:∀(ts:List Int) {l l':List (List Zb)},CF ts l→CF ts l'→(∀ p,vP ts p→mS l p=mS l' p)→l=l'
 | [],l,l',h,h',he=>by
  have:=he [] trivial
  rcases h with rfl | rfl <;> rcases h' with rfl | rfl
  ·rfl
  ·simp [mS,mB] at this
  ·simp [mS,mB] at this
  ·rfl
 | t :: ts,l,l',h,h',he=>by
  obtain⟨c,rfl,ho,hc⟩:=h
  obtain⟨c',rfl,ho',hc'⟩:=h'
  rw [Ord.inj ho ho' fun v=>?_]
  by_cases hv:0≤v∧v≤t
  ·refine CF_inj ts (CF_lk ho hc v) (CF_lk ho' hc' v) fun p hp=>?_
   have:=he (v :: p) ⟨hv.1,hv.2,hp⟩
   rw [Zhl,Zhl,Zkq,Zkq] at this
   exact this
  ·rw [lk_out ho (by omega),lk_out ho' (by omega)]
def joinC (c:List Cell) (lo hi:Int) (rest:List (List Zb)):List Cell:=
 if rest=[] then c else match c.getLast? with
  | some y=>if y.1.Hi + 1=lo∧y.2=rest then c.dropLast++[(⟨y.1.Lo,hi⟩,rest)] else c++[(⟨lo,hi⟩,rest)]
  | none=>c++[(⟨lo,hi⟩,rest)]
structure Upto (g:Int→List (List Zb)) (p:Int) (c:List Cell):Prop where
 ord:Ord (p - 1) c
 at_:∀ v,lk c v=if 0≤v∧v<p then g v else []
theorem Ord.mono {t t':Int} (h:t≤t') {c:List Cell} (ho:Ord t c):Ord t' c:=⟨ho.pw,fun x hx=>by have:=ho.ok x hx; exact⟨this.1,this.2.1,by omega,this.2.2.2⟩⟩
theorem Upto.nil (g:Int→List (List Zb)):Upto g 0 []:=⟨⟨List.Pairwise.nil,fun _ h=>(by cases h)⟩,fun v=>by rw [if_neg (by omega)]; rfl⟩
theorem Upto.inj {g:Int→List (List Zb)} {p:Int} {c c':List Cell} (h:Upto g p c) (h':Upto g p c'):c=c':=Ord.inj h.ord h'.ord fun v=>by rw [h.at_,h'.at_]
theorem lk_one (lo hi:Int) (rest:List (List Zb)) (v:Int):lk [(⟨lo,hi⟩,rest)] v=if lo≤v∧v≤hi then rest else []:=by
 rw [Zid]
 show _++[]=_
 rw [List.append_nil]
 by_cases h:lo≤v∧v≤hi
 ·rw [if_pos h,if_pos (Zbo.2 h)]
 ·rw [if_neg h,if_neg (by rw [Zbo]; exact h)]
theorem Upto.step {g:Int→List (List Zb)} {p q:Int} {c:List Cell} (h:Upto g p c) (hp:0≤p) (hq:p<q) (hg:∀ v,p≤v→v<q→g v=g p):Upto g q (joinC c p (q - 1) (g p)):=by
 unfold joinC
 by_cases hr:g p=[]
 ·rw [if_pos hr]
  refine⟨h.ord.mono (by omega),fun v=>?_⟩
  rw [h.at_]
  by_cases h1:0≤v∧v<p
  ·rw [if_pos h1,if_pos ⟨h1.1,by omega⟩]
  ·rw [if_neg h1]
   split
   ·rw [hg v (by omega) (by omega),hr]
   ·rfl
 ·rw [if_neg hr]
  have snoc:∀(d:List Cell) (lo:Int),d.Pairwise gp→(∀ x∈d,0≤x.1.Lo∧x.1.Lo≤x.1.Hi∧x.1.Hi≤p - 1∧x.2 ≠ [])→(∀ y∈d,gp y (⟨lo,q - 1⟩,g p))→0≤lo→lo≤p →
    Ord (q - 1) (d++[(⟨lo,q - 1⟩,g p)]):=by
   intro d lo h1 h2 h3 h4 h5
   refine⟨List.pairwise_append.2 ⟨h1,List.pairwise_singleton ..,fun y hy x hx=>by rw [List.mem_singleton] at hx; subst hx; exact h3 y hy⟩,fun x hx=>?_⟩
   rcases List.mem_append.1 hx with hx | hx
   ·have:=h2 x hx
    exact⟨this.1,this.2.1,by omega,this.2.2.2⟩
   ·rw [List.mem_singleton] at hx
    subst hx
    exact⟨h4,by show lo≤q - 1; omega,by show q - 1≤q - 1; omega,hr⟩
  have look:∀ v,lk c v++(if p≤v∧v≤q - 1 then g p else [])=if 0≤v∧v<q then g v else []:=by
   intro v
   rw [h.at_]
   by_cases h1:0≤v∧v<p
   ·rw [if_pos h1,if_neg (show ¬ (p≤v∧v≤q - 1) by omega),if_pos (show 0≤v∧v<q by omega),List.append_nil]
   ·rw [if_neg h1,List.nil_append]
    by_cases h2:p≤v∧v≤q - 1
    ·rw [if_pos h2,if_pos (by omega),hg v h2.1 (by omega)]
    ·rw [if_neg h2,if_neg (by omega)]
  cases hl:c.getLast? with
  | none=>
   rw [List.getLast?_eq_none_iff] at hl
   subst hl
   refine⟨snoc [] p List.Pairwise.nil (fun _ h=>(by cases h)) (fun _ h=>(by cases h)) hp (Int.le_refl _),fun v=>?_⟩
   rw [lk_app,lk_one]
   exact look v
  | some y=>
   obtain⟨d,rfl⟩:=List.getLast?_eq_some_iff.1 hl
   have hyo:=h.ord.ok y (List.mem_append_right _ (List.mem_singleton.2 rfl))
   have hpw:=List.pairwise_append.1 h.ord.pw
   have hbe:∀ x∈d,gp x y:=fun x hx=>hpw.2.2 x hx y (List.mem_singleton.2 rfl)
   simp only
   by_cases hj:y.1.Hi + 1=p∧y.2=g p
   ·rw [if_pos hj,List.dropLast_concat]
    refine⟨snoc d y.1.Lo hpw.1 (fun x hx=>h.ord.ok x (List.mem_append_left _ hx)) (fun x hx=>⟨(hbe x hx).1,by rw [← hj.2]; exact(hbe x hx).2⟩) hyo.1 (by omega),fun v=>?_⟩
    rw [lk_app,lk_one,← look v,lk_app,List.append_assoc]
    congr 1
    obtain⟨⟨ylo,yhi⟩,yr⟩:=y
    rw [lk_one]
    simp only at hj hyo ⊢
    obtain⟨h1,rfl⟩:=hj
    by_cases h2:ylo≤v∧v≤yhi
    ·rw [if_pos h2,if_neg (show ¬ (p≤v∧v≤q - 1) by omega),if_pos (show ylo≤v∧v≤q - 1 by omega),List.append_nil]
    ·rw [if_neg h2,List.nil_append]
     by_cases h3:p≤v∧v≤q - 1
     ·rw [if_pos h3,if_pos (show ylo≤v∧v≤q - 1 by omega)]
     ·rw [if_neg h3,if_neg (show ¬ (ylo≤v∧v≤q - 1) by omega)]
   ·rw [if_neg hj]
    refine⟨snoc (d++[y]) p h.ord.pw h.ord.ok (fun x hx=>⟨?_,fun e1 e2=>?_⟩) hp (Int.le_refl _),fun v=>?_⟩
    ·have:=h.ord.ok x hx
     show x.1.Hi<p
     omega
    ·simp only at e1 e2
     rcases List.mem_append.1 hx with hx | hx
     ·have:=(hbe x hx).1
      omega
     ·rw [List.mem_singleton] at hx
      subst hx
      exact hj ⟨e1,e2⟩
    ·rw [lk_app,lk_one]
     exact look v
theorem Upto.exists_ (g:Int→List (List Zb)):∀ n:Nat,∃ c,Upto g n c
 | 0=>⟨[],Upto.nil g⟩
 | n + 1=>by
  obtain⟨c,h⟩:=Upto.exists_ g n
  refine⟨_,h.step (q:=((n + 1:Nat):Int)) (by omega) (by omega) fun v h1 h2=>?_⟩
  rw [show v=(n:Int) by omega]
structure Is (op:Bool→Bool→Bool) (ts:List Int) (a b l:List (List Zb)):Prop where
 cf:CF ts l
 mem:∀ p,vP ts p→mS l p=op (mS a p) (mS b p)
theorem Is.inj {op:Bool→Bool→Bool} {ts:List Int} {a b l l':List (List Zb)} (h:Is op ts a b l) (h':Is op ts a b l'):l=l':=
 CF_inj ts h.cf h'.cf fun p hp=>by rw [h.mem p hp,h'.mem p hp]
theorem Is.exists_ (op:Bool→Bool→Bool):∀(ts:List Int),(∀ t∈ts,0≤t)→∀ a b,∃ l,Is op ts a b l
 | [],_,a,b=>by
  by_cases h:op (mS a []) (mS b [])=true
  ·exact⟨[[]],.inr rfl,fun p hp=>by cases p with | nil=>rw [h]; rfl | cons _ _=>exact hp.elim⟩
  ·exact⟨[],.inl rfl,fun p hp=>by cases p with | nil=>rw [Bool.not_eq_true] at h; rw [h]; rfl | cons _ _=>exact hp.elim⟩
 | t :: ts,ht,a,b=>by
  have ih:=fun v=>Is.exists_ op ts (fun x hx=>ht x (List.mem_cons_of_mem _ hx)) (atv a v) (atv b v)
  have h0:=ht t (List.mem_cons_self ..)
  obtain⟨c,hc⟩:=Upto.exists_ (fun v=>(ih v).choose) (t + 1).toNat
  have hg:=fun v=>(ih v).choose_spec
  refine⟨flt c,⟨c,rfl,hc.ord.mono (by omega),fun x hx=>?_⟩,fun p hp=>?_⟩
  ·have hx2:=hc.ord.ok x hx
   have:=hc.at_ x.1.Lo
   rw [lk_mem hc.ord hx (Int.le_refl _) hx2.2.1,if_pos (by omega)] at this
   rw [this]
   exact(hg _).cf
  ·cases p with
   | nil=>exact hp.elim
   | cons v p=>
    rw [Zhl,Zkq,hc.at_,if_pos (by have:=hp.1; have:=hp.2.1; omega),(hg v).mem p hp.2.2,Zhl,Zhl]
theorem Is.at_ {op:Bool→Bool→Bool} {t:Int} {ts:List Int} {a b:List (List Zb)} {c:List Cell} (ho:Ord t c) (hc:∀ x∈c,CF ts x.2) (h:Is op (t :: ts) a b (flt c)) {v:Int} (h0:0≤v) (h1:v≤t) :
  Is op ts (atv a v) (atv b v) (lk c v):=
 ⟨CF_lk ho hc v,fun p hp=>by have:=h.mem (v :: p) ⟨h0,h1,hp⟩; rw [Zhl,Zhl,Zhl,Zkq] at this; exact this⟩
end Go.AM
set_option maxRecDepth 100000
namespace Go.AM
open Go
def runC (g:Int→List (List Zb)):List Cell→List Int→List Cell
 | c,p :: q :: ps=>runC g (joinC c p (q - 1) (g p)) (q :: ps)
 | c,[_]=>c
 | c,[]=>c
theorem Zgu (r:Zb) (rest:List (List Zb)):(flt [(r,rest)]).length=rest.length:=by
 simp [flt]
theorem Zx9 (c:List Cell) (lo hi:Int) (rest:List (List Zb)):(flt c).length≤(flt (joinC c lo hi rest)).length∧(flt (joinC c lo hi rest)).length≤(flt c).length + rest.length:=by
 unfold joinC
 split
 ·omega
 ·split
  ·rename_i y hl
   obtain⟨d,rfl⟩:=List.getLast?_eq_some_iff.1 hl
   split
   ·rename_i hj
    rw [List.dropLast_concat,Zer,Zer,List.length_append,List.length_append,Zgu]
    obtain⟨yr,yrest⟩:=y
    rw [Zgu]
    have:=congrArg List.length hj.2
    simp only at this ⊢
    omega
   ·rw [Zer (d++[y]),List.length_append,Zgu]; omega
  ·rw [Zer,List.length_append,Zgu]; omega
theorem Zlv (g:Int→List (List Zb)):∀(ps:List Int) (c:List Cell),(flt c).length≤(flt (runC g c ps)).length
 | [],_=>Nat.le_refl _
 | [_],_=>Nat.le_refl _
 | p :: q :: ps,c=>Nat.le_trans (Zx9 c p (q - 1) (g p)).1 (Zlv g (q :: ps) _)
def Steps (g:Int→List (List Zb)):List Int→Prop
 | p :: q :: ps=>p<q∧(∀ v,p≤v→v<q→g v=g p)∧Steps g (q :: ps)
 | [_]=>True
 | []=>False
theorem Upto.run {g:Int→List (List Zb)}:∀ {ps:List Int} {p:Int} {c:List Cell},0≤p→Steps g (p :: ps)→Upto g p c→∃ q,(p :: ps).getLast? = some q∧Upto g q (runC g c (p :: ps))
 | [],p,c,_,_,h=>⟨p,rfl,h⟩
 | q :: ps,p,c,h0,hs,h=>by
  obtain⟨h1,h2,h3⟩:=hs
  obtain⟨z,hz,hu⟩:=Upto.run (ps:=ps) (p:=q) (by omega) h3 (h.step h0 h1 h2)
  exact⟨z,by rw [List.getLast?_cons_cons]; exact hz,hu⟩
theorem Z0h {g:Int→List (List Zb)} {t:Int} {c:List Cell} {ps:List Int} (hs:Steps g (0 :: ps)) (hl:(0 :: ps).getLast? = some (t + 1)) (ho:Ord t c) (hg:∀ v,0≤v→v≤t→lk c v=g v):runC g [] (0 :: ps)=c:=by
 obtain⟨q,h1,h2⟩:=Upto.run (Int.le_refl 0) hs (Upto.nil g)
 rw [hl,Option.some.injEq] at h1
 subst h1
 refine Ord.inj (h2.ord.mono (t':=t) (by omega)) ho fun v=>?_
 rw [h2.at_]
 by_cases hv:0≤v∧v<t + 1
 ·rw [if_pos hv,hg v hv.1 (by omega)]
 ·rw [if_neg hv,lk_out ho (by omega)]
def Cut (ps:List Int) (l:List (List Zb)):Prop:=∀ b∈l,∀ r b',b=r :: b'→r.Lo∈ps∧r.Hi + 1∈ps
theorem Zy7 {l:List (List Zb)} {p q:Int} (h:∀ b∈l,∀ r b',b=r :: b'→¬ (p<r.Lo∧r.Lo<q)∧¬ (p<r.Hi + 1∧r.Hi + 1<q)) {v:Int} (h1:p≤v) (h2:v<q):atv l v=atv l p:=by
 unfold atv
 induction l with
 | nil=>rfl
 | cons b l ih=>
  rw [List.flatMap_cons,List.flatMap_cons,ih fun x hx=>h x (List.mem_cons_of_mem _ hx)]
  congr 1
  cases b with
  | nil=>rfl
  | cons r b=>
   have hb:=h (r :: b) (List.mem_cons_self ..) r b rfl
   have:inR v r=inR p r:=by
    rw [Bool.eq_iff_iff,Zbo,Zbo]
    omega
   simp only [this]
theorem Zt9:∀ {ps:List Int},ps.Pairwise (·<·)→∀ {i:Nat} (h:i + 1<ps.length),∀ x∈ps,¬ (ps[i]<x∧x<ps[i + 1]):=by
 intro ps hp i h x hx hc
 obtain⟨j,hj,rfl⟩:=List.getElem_of_mem hx
 have hm:=List.pairwise_iff_getElem.1 hp
 rcases Nat.lt_trichotomy j i with h1 | h1 | h1
 ·have:=hm j i hj (by omega) h1; omega
 ·subst h1; omega
 ·rcases Nat.lt_or_eq_of_le (show i + 1≤j by omega) with h2 | h2
  ·have:=hm (i + 1) j (by omega) hj h2; omega
  ·subst h2; omega
theorem Zu6 {g:Int→List (List Zb)}:∀ {ps:List Int},ps ≠ []→ps.Pairwise (·<·)→(∀ i (h:i + 1<ps.length),∀ v,ps[i]≤v→v<ps[i + 1]→g v=g ps[i])→Steps g ps
 | [],h,_,_=>h rfl
 | [_],_,_,_=>trivial
 | p :: q :: ps,_,hp,hg=>by
  refine⟨(List.pairwise_cons.1 hp).1 q (List.mem_cons_self ..),fun v h1 h2=>hg 0 (by simp) v h1 h2,Zu6 (List.cons_ne_nil _ _) (List.pairwise_cons.1 hp).2 fun i h v h1 h2=>?_⟩
  have:=hg (i + 1) (by simp at h ⊢; omega) v
  simpa using this h1 h2
structure Nx (t:Int) (ts:List Int) (last:Option Cell) (c:List Cell):Prop where
 ord:Ord t c
 cf:∀ x∈c,CF ts x.2
 gap:∀ y∈last,∀ x∈c,gp y x
theorem Nx.nil (t:Int) (ts:List Int) (last:Option Cell):Nx t ts last []:=⟨⟨List.Pairwise.nil,fun _ h=>(by cases h)⟩,fun _ h=>(by cases h),fun _ _ _ h=>(by cases h)⟩
theorem CF_iff {t:Int} {ts:List Int} {l:List (List Zb)}:CF (t :: ts) l ↔ ∃ c,l=flt c∧Nx t ts none c:=
 ⟨fun⟨c,h1,h2,h3⟩=>⟨c,h1,h2,h3,fun _ h=>(by cases h)⟩,fun⟨c,h1,h2⟩=>⟨c,h1,h2.ord,h2.cf⟩⟩
theorem Nx.run {t:Int} {ts:List Int} {last:Option Cell} {r:Zb} {run:List (List Zb)} {l:List (List Zb)} (hrun:run ≠ []) (hl:∀ b,l.head? = some b→∃ r' b',b=r' :: b'∧r' ≠ r) :
  (∃ c,run.map (r :: ·)++l=flt c∧Nx t ts last c) ↔ (0≤r.Lo∧r.Lo≤r.Hi∧r.Hi≤t)∧CF ts run∧(∀ y∈last,gp y (r,run))∧∃ c,l=flt c∧Nx t ts (some (r,run)) c:=by
 constructor
 ·rintro⟨c,hc,hn⟩
  cases c with
  | nil=>
   have:run.map (r :: ·)=[]:=(List.append_eq_nil_iff.1 hc).1
   simp at this
   exact absurd this hrun
  | cons x c=>
   rw [Zg3] at hc
   have hx:=hn.ord.ok x (List.mem_cons_self ..)
   have hp:=List.pairwise_cons.1 hn.ord.pw
   have key:∀(u w:List (List Zb)) (l l':List (List Zb)),u ≠ []→w ≠ []→(∀ b,l.head? = some b→∃ r' b',b=r' :: b'∧r' ≠ r)→(∀ b,l'.head? = some b→∃ r' b',b=r' :: b'∧r' ≠ x.1) →
     u.map (r :: ·)++l=w.map (x.1 :: ·)++l'→r=x.1∧u=w∧l=l':=by
    intro u w l l' hu hw g1 g2 he
    have hr:r=x.1:=by
     cases u with
     | nil=>exact absurd rfl hu
     | cons b u=>cases w with
      | nil=>exact absurd rfl hw
      | cons d w=>
       simp only [List.map_cons,List.cons_append,List.cons.injEq] at he
       exact he.1.1
    refine⟨hr,?_⟩
    rw [← hr] at he g2
    clear hu hw
    induction u generalizing w with
    | nil=>cases w with
     | nil=>exact⟨rfl,by simpa using he⟩
     | cons d w=>
      simp only [List.map_nil,List.nil_append,List.map_cons,List.cons_append] at he
      obtain⟨r',b',e1,e2⟩:=g1 (r :: d) (by rw [he]; rfl)
      simp only [List.cons.injEq] at e1
      exact absurd e1.1.symm e2
    | cons b u ih=>cases w with
     | nil=>
      simp only [List.map_nil,List.nil_append,List.map_cons,List.cons_append] at he
      obtain⟨r',b',e1,e2⟩:=g2 (r :: b) (by rw [← he]; rfl)
      simp only [List.cons.injEq] at e1
      exact absurd e1.1.symm e2
     | cons d w=>
      simp only [List.map_cons,List.cons_append,List.cons.injEq,true_and] at he
      obtain⟨i1,i2⟩:=ih w he.2
      exact⟨by rw [he.1,i1],i2⟩
   have hnext:∀ b,(flt c).head? = some b→∃ r' b',b=r' :: b'∧r' ≠ x.1:=by
    intro b hb
    cases c with
    | nil=>simp [flt] at hb
    | cons z c=>
     have hz:=hn.ord.ok z (List.mem_cons_of_mem _ (List.mem_cons_self ..))
     rw [Zg3] at hb
     cases hz2:z.2 with
     | nil=>exact absurd hz2 hz.2.2.2
     | cons d w=>
      rw [hz2] at hb
      simp only [List.map_cons,List.cons_append,List.head?_cons,Option.some.injEq] at hb
      refine⟨z.1,d,hb.symm,fun e=>?_⟩
      have:=(hp.1 z (List.mem_cons_self ..)).1
      rw [e] at this
      omega
   obtain⟨e1,e2,e3⟩:=key run x.2 l (flt c) hrun hx.2.2.2 hl hnext hc
   subst e1 e2 e3
   exact⟨⟨hx.1,hx.2.1,hx.2.2.1⟩,hn.cf x (List.mem_cons_self ..),fun y hy=>hn.gap y hy x (List.mem_cons_self ..),c,rfl,hn.ord.tail,fun z hz=>hn.cf z (List.mem_cons_of_mem _ hz),fun y hy z hz=>by
    have:x=y:=by simpa using hy
    subst this
    exact hp.1 z hz⟩
 ·rintro⟨h1,h2,h3,c,rfl,hn⟩
  refine⟨(r,run) :: c,rfl,⟨List.pairwise_cons.2 ⟨fun z hz=>hn.gap _ rfl z hz,hn.ord.pw⟩,fun x hx=>?_⟩,fun x hx=>?_,fun y hy x hx=>?_⟩
  ·rcases List.mem_cons.1 hx with rfl | hx
   ·exact⟨h1.1,h1.2.1,h1.2.2,hrun⟩
   ·exact hn.ord.ok x hx
  ·rcases List.mem_cons.1 hx with rfl | hx
   ·exact h2
   ·exact hn.cf x hx
  ·rcases List.mem_cons.1 hx with rfl | hx
   ·exact h3 y hy
   ·have g1:=h3 y hy
    have g2:=hn.gap _ rfl x hx
    have g3:=g1.1
    have g4:=g2.1
    simp only at g3 g4
    exact⟨by omega,fun e=>by omega⟩
end Go.AM
set_option maxRecDepth 100000
namespace Go.AM
open Go
theorem Z2 {d:Array Int} {n i:Nat} (hn:d.size=n) (h:i<n):idxn n d.toList (i:Int)=some d[i]!:=by
 have hi:i<d.size:=by omega
 unfold idxn
 rw [if_pos ⟨by omega,by omega⟩]
 simp [AM.idx,hi]
theorem Zy8 (d:Array Int) (i:Nat) (x:Int):d.toList.set i x=(d.setIfInBounds i x).toList:=by simp
theorem Zej {d:Array Int} {n i j:Nat} {x:Int} (hn:d.size=n) (h:j<n):∃ y,idxn n (d.toList.set i x) (j:Int)=some y:=by
 rw [Zy8]
 exact⟨_,Z2 (by simpa using hn) h⟩
theorem Zes (d:Array Int) (i j:Nat):(d.toList.set i d[j]!).set j d[i]! = (Sort.swp d i j).toList:=by
 unfold Sort.swp; simp
theorem swp_sz (d:Array Int) (i j:Nat):(Sort.swp d i j).size=d.size:=Sort.swp_size d i j
theorem Ze5 (x y:Int):Zab x y=some (Sort.ltInt x y):=by
 unfold Zab Zfo Sort.ltInt
 simp
abbrev sB:Nat:=1000000000
theorem wpred {j:Nat} (h:j + 1<1000000000000):IntKind.wrap .i64 (((j + 1:Nat):Int) - (1:Int))=(j:Int):=by
 rw [wi64 (by omega) (by omega)]; omega
theorem wsuc {j:Nat} (h:j + 1<1000000000000):IntKind.wrap .i64 ((j:Int) + (1:Int))=((j + 1:Nat):Int):=by
 rw [wi64 (by omega) (by omega)]; omega
theorem wadd {i j:Nat} (h:i + j<1000000000000):IntKind.wrap .i64 ((i:Int) + (j:Int))=((i + j:Nat):Int):=by
 rw [wi64 (by omega) (by omega)]; omega
theorem wsub {i j:Nat} (h:i<1000000000000) (hj:j≤i):IntKind.wrap .i64 ((i:Int) - (j:Int))=((i - j:Nat):Int):=by
 rw [wi64 (by omega) (by omega)]; omega
theorem Zpz {n a:Nat} (hB:n≤sB):∀(j m:Nat) (d:Array Int),d.size=n→j<n→j<m→Zaj n (a:Int) m d.toList (j:Int)=some (Sort.insInner Sort.ltInt a j d).toList
 | 0,m + 1,d,hd,hj,hm=>by
  rw [Zaj,decide_eq_false (by omega)]
  simp [Sort.insInner]
 | j + 1,m + 1,d,hd,hj,hm=>by
  have ih:=Zpz (a:=a) hB j m
  rw [Zaj,Sort.insInner]
  unfold sB at hB
  simp only [wpred (show j + 1<1000000000000 by omega),Z2 hd hj,Z2 hd (show j<n by omega),Option.bind_some,Ze5,Int.toNat_natCast]
  by_cases h:j + 1 > a
  ·have h':((j + 1:Nat):Int) > (a:Int):=by omega
   simp only [decide_eq_true h,decide_eq_true h',if_true,Option.bind_some,Bool.true_and]
   cases hl:Sort.ltInt d[j + 1]! d[j]! with
   | false=>simp
   | true=>
    obtain⟨y,hy⟩:=Zej (i:=j + 1) (x:=d[j]!) hd (show j<n by omega)
    simp only [if_true,hy,Option.bind_some,Zes]
    exact ih _ (by rw [swp_sz,hd]) (by omega) (by omega)
  ·have h':¬ ((j + 1:Nat):Int) > (a:Int):=by omega
   rw [decide_eq_false h,decide_eq_false h']
   simp
theorem Zv6 {n a b:Nat} (hB:n≤sB) (hb:b≤n):∀(k i m:Nat) (d:Array Int),d.size=n→b - i=k→k<m→i≤sB + 1→Zak n (a:Int) (b:Int) m d.toList (i:Int)=some (Sort.insOuter Sort.ltInt a b i d).toList:=by
 unfold sB at hB
 intro k
 induction k with
 | zero=>
  intro i m d hd hk hm hi
  cases m with
  | zero=>omega
  | succ m=>
  rw [Zak,Sort.insOuter,if_neg (by simp; omega),if_neg (by omega)]
 | succ k ih=>
  intro i m d hd hk hm hi
  cases m with
  | zero=>omega
  | succ m=>
  rw [Zak,Sort.insOuter,if_pos (by simp; omega),if_pos (by omega)]
  rw [Zpz (a:=a) (show n≤sB by unfold sB; omega) i fuel d hd (by omega) (by unfold fuel; omega)]
  simp only [Option.bind_some]
  unfold sB at hi
  rw [wsuc (by omega)]
  refine ih (i + 1) m _ ?_ (by omega) (by omega) (by unfold sB; omega)
  exact insInner_sz _ _ hd
where
 insInner_sz {n a:Nat}:∀(j:Nat) (d:Array Int),d.size=n→(Sort.insInner Sort.ltInt a j d).size=n
  | 0,d,hd=>hd
  | j + 1,d,hd=>by
   rw [Sort.insInner]
   split
   ·exact insInner_sz j _ (by rw [swp_sz,hd])
   ·exact hd
theorem Zqx {n a b:Nat} (hB:n≤sB) (hb:b≤n) (hab:a≤b) {d:Array Int} (hd:d.size=n):Zbz n d.toList (a:Int) (b:Int)=some (Sort.insertionSort Sort.ltInt d a b).toList:=by
 unfold Zbz Sort.insertionSort
 have h:(a:Int) + 1=((a + 1:Nat):Int):=by omega
 unfold sB at hB
 rw [wsuc (by omega),Zv6 (show n≤sB by unfold sB; omega) hb (b - (a + 1)) (a + 1) fuel d hd rfl (by unfold fuel; omega) (by unfold sB; omega)]
 rfl
def sTail (a0:Nat) (a3 a4:Int) (n95:Nat) (v46:List Int) (v47 v109:Int):Option (List Int ⊕ List Int):=
    (idxn a0 v46 (IntKind.wrap .i64 (a4 + v47))).bind fun(x124:Int)=>
    (idxn a0 v46 (IntKind.wrap .i64 (a4 + v109))).bind fun(x126:Int)=>
    (Zab x124 x126).bind fun(r128:Bool)=>
    if (!r128)=true then
     some (.inr v46)
    else
     (idxn a0 v46 (IntKind.wrap .i64 (a4 + v109))).bind fun(x130:Int)=>
     (idxn a0 v46 (IntKind.wrap .i64 (a4 + v47))).bind fun(x132:Int)=>
     (idxn a0 v46 (IntKind.wrap .i64 (a4 + v47))).bind fun(_:Int)=>
     (idxn a0 (List.set v46 (Int.toNat (IntKind.wrap .i64 (a4 + v47))) x130) (IntKind.wrap .i64 (a4 + v109))).bind fun(_:Int)=>
     Zae a0 a3 a4 n95 (List.set (List.set v46 (Int.toNat (IntKind.wrap .i64 (a4 + v47))) x130) (Int.toNat (IntKind.wrap .i64 (a4 + v109))) x132) v109
def outS (l:List Int) (o:List Int ⊕ List Int):Prop:=o=.inl l∨o=.inr l
theorem Zy9 {n hi first root c m:Nat} (hB:n≤sB) (hf:first + hi≤n) (hr:root<hi) (hc:c<hi) {d:Array Int} (hd:d.size=n) {r:Array Int}
  (ih:Sort.ltInt d[first + root]! d[first + c]! = true→Ok (Zae n (hi:Int) (first:Int) m (Sort.swp d (first + root) (first + c)).toList (c:Int)) (outS r.toList)) (hs:Sort.ltInt d[first + root]! d[first + c]! = false→r=d) :
  Ok (sTail n (hi:Int) (first:Int) m d.toList (root:Int) (c:Int)) (outS r.toList):=by
 unfold sB at hB
 unfold sTail
 rw [wadd (i:=first) (j:=root) (by omega),wadd (i:=first) (j:=c) (by omega)]
 simp only [Z2 hd (show first + root<n by omega),Z2 hd (show first + c<n by omega),Option.bind_some,Ze5,Int.toNat_natCast]
 cases hl:Sort.ltInt d[first + root]! d[first + c]! with
 | false=>rw [hs hl]; exact⟨_,rfl,Or.inr rfl⟩
 | true=>
  obtain⟨y,hy⟩:=Zej (i:=first + root) (x:=d[first + c]!) hd (show first + c<n by omega)
  simp only [Bool.not_true,Bool.false_eq_true,if_false,hy,Option.bind_some,Zes]
  exact ih hl
theorem Zv7 {n hi first:Nat} (hB:n≤sB) (hf:first + hi≤n):∀(k root m:Nat) (d:Array Int),d.size=n→hi - root≤k→k<m→root≤n →
  Ok (Zae n (hi:Int) (first:Int) m d.toList (root:Int)) (outS (Sort.siftDown Sort.ltInt hi first root d).toList):=by
 intro k
 induction k with
 | zero=>
  intro root m d hd hk hm hr
  cases m with
  | zero=>omega
  | succ m=>
  unfold sB at hB
  rw [Zae,Sort.siftDown,dif_pos (by omega),if_pos]
  ·exact⟨_,rfl,Or.inl rfl⟩
  ·rw [wi64 (x:=2 * (root:Int)) (by omega) (by omega),wi64 (by omega) (by omega)]; exact decide_eq_true (by omega)
 | succ k ih=>
  intro root m d hd hk hm hr
  cases m with
  | zero=>omega
  | succ m=>
  have hB':=hB
  unfold sB at hB
  have e1:IntKind.wrap .i64 (IntKind.wrap .i64 (2 * (root:Int)) + 1)=((2 * root + 1:Nat):Int):=by
   rw [wi64 (x:=2 * (root:Int)) (by omega) (by omega),wi64 (by omega) (by omega)]; omega
  rw [Zae,Sort.siftDown]
  rw [e1]
  by_cases h:2 * root + 1 ≥ hi
  ·rw [dif_pos h,if_pos (decide_eq_true (by omega))]
   exact⟨_,rfl,Or.inl rfl⟩
  ·rw [dif_neg h,if_neg (by simp; omega)]
   have hst:∀ c:Nat,c<hi→root<c→Ok (sTail n (hi:Int) (first:Int) m d.toList (root:Int) (c:Int)) (outS (if (!Sort.ltInt d[first + root]! d[first + c]!)=true then d else Sort.siftDown Sort.ltInt hi first c (Sort.swp d (first + root) (first + c))).toList):=fun c hc hrc=>by
    refine Zy9 hB' hf (by omega) hc hd (fun hl=>?_) (fun hl=>?_)
    ·rw [hl]
     simp only [Bool.not_true,Bool.false_eq_true,if_false]
     exact ih c m _ (by rw [swp_sz,hd]) (by omega) (by omega) (by omega)
    ·rw [hl]; rfl
   have e2:IntKind.wrap .i64 (((2 * root + 1:Nat):Int) + 1)=((2 * root + 2:Nat):Int):=wsuc (by omega)
   have e3:IntKind.wrap .i64 (IntKind.wrap .i64 ((first:Int) + ((2 * root + 1:Nat):Int)) + 1)=((first + (2 * root + 1) + 1:Nat):Int):=by
    rw [wadd (by omega)]; exact wsuc (by omega)
   have e4:IntKind.wrap .i64 ((first:Int) + ((2 * root + 1:Nat):Int))=((first + (2 * root + 1):Nat):Int):=wadd (by omega)
   rw [e2,e3,e4]
   by_cases h2:2 * root + 1 + 1<hi
   ·have h2':((2 * root + 2:Nat):Int)<(hi:Int):=by omega
    simp only [decide_eq_true h2,decide_eq_true h2',Option.bind_some,if_true,Z2 hd (show first + (2 * root + 1)<n by omega),Z2 hd (show first + (2 * root + 1) + 1<n by omega),Ze5,Bool.true_and]
    cases hl:Sort.ltInt d[first + (2 * root + 1)]! d[first + (2 * root + 1) + 1]! with
    | false=>
     simp only [Bool.false_eq_true,if_false,Option.bind_some]
     have q:=hst (2 * root + 1) (by omega) (by omega)
     simp only [sTail,Ze5,Option.bind_some] at q
     exact q
    | true=>
     simp only [if_true,Option.bind_some,dif_pos (show 2 * root + 2<hi from h2)]
     have q:=hst (2 * root + 2) (by omega) (by omega)
     simp only [sTail,Ze5,Option.bind_some] at q
     exact q
   ·have h2':¬ ((2 * root + 2:Nat):Int)<(hi:Int):=by omega
    simp only [decide_eq_false h2,decide_eq_false h2',Option.bind_some,Bool.false_eq_true,if_false,Bool.false_and]
    exact hst (2 * root + 1) (by omega) (by omega)
theorem Zsw {n hi first:Nat}:∀(k root:Nat) (d:Array Int),d.size=n→hi - root≤k→(Sort.siftDown Sort.ltInt hi first root d).size=n:=by
 intro k
 induction k with
 | zero=>intro root d hd hk; rw [Sort.siftDown,dif_pos (by omega)]; exact hd
 | succ k ih=>
  intro root d hd hk
  rw [Sort.siftDown]
  split
  ·exact hd
  ·split
   ·split
    ·exact hd
    ·split
     ·exact ih _ _ (by rw [swp_sz,hd]) (by omega)
     ·exact hd
   ·split
    ·exact hd
    ·exact ih _ _ (by rw [swp_sz,hd]) (by omega)
theorem Zr7 {n hi first root:Nat} (hB:n≤sB) (hf:first + hi≤n) (hr:root≤n) {d:Array Int} (hd:d.size=n):Zby n d.toList (root:Int) (hi:Int) (first:Int)=some (Sort.siftDown Sort.ltInt hi first root d).toList:=by
 unfold Zby
 obtain⟨o,e,ho⟩:=Zv7 hB hf (hi - root) root fuel d hd (Nat.le_refl _) (by unfold fuel; unfold sB at hB; omega) hr
 rw [e]
 rcases ho with rfl | rfl <;> rfl
theorem Zot {n a b:Nat} (hB:n≤sB) (hab:a≤b) (hb:b≤n):∀(k m:Nat) (d:Array Int),d.size=n→k≤n + 1→k<m →
  Zax n (a:Int) (b:Int) m d.toList ((k:Int) - 1)=some (Sort.heapBuild Sort.ltInt (b - a) a k d).toList
 | 0,m + 1,d,hd,hk,hm=>by
  rw [Zax,if_neg (by simp)]; rfl
 | k + 1,m + 1,d,hd,hk,hm=>by
  have hB':=hB
  unfold sB at hB
  rw [Zax,if_pos (decide_eq_true (by omega)),show ((k + 1:Nat):Int) - 1=(k:Int) by omega,wsub (by omega) hab,Zr7 hB' (by omega) (by omega) hd]
  simp only [Option.bind_some]
  rw [wi64 (by omega) (by omega),Sort.heapBuild]
  exact Zot hB' hab hb k m _ (Zsw _ _ _ hd (Nat.le_refl _)) (by omega) (by omega)
theorem Zr8 {n a b:Nat} (hB:n≤sB) (hb:b≤n):∀(k m:Nat) (d:Array Int),d.size=n→a + k≤b→k<m →
  Zay n (a:Int) m d.toList ((k:Int) - 1)=some (Sort.heapPop Sort.ltInt a k d).toList
 | 0,m + 1,d,hd,hk,hm=>by
  rw [Zay,if_neg (by simp)]; rfl
 | k + 1,m + 1,d,hd,hk,hm=>by
  have hB':=hB
  unfold sB at hB
  rw [Zay,if_pos (decide_eq_true (by omega)),show ((k + 1:Nat):Int) - 1=(k:Int) by omega,wadd (by omega)]
  obtain⟨y,hy⟩:=Zej (i:=a) (x:=d[a + k]!) hd (show a + k<n by omega)
  simp only [Z2 hd (show a + k<n by omega),Z2 hd (show a<n by omega),Option.bind_some,Int.toNat_natCast,hy,Zes]
  have e:=Zr7 (root:=0) (hi:=k) (first:=a) hB' (by omega) (by omega) (show (Sort.swp d a (a + k)).size=n by rw [swp_sz,hd])
  rw [show ((0:Nat):Int)=0 from rfl] at e
  rw [e]
  simp only [Option.bind_some]
  rw [wi64 (by omega) (by omega),Sort.heapPop]
  exact Zr8 hB' hb k m _ (Zsw _ _ _ (by rw [swp_sz,hd]) (Nat.le_refl _)) (by omega) (by omega)
theorem Ztm {n hi first:Nat}:∀(k:Nat) (d:Array Int),d.size=n→(Sort.heapBuild Sort.ltInt hi first k d).size=n
 | 0,_,hd=>hd
 | k + 1,d,hd=>by rw [Sort.heapBuild]; exact Ztm k _ (Zsw _ _ _ hd (Nat.le_refl _))
theorem Zv8 {n a b:Nat} (hB:n≤sB) (hab:a<b) (hb:b≤n) {d:Array Int} (hd:d.size=n):Zck n d.toList (a:Int) (b:Int)=some (Sort.heapSort Sort.ltInt d a b).toList:=by
 have hB':=hB
 unfold sB at hB
 unfold Zck Sort.heapSort
 have e:IntKind.wrap .i64 (Int.tdiv (IntKind.wrap .i64 (IntKind.wrap .i64 ((b:Int) - (a:Int)) - 1)) 2)=(((b - a - 1) / 2 + 1:Nat):Int) - 1:=by
  rw [wsub (by omega) (by omega),wi64 (x:=((b - a:Nat):Int) - 1) (by omega) (by omega)]
  rw [Int.tdiv_eq_ediv_of_nonneg (by omega),wi64 (by omega) (by omega)]
  omega
 rw [e,Zot hB' (by omega) hb _ _ _ hd (by omega) (by unfold fuel; omega)]
 simp only [Option.bind_some]
 rw [wsub (by omega) (by omega),wi64 (x:=((b - a:Nat):Int) - 1) (by omega) (by omega),Zr8 hB' hb (b - a) fuel _ (Ztm _ _ hd) (by omega) (by unfold fuel; omega)]
 rfl
end Go.AM
set_option maxRecDepth 100000
namespace Go.AM
open Go
theorem Zxj {n:Nat} (hB:n≤sB):∀(k i j m:Nat) (d:Array Int),d.size=n→j - i≤k→k<m→j<n→i≤n →
  Zal n m d.toList (i:Int) (j:Int)=some (Sort.reverseLoop i j d).toList:=by
 intro k
 induction k with
 | zero=>
  intro i j m d hd hk hm hj hi
  cases m with
  | zero=>omega
  | succ m=>rw [Zal,Sort.reverseLoop,if_neg (by simp; omega),if_neg (by omega)]
 | succ k ih=>
  intro i j m d hd hk hm hj hi
  cases m with
  | zero=>omega
  | succ m=>
  have hB':=hB
  unfold sB at hB
  rw [Zal,Sort.reverseLoop]
  by_cases h:i<j
  ·rw [if_pos (decide_eq_true (by omega)),if_pos h]
   obtain⟨y,hy⟩:=Zej (i:=i) (x:=d[j]!) hd hj
   simp only [Z2 hd hj,Z2 hd (show i<n by omega),Option.bind_some,Int.toNat_natCast,hy,Zes]
   obtain⟨j',rfl⟩:∃ j',j=j' + 1:=⟨j - 1,by omega⟩
   rw [wsuc (by omega),wpred (by omega)]
   exact ih (i + 1) j' m _ (by rw [swp_sz,hd]) (by omega) (by omega) (by omega) (by omega)
  ·rw [if_neg (by simp; omega),if_neg h]
theorem Zr9 {n a b:Nat} (hB:n≤sB) (hab:a<b) (hb:b≤n) {d:Array Int} (hd:d.size=n):Zbd n d.toList (a:Int) (b:Int)=some (Sort.reverseRange d a b).toList:=by
 have hB':=hB
 unfold sB at hB
 unfold Zbd Sort.reverseRange
 obtain⟨b',rfl⟩:∃ b',b=b' + 1:=⟨b - 1,by omega⟩
 rw [wpred (by omega),Zxj hB' (b' - a) a b' fuel d hd (Nat.le_refl _) (by unfold fuel; omega) (by omega) (by omega)]
 rfl
theorem up_eq {n a:Nat} {L:Nat→Int→Option Int} (hB:n≤sB) {d:Array Int} (p:Int→Bool) {j:Nat} (hj:j<n) (_ha:a<n)
  (step:∀ m (i:Nat),i≤sB + 1→L (m + 1) (i:Int)=if i≤j∧p d[i]! = true then L m ((i + 1:Nat):Int) else some (i:Int)) :
  ∀(k i m:Nat),j + 1 - i≤k→k<m→i≤j + 2→L m (i:Int)=some ((Sort.scanUp p d j i:Nat):Int):=by
 unfold sB at hB
 intro k
 induction k with
 | zero=>
  intro i m hk hm hi
  cases m with
  | zero=>omega
  | succ m=>
  rw [step m i (by unfold sB; omega),if_neg (by omega),Sort.scanUp,if_neg (by simp; omega)]
 | succ k ih=>
  intro i m hk hm hi
  cases m with
  | zero=>omega
  | succ m=>
  rw [step m i (by unfold sB; omega),Sort.scanUp]
  by_cases h:i≤j∧p d[i]! = true
  ·rw [if_pos h,if_pos (by simp [h.1,h.2])]
   exact ih (i + 1) m (by omega) (by omega) (by omega)
  ·rw [if_neg h,if_neg (by simpa using h)]
theorem Zsx {n i:Nat} {L:Nat→Int→Option Int} (hi:0<i) {d:Array Int} (p:Int→Bool)
  (step:∀ m (j:Nat),j<n→L (m + 1) (j:Int)=if i≤j∧p d[j]! = true then L m ((j:Int) - 1) else some (j:Int)) :
  ∀(j m:Nat),j<m→j<n→L m (j:Int)=some ((Sort.scanDown p d i j:Nat):Int):=by
 intro j
 induction j with
 | zero=>
  intro m hm hj
  cases m with
  | zero=>omega
  | succ m=>rw [step m 0 hj,if_neg (by omega)]; rfl
 | succ j ih=>
  intro m hm hj
  cases m with
  | zero=>omega
  | succ m=>
  rw [step m (j + 1) hj,Sort.scanDown]
  by_cases h:i≤j + 1∧p d[j + 1]! = true
  ·rw [if_pos h,if_pos (by simp [h.1,h.2]),show ((j + 1:Nat):Int) - 1=(j:Int) by omega]
   exact ih m (by omega) (by omega)
  ·rw [if_neg h,if_neg (by simpa using h)]
theorem pe2_eq {n a j:Nat} (hB:n≤sB) {d:Array Int} (hd:d.size=n) (ha:a<n) (hj:j<n) (i:Nat) (hi:i≤j + 2):Zas n (a:Int) d.toList (j:Int) fuel (i:Int)=some ((Sort.scanUp (fun x=>!Sort.ltInt d[a]! x) d j i:Nat):Int):=by
 refine up_eq hB (d:=d) (fun x=>!Sort.ltInt d[a]! x) hj ha (fun m i hi=>?_) (j + 1) i fuel (by omega) (by unfold sB at hB; unfold fuel; omega) hi
 unfold sB at hB hi
 rw [Zas]
 by_cases h:i≤j
 ·rw [decide_eq_true (show (i:Int)≤(j:Int) by omega)]
  simp only [Option.bind_some,if_true,Z2 hd ha,Z2 hd (show i<n by omega),Ze5,wsuc (show i + 1<1000000000000 by omega),h,true_and]
 ·rw [decide_eq_false (show ¬ (i:Int)≤(j:Int) by omega)]
  simp [h]
theorem pe3_eq {n a i:Nat} (hB:n≤sB) {d:Array Int} (hd:d.size=n) (ha:a<n) (hi:0<i) (j:Nat) (hj:j<n):Zat n (a:Int) d.toList (i:Int) fuel (j:Int)=some ((Sort.scanDown (fun x=>Sort.ltInt d[a]! x) d i j:Nat):Int):=by
 refine Zsx hi (n:=n) (d:=d) (fun x=>Sort.ltInt d[a]! x) (fun m j hj=>?_) j fuel (by unfold sB at hB; unfold fuel; omega) hj
 unfold sB at hB
 rw [Zat]
 by_cases h:i≤j
 ·rw [decide_eq_true (show (i:Int)≤(j:Int) by omega)]
  simp only [Option.bind_some,if_true,Z2 hd ha,Z2 hd hj,Ze5,wi64 (show -9223372036854775808≤(j:Int) - 1 by omega) (show (j:Int) - 1<9223372036854775808 by omega),h,true_and]
 ·rw [decide_eq_false (show ¬ (i:Int)≤(j:Int) by omega)]
  simp [h]
theorem pe1_eq {n a:Nat} (hB:n≤sB) (ha:a<n):∀(k i j m:Nat) (d:Array Int),d.size=n→j + 1 - i≤k→k<m→i≤j + 2→a<i→j<n →
  Zah n (a:Int) m d.toList (i:Int) (j:Int)=some ((Sort.partEqLoop Sort.ltInt a i j d).2.toList,((Sort.partEqLoop Sort.ltInt a i j d).1:Int)):=by
 intro k
 induction k with
 | zero=>
  intro i j m d hd hk hm hij hai hj
  cases m with
  | zero=>omega
  | succ m=>
  have h1:Sort.scanUp (fun x=>!Sort.ltInt d[a]! x) d j i=i:=by rw [Sort.scanUp,if_neg (by simp; omega)]
  have h2:Sort.scanDown (fun x=>Sort.ltInt d[a]! x) d i j≤j:=Sort.scanDown_le _ _ _ _
  rw [Zah,pe2_eq hB hd ha hj i hij,Sort.partEqLoop_eq,h1]
  simp only [Option.bind_some]
  rw [pe3_eq hB hd ha (by omega) j hj]
  simp only [Option.bind_some]
  rw [if_pos (decide_eq_true (by omega)),if_pos (by omega)]
 | succ k ih=>
  intro i j m d hd hk hm hij hai hj
  cases m with
  | zero=>omega
  | succ m=>
  have hB':=hB
  unfold sB at hB
  rw [Zah,pe2_eq hB' hd ha hj i hij,Sort.partEqLoop_eq]
  simp only [Option.bind_some]
  have g1:=Sort.scanUp_ge (fun x=>!Sort.ltInt d[a]! x) d j i
  generalize Sort.scanUp (fun x=>!Sort.ltInt d[a]! x) d j i=i2 at g1 ⊢
  rw [pe3_eq hB' hd ha (by omega) j hj]
  simp only [Option.bind_some]
  have g2:=Sort.scanDown_le (fun x=>Sort.ltInt d[a]! x) d i2 j
  generalize Sort.scanDown (fun x=>Sort.ltInt d[a]! x) d i2 j=j2 at g2 ⊢
  by_cases h:i2 > j2
  ·rw [if_pos (decide_eq_true (by omega)),if_pos h]
  ·rw [if_neg (by simp; omega),if_neg h]
   obtain⟨y,hy⟩:=Zej (i:=i2) (x:=d[j2]!) hd (show j2<n by omega)
   simp only [Z2 hd (show j2<n by omega),Z2 hd (show i2<n by omega),Option.bind_some,Int.toNat_natCast,hy,Zes]
   obtain⟨j',rfl⟩:∃ j',j2=j' + 1:=⟨j2 - 1,by omega⟩
   rw [wsuc (by omega),wpred (by omega)]
   exact ih (i2 + 1) j' m _ (by rw [swp_sz,hd]) (by omega) (by omega) (by omega) (by omega) (by omega)
theorem Zpr {n a b p:Nat} (hB:n≤sB) (hb:b≤n) (hp0:a≤p) (hp:p<b) {d:Array Int} (hd:d.size=n) :
  Zbu n d.toList (a:Int) (b:Int) (p:Int)=some (((Sort.partitionEqual Sort.ltInt d a b p).1:Int),(Sort.partitionEqual Sort.ltInt d a b p).2.toList):=by
 have hB':=hB
 unfold sB at hB
 unfold Zbu Sort.partitionEqual
 obtain⟨y,hy⟩:=Zej (i:=a) (x:=d[p]!) hd (show p<n by omega)
 simp only [Z2 hd (show p<n by omega),Z2 hd (show a<n by omega),Option.bind_some,Int.toNat_natCast,hy,Zes]
 obtain⟨b',rfl⟩:∃ b',b=b' + 1:=⟨b - 1,by omega⟩
 rw [wsuc (by omega),wpred (by omega),pe1_eq hB' (by omega) (b' + 1 - (a + 1)) (a + 1) b' fuel _ (by rw [swp_sz,hd]) (Nat.le_refl _) (by unfold fuel; omega) (by omega) (by omega) (by omega)]
 rfl
theorem pa4_eq {n a j:Nat} (hB:n≤sB) {d:Array Int} (hd:d.size=n) (ha:a<n) (hj:j<n) (i:Nat) (hi:i≤j + 2):Zbg n (a:Int) d.toList (j:Int) fuel (i:Int)=some ((Sort.scanUp (fun x=>Sort.ltInt x d[a]!) d j i:Nat):Int):=by
 refine up_eq hB (d:=d) (fun x=>Sort.ltInt x d[a]!) hj ha (fun m i hi=>?_) (j + 1) i fuel (by omega) (by unfold sB at hB; unfold fuel; omega) hi
 unfold sB at hB hi
 rw [Zbg]
 by_cases h:i≤j
 ·rw [decide_eq_true (show (i:Int)≤(j:Int) by omega)]
  simp only [Option.bind_some,if_true,Z2 hd ha,Z2 hd (show i<n by omega),Ze5,wsuc (show i + 1<1000000000000 by omega),h,true_and]
 ·rw [decide_eq_false (show ¬ (i:Int)≤(j:Int) by omega)]
  simp [h]
theorem pa5_eq {n a i:Nat} (hB:n≤sB) {d:Array Int} (hd:d.size=n) (ha:a<n) (hi:0<i) (j:Nat) (hj:j<n):Zbh n (a:Int) d.toList (i:Int) fuel (j:Int)=some ((Sort.scanDown (fun x=>!Sort.ltInt x d[a]!) d i j:Nat):Int):=by
 refine Zsx hi (n:=n) (d:=d) (fun x=>!Sort.ltInt x d[a]!) (fun m j hj=>?_) j fuel (by unfold sB at hB; unfold fuel; omega) hj
 unfold sB at hB
 rw [Zbh]
 by_cases h:i≤j
 ·rw [decide_eq_true (show (i:Int)≤(j:Int) by omega)]
  simp only [Option.bind_some,if_true,Z2 hd ha,Z2 hd hj,Ze5,wi64 (show -9223372036854775808≤(j:Int) - 1 by omega) (show (j:Int) - 1<9223372036854775808 by omega),h,true_and]
 ·rw [decide_eq_false (show ¬ (i:Int)≤(j:Int) by omega)]
  simp [h]
theorem pa3_eq {n a:Nat} (hB:n≤sB) (ha:a<n):∀(k i j m:Nat) (d:Array Int),d.size=n→j + 1 - i≤k→k<m→i≤j + 2→a<i→j<n →
  Zau n (a:Int) m d.toList (i:Int) (j:Int)=some ((Sort.partLoop Sort.ltInt a i j d).2.toList,((Sort.partLoop Sort.ltInt a i j d).1:Int)):=by
 intro k
 induction k with
 | zero=>
  intro i j m d hd hk hm hij hai hj
  cases m with
  | zero=>omega
  | succ m=>
  have h1:Sort.scanUp (fun x=>Sort.ltInt x d[a]!) d j i=i:=by rw [Sort.scanUp,if_neg (by simp; omega)]
  have h2:Sort.scanDown (fun x=>!Sort.ltInt x d[a]!) d i j≤j:=Sort.scanDown_le _ _ _ _
  rw [Zau,pa4_eq hB hd ha hj i hij,Sort.partLoop_eq,h1]
  simp only [Option.bind_some]
  rw [pa5_eq hB hd ha (by omega) j hj]
  simp only [Option.bind_some]
  rw [if_pos (decide_eq_true (by omega)),if_pos (by omega)]
 | succ k ih=>
  intro i j m d hd hk hm hij hai hj
  cases m with
  | zero=>omega
  | succ m=>
  have hB':=hB
  unfold sB at hB
  rw [Zau,pa4_eq hB' hd ha hj i hij,Sort.partLoop_eq]
  simp only [Option.bind_some]
  have g1:=Sort.scanUp_ge (fun x=>Sort.ltInt x d[a]!) d j i
  generalize Sort.scanUp (fun x=>Sort.ltInt x d[a]!) d j i=i2 at g1 ⊢
  rw [pa5_eq hB' hd ha (by omega) j hj]
  simp only [Option.bind_some]
  have g2:=Sort.scanDown_le (fun x=>!Sort.ltInt x d[a]!) d i2 j
  generalize Sort.scanDown (fun x=>!Sort.ltInt x d[a]!) d i2 j=j2 at g2 ⊢
  by_cases h:i2 > j2
  ·rw [if_pos (decide_eq_true (by omega)),if_pos h]
  ·rw [if_neg (by simp; omega),if_neg h]
   obtain⟨y,hy⟩:=Zej (i:=i2) (x:=d[j2]!) hd (show j2<n by omega)
   simp only [Z2 hd (show j2<n by omega),Z2 hd (show i2<n by omega),Option.bind_some,Int.toNat_natCast,hy,Zes]
   obtain⟨j',rfl⟩:∃ j',j2=j' + 1:=⟨j2 - 1,by omega⟩
   rw [wsuc (by omega),wpred (by omega)]
   exact ih (i2 + 1) j' m _ (by rw [swp_sz,hd]) (by omega) (by omega) (by omega) (by omega) (by omega)
theorem pa1_eq {n a b p:Nat} (hB:n≤sB) {d:Array Int} (hd:d.size=n) (hb:b≤n) (hab:a<b) (i:Nat) (hi:i≤b - 1 + 2) :
  Zbe n d.toList (a:Int) (b:Int) (p:Int) d[p]! d[a]! fuel (i:Int)=some ((Sort.scanUp (fun x=>Sort.ltInt x (Sort.swp d a p)[a]!) (Sort.swp d a p) (b - 1) i:Nat):Int):=by
 refine up_eq hB (d:=Sort.swp d a p) (fun x=>Sort.ltInt x (Sort.swp d a p)[a]!) (show b - 1<n by omega) (show a<n by omega) (fun m i hi=>?_) b i fuel (by omega) (by unfold sB at hB; unfold fuel; omega) hi
 unfold sB at hB hi
 have hd':(Sort.swp d a p).size=n:=by rw [swp_sz,hd]
 have e1:IntKind.wrap .i64 ((b:Int) - 1)=((b - 1:Nat):Int):=by rw [wi64 (by omega) (by omega)]; omega
 rw [Zbe,e1]
 simp only [Int.toNat_natCast,Zes]
 by_cases h:i≤b - 1
 ·rw [decide_eq_true (show (i:Int)≤((b - 1:Nat):Int) by omega)]
  simp only [Option.bind_some,if_true,Z2 hd' (show a<n by omega),Z2 hd' (show i<n by omega),Ze5,wsuc (show i + 1<1000000000000 by omega),h,true_and]
 ·rw [decide_eq_false (show ¬ (i:Int)≤((b - 1:Nat):Int) by omega)]
  simp [h]
theorem pa2_eq {n a p i:Nat} (hB:n≤sB) {d:Array Int} (hd:d.size=n) (ha:a<n) (hi:0<i) (j:Nat) (hj:j<n) :
  Zbf n d.toList (a:Int) (p:Int) d[p]! d[a]! (i:Int) fuel (j:Int)=some ((Sort.scanDown (fun x=>!Sort.ltInt x (Sort.swp d a p)[a]!) (Sort.swp d a p) i j:Nat):Int):=by
 refine Zsx hi (n:=n) (d:=Sort.swp d a p) (fun x=>!Sort.ltInt x (Sort.swp d a p)[a]!) (fun m j hj=>?_) j fuel (by unfold sB at hB; unfold fuel; omega) hj
 unfold sB at hB
 have hd':(Sort.swp d a p).size=n:=by rw [swp_sz,hd]
 rw [Zbf]
 simp only [Int.toNat_natCast,Zes]
 by_cases h:i≤j
 ·rw [decide_eq_true (show (i:Int)≤(j:Int) by omega)]
  simp only [Option.bind_some,if_true,Z2 hd' ha,Z2 hd' hj,Ze5,wi64 (show -9223372036854775808≤(j:Int) - 1 by omega) (show (j:Int) - 1<9223372036854775808 by omega),h,true_and]
 ·rw [decide_eq_false (show ¬ (i:Int)≤(j:Int) by omega)]
  simp [h]
theorem Zv9 {n a:Nat}:∀(k i j:Nat) (d:Array Int),d.size=n→j + 1 - i≤k→(Sort.partLoop Sort.ltInt a i j d).2.size=n:=by
 intro k
 induction k with
 | zero=>
  intro i j d hd hk
  have h1:Sort.scanUp (fun x=>Sort.ltInt x d[a]!) d j i=i:=by rw [Sort.scanUp,if_neg (by simp; omega)]
  have h2:Sort.scanDown (fun x=>!Sort.ltInt x d[a]!) d i j≤j:=Sort.scanDown_le _ _ _ _
  rw [Sort.partLoop_eq,h1,if_pos (by omega)]; exact hd
 | succ k ih=>
  intro i j d hd hk
  rw [Sort.partLoop_eq]
  have g1:=Sort.scanUp_ge (fun x=>Sort.ltInt x d[a]!) d j i
  have g2:=Sort.scanDown_le (fun x=>!Sort.ltInt x d[a]!) d (Sort.scanUp (fun x=>Sort.ltInt x d[a]!) d j i) j
  split
  ·exact hd
  ·exact ih _ _ _ (by rw [swp_sz,hd]) (by omega)
theorem Zwa {a:Nat}:∀(k i j:Nat) (d:Array Int),j + 1 - i≤k→(Sort.partLoop Sort.ltInt a i j d).1≤j:=by
 intro k
 induction k with
 | zero=>
  intro i j d hk
  have h1:Sort.scanUp (fun x=>Sort.ltInt x d[a]!) d j i=i:=by rw [Sort.scanUp,if_neg (by simp; omega)]
  have h2:Sort.scanDown (fun x=>!Sort.ltInt x d[a]!) d i j≤j:=Sort.scanDown_le _ _ _ _
  rw [Sort.partLoop_eq,h1,if_pos (by omega)]; exact h2
 | succ k ih=>
  intro i j d hk
  rw [Sort.partLoop_eq]
  have g1:=Sort.scanUp_ge (fun x=>Sort.ltInt x d[a]!) d j i
  have g2:=Sort.scanDown_le (fun x=>!Sort.ltInt x d[a]!) d (Sort.scanUp (fun x=>Sort.ltInt x d[a]!) d j i) j
  split
  ·exact g2
  ·exact Nat.le_trans (ih _ _ _ (by omega)) (by omega)
theorem Zu7 {n a b p:Nat} (hB:n≤sB) (hb:b≤n) (hp0:a≤p) (hp:p<b) {d:Array Int} (hd:d.size=n) :
  Zcg n d.toList (a:Int) (b:Int) (p:Int)=some (((Sort.partition Sort.ltInt d a b p).1:Int),(Sort.partition Sort.ltInt d a b p).2.1,(Sort.partition Sort.ltInt d a b p).2.2.toList):=by
 have hB':=hB
 unfold sB at hB
 have hd':(Sort.swp d a p).size=n:=by rw [swp_sz,hd]
 unfold Zcg Sort.partition
 obtain⟨y,hy⟩:=Zej (i:=a) (x:=d[p]!) hd (show p<n by omega)
 have e1:IntKind.wrap .i64 ((b:Int) - 1)=((b - 1:Nat):Int):=by rw [wi64 (by omega) (by omega)]; omega
 simp only [Z2 hd (show p<n by omega),Z2 hd (show a<n by omega),Option.bind_some,Int.toNat_natCast,hy,Zes]
 rw [wsuc (by omega),pa1_eq hB' hd hb (by omega) (a + 1) (by omega),e1]
 simp only [Option.bind_some]
 have g1:=Sort.scanUp_ge (fun x=>Sort.ltInt x (Sort.swp d a p)[a]!) (Sort.swp d a p) (b - 1) (a + 1)
 generalize Sort.scanUp (fun x=>Sort.ltInt x (Sort.swp d a p)[a]!) (Sort.swp d a p) (b - 1) (a + 1)=i at g1 ⊢
 rw [pa2_eq hB' hd (by omega) (by omega) (b - 1) (by omega)]
 simp only [Option.bind_some]
 have g2:=Sort.scanDown_le (fun x=>!Sort.ltInt x (Sort.swp d a p)[a]!) (Sort.swp d a p) i (b - 1)
 generalize Sort.scanDown (fun x=>!Sort.ltInt x (Sort.swp d a p)[a]!) (Sort.swp d a p) i (b - 1)=j at g2 ⊢
 by_cases h:i > j
 ·rw [if_pos (decide_eq_true (by omega)),if_pos h]
  obtain⟨y,hy⟩:=Zej (i:=j) (x:=(Sort.swp d a p)[a]!) hd' (show a<n by omega)
  simp only [Z2 hd' (show j<n by omega),Z2 hd' (show a<n by omega),Option.bind_some,Int.toNat_natCast,hy,Zes]
 ·rw [if_neg (by simp; omega),if_neg h]
  obtain⟨y,hy⟩:=Zej (i:=i) (x:=(Sort.swp d a p)[j]!) hd' (show j<n by omega)
  simp only [Z2 hd' (show j<n by omega),Z2 hd' (show i<n by omega),Option.bind_some,Int.toNat_natCast,hy,Zes]
  obtain⟨j',rfl⟩:∃ j',j=j' + 1:=⟨j - 1,by omega⟩
  have hd2:(Sort.swp (Sort.swp d a p) i (j' + 1)).size=n:=by rw [swp_sz,hd']
  rw [wsuc (by omega),wpred (by omega),pa3_eq hB' (by omega) (j' + 1 - (i + 1)) (i + 1) j' fuel _ hd2 (Nat.le_refl _) (by unfold fuel; omega) (by omega) (by omega) (by omega)]
  simp only [Option.bind_some,Nat.add_sub_cancel]
  have hz:=Zv9 (a:=a) (j' + 1 - (i + 1)) (i + 1) j' _ hd2 (Nat.le_refl _)
  have hl:=Zwa (a:=a) (j' + 1 - (i + 1)) (i + 1) j' (Sort.swp (Sort.swp d a p) i (j' + 1)) (Nat.le_refl _)
  generalize Sort.partLoop Sort.ltInt a (i + 1) j' (Sort.swp (Sort.swp d a p) i (j' + 1))=r at hz hl ⊢
  obtain⟨r1,r2⟩:=r
  simp only at hz hl ⊢
  obtain⟨y,hy⟩:=Zej (i:=r1) (x:=r2[a]!) hz (show a<n by omega)
  simp only [Z2 hz (show r1<n by omega),Z2 hz (show a<n by omega),Option.bind_some,Int.toNat_natCast,hy,Zes]
end Go.AM
set_option maxRecDepth 100000
namespace Go.AM
open Go
theorem Zua {n b:Nat} (hB:n≤sB) (hb:b≤n) {d:Array Int} (hd:d.size=n):∀(k i m:Nat),b - i≤k→k<m→0<i→i≤n + 1 →
  Z6 n (b:Int) d.toList m (i:Int)=some ((Sort.scanSorted Sort.ltInt d b i:Nat):Int):=by
 have hB':=hB
 unfold sB at hB
 intro k
 induction k with
 | zero=>
  intro i m hk hm h0 hi
  cases m with
  | zero=>omega
  | succ m=>
  rw [Z6,Sort.scanSorted,decide_eq_false (by omega),if_neg (show ¬ (decide (i<b) && !Sort.ltInt d[i]! d[i - 1]!)=true by simp; omega)]
  simp
 | succ k ih=>
  intro i m hk hm h0 hi
  cases m with
  | zero=>omega
  | succ m=>
  rw [Z6,Sort.scanSorted]
  by_cases h:i<b
  ·obtain⟨i',rfl⟩:∃ i',i=i' + 1:=⟨i - 1,by omega⟩
   rw [decide_eq_true (show ((i' + 1:Nat):Int)<(b:Int) by omega),decide_eq_true h]
   simp only [Option.bind_some,if_true,wpred (show i' + 1<1000000000000 by omega),Z2 hd (show i' + 1<n by omega),Z2 hd (show i'<n by omega),Ze5,Nat.add_sub_cancel,Bool.true_and]
   cases hl:Sort.ltInt d[i' + 1]! d[i']! with
   | true=>simp
   | false=>
    simp only [Bool.not_false,if_true,wsuc (show i' + 1 + 1<1000000000000 by omega)]
    exact ih (i' + 1 + 1) m (by omega) (by omega) (by omega) (by omega)
  ·rw [decide_eq_false (show ¬ (i:Int)<(b:Int) by omega),decide_eq_false h]
   simp
theorem Zsy {d:Array Int} {b:Nat}:∀(k i:Nat),b - i≤k→i≤Sort.scanSorted Sort.ltInt d b i∧(i≤b→Sort.scanSorted Sort.ltInt d b i≤b):=by
 intro k
 induction k with
 | zero=>intro i hk; rw [Sort.scanSorted,if_neg (by simp; omega)]; omega
 | succ k ih=>
  intro i hk
  rw [Sort.scanSorted]
  split
  ·rename_i h
   simp only [Bool.and_eq_true,decide_eq_true_eq] at h
   have:=ih (i + 1) (by omega)
   omega
  ·omega
theorem Zou {n:Nat} (hB:n≤sB):∀(j m:Nat) (d:Array Int),d.size=n→j<n→j<m →
  Z3 n m d.toList (j:Int)=some (Sort.shiftDown Sort.ltInt j d).toList
 | 0,m + 1,d,hd,hj,hm=>by
  rw [Z3,if_neg (by simp)]; rfl
 | j + 1,m + 1,d,hd,hj,hm=>by
  have ih:=Zou hB j m
  unfold sB at hB
  obtain⟨y,hy⟩:=Zej (i:=j + 1) (x:=d[j]!) hd (show j<n by omega)
  rw [Z3,Sort.shiftDown,if_pos (decide_eq_true (by omega))]
  simp only [wpred (show j + 1<1000000000000 by omega),Z2 hd hj,Z2 hd (show j<n by omega),Option.bind_some,Ze5,Int.toNat_natCast,hy,Zes]
  cases hl:Sort.ltInt d[j + 1]! d[j]! with
  | false=>rfl
  | true=>
   simp only [Bool.not_true,Bool.false_eq_true,if_false]
   exact ih _ (by rw [swp_sz,hd]) (by omega) (by omega)
theorem Zjl {n:Nat}:∀(j:Nat) (d:Array Int),d.size=n→(Sort.shiftDown Sort.ltInt j d).size=n
 | 0,_,hd=>hd
 | j + 1,d,hd=>by
  rw [Sort.shiftDown]
  split
  ·exact hd
  ·exact Zjl j _ (by rw [swp_sz,hd])
theorem Zxk {n b:Nat} (hB:n≤sB) (hb:b≤n):∀(k j m:Nat) (d:Array Int),d.size=n→b - j≤k→k<m→0<j→j≤n + 1 →
  Z7 n (b:Int) m d.toList (j:Int)=some (Sort.shiftUp Sort.ltInt b j d).toList:=by
 have hB':=hB
 unfold sB at hB
 intro k
 induction k with
 | zero=>
  intro j m d hd hk hm h0 hj
  cases m with
  | zero=>omega
  | succ m=>rw [Z7,Sort.shiftUp,if_neg (by simp; omega),if_neg (by omega)]
 | succ k ih=>
  intro j m d hd hk hm h0 hj
  cases m with
  | zero=>omega
  | succ m=>
  rw [Z7,Sort.shiftUp]
  by_cases h:j<b
  ·rw [if_pos (decide_eq_true (by omega)),if_pos h]
   obtain⟨j',rfl⟩:∃ j',j=j' + 1:=⟨j - 1,by omega⟩
   obtain⟨y,hy⟩:=Zej (i:=j' + 1) (x:=d[j']!) hd (show j'<n by omega)
   simp only [wpred (show j' + 1<1000000000000 by omega),Z2 hd (show j' + 1<n by omega),Z2 hd (show j'<n by omega),Option.bind_some,Ze5,Int.toNat_natCast,hy,Zes,Nat.add_sub_cancel]
   cases hl:Sort.ltInt d[j' + 1]! d[j']! with
   | false=>rfl
   | true=>
    simp only [Bool.not_true,Bool.false_eq_true,if_false,wsuc (show j' + 1 + 1<1000000000000 by omega)]
    exact ih (j' + 1 + 1) m _ (by rw [swp_sz,hd]) (by omega) (by omega) (by omega) (by omega)
  ·rw [if_neg (by simp; omega),if_neg h]
theorem Zsa {n b:Nat}:∀(k j:Nat) (d:Array Int),d.size=n→b - j≤k→(Sort.shiftUp Sort.ltInt b j d).size=n:=by
 intro k
 induction k with
 | zero=>intro j d hd hk; rw [Sort.shiftUp,if_neg (by omega)]; exact hd
 | succ k ih=>
  intro j d hd hk
  rw [Sort.shiftUp]
  split
  ·split
   ·exact hd
   ·exact ih _ _ (by rw [swp_sz,hd]) (by omega)
  ·exact hd
def outP (r:Array Int × Bool) (o:List Int ⊕ (Bool × List Int)):Prop:=(o=.inl r.1.toList∧r.2=false)∨o=.inr (r.2,r.1.toList)
theorem Znn {n a b:Nat} (hB:n≤sB) (hb:b≤n) (hab:a<b):∀(s c i m:Nat) (d:Array Int),d.size=n→c + s=5→s<m→a<i→i≤b →
  Ok (Z8 n (a:Int) (b:Int) m d.toList (i:Int) (c:Int)) (outP (Sort.partialIns Sort.ltInt a b s i d))
 | 0,c,i,m + 1,d,hd,hc,hm,hai,hi=>by
  rw [Z8,if_neg (by simp; omega)]
  exact⟨_,rfl,Or.inl ⟨rfl,rfl⟩⟩
 | s + 1,c,i,m + 1,d,hd,hc,hm,hai,hi=>by
  have ih:=Znn hB hb hab s (c + 1)
  have hB':=hB
  unfold sB at hB
  rw [Z8,if_pos (decide_eq_true (by omega)),Zua hB' hb hd (b - i) i fuel (Nat.le_refl _) (by unfold fuel; omega) (by omega) (by omega),Sort.partialIns]
  obtain⟨g1,g2⟩:=Zsy (d:=d) (b - i) i (Nat.le_refl _)
  have g2:=g2 hi
  generalize Sort.scanSorted Sort.ltInt d b i=j at g1 g2 ⊢
  simp only [Option.bind_some]
  by_cases h1:j=b
  ·rw [if_pos (by simp [h1]),if_pos h1]
   exact⟨_,rfl,Or.inr rfl⟩
  ·rw [if_neg (by simp; omega),if_neg h1,wsub (by omega) (by omega)]
   by_cases h2:b - a<50
   ·rw [if_pos (decide_eq_true (by omega)),if_pos h2]
    exact⟨_,rfl,Or.inr rfl⟩
   ·rw [if_neg (by simp; omega),if_neg h2]
    obtain⟨j',rfl⟩:∃ j',j=j' + 1:=⟨j - 1,by omega⟩
    obtain⟨y,hy⟩:=Zej (i:=j' + 1) (x:=d[j']!) hd (show j'<n by omega)
    simp only [wpred (show j' + 1<1000000000000 by omega),Z2 hd (show j' + 1<n by omega),Z2 hd (show j'<n by omega),Option.bind_some,Int.toNat_natCast,hy,Zes,Nat.add_sub_cancel]
    rw [wsub (i:=j' + 1) (j:=a) (by omega) (by omega),wsub (i:=b) (j:=j' + 1) (by omega) (by omega)]
    have hd2:(Sort.swp d (j' + 1) j').size=n:=by rw [swp_sz,hd]
    generalize Sort.swp d (j' + 1) j'=d2 at hd2 ⊢
    have e3:(if (decide (((j' + 1 - a:Nat):Int) ≥ 2))=true then (Z3 n fuel d2.toList (j':Int)).bind fun(v1191:(List Int))=>some v1191 else some d2.toList)=some (if j' + 1 - a ≥ 2 then Sort.shiftDown Sort.ltInt j' d2 else d2).toList:=by
     by_cases h3:j' + 1 - a ≥ 2
     ·rw [if_pos (decide_eq_true (by omega)),if_pos h3,Zou hB' j' fuel d2 hd2 (by omega) (by unfold fuel; omega)]; rfl
     ·rw [if_neg (by simp; omega),if_neg h3]
    rw [e3]
    have hd3:(if j' + 1 - a ≥ 2 then Sort.shiftDown Sort.ltInt j' d2 else d2).size=n:=by
     split
     ·exact Zjl _ _ hd2
     ·exact hd2
    generalize (if j' + 1 - a ≥ 2 then Sort.shiftDown Sort.ltInt j' d2 else d2)=d3 at hd3 ⊢
    simp only [Option.bind_some]
    rw [wsuc (j:=j' + 1) (by omega),wsuc (j:=c) (by omega)]
    by_cases h4:b - (j' + 1) ≥ 2
    ·rw [if_pos (decide_eq_true (by omega)),if_pos h4,Zxk hB' hb (b - (j' + 1 + 1)) (j' + 1 + 1) fuel d3 hd3 (Nat.le_refl _) (by unfold fuel; omega) (by omega) (by omega)]
     simp only [Option.bind_some]
     exact ih (j' + 1) m _ (Zsa _ _ _ hd3 (Nat.le_refl _)) (by omega) (by omega) (by omega) (by omega)
    ·rw [if_neg (by simp; omega),if_neg h4]
     simp only [Option.bind_some]
     exact ih (j' + 1) m _ hd3 (by omega) (by omega) (by omega) (by omega)
theorem Zli {n a b:Nat} (hB:n≤sB) (hb:b≤n) (hab:a<b) {d:Array Int} (hd:d.size=n) :
  Zam n d.toList (a:Int) (b:Int)=some ((Sort.partialInsertionSort Sort.ltInt d a b).2,(Sort.partialInsertionSort Sort.ltInt d a b).1.toList):=by
 unfold Zam Sort.partialInsertionSort
 have hB':=hB
 unfold sB at hB
 rw [wsuc (by omega)]
 obtain⟨o,e,ho⟩:=Znn hB' hb hab 5 0 (a + 1) fuel d hd rfl (by unfold fuel; omega) (by omega) (by omega)
 rw [show ((0:Nat):Int)=0 from rfl] at e
 rw [e]
 rcases ho with ⟨rfl,h⟩ | rfl
 ·simp only [Option.bind_some,h]
 ·rfl
theorem Zov {n a b s:Nat} {d:Array Int} (hd:d.size=n) (ha:a<n) (hb:b<n) (hs:s<1000):Zbm n d.toList (a:Int) (b:Int) (s:Int)=some (((Sort.order2 Sort.ltInt d a b s).1:Int),((Sort.order2 Sort.ltInt d a b s).2.1:Int),((Sort.order2 Sort.ltInt d a b s).2.2:Int)):=by
 unfold Zbm Sort.order2
 simp only [Z2 hd ha,Z2 hd hb,Option.bind_some,Ze5,wsuc (show s + 1<1000000000000 by omega)]
 split <;> rfl
theorem Zjm {n a b s:Nat} {d:Array Int} (ha:a<n) (hb:b<n):(Sort.order2 Sort.ltInt d a b s).1<n∧(Sort.order2 Sort.ltInt d a b s).2.1<n∧(Sort.order2 Sort.ltInt d a b s).2.2≤s + 1:=by
 unfold Sort.order2
 split
 ·exact⟨hb,ha,by simp⟩
 ·exact⟨ha,hb,by simp⟩
theorem Zow {n a b c s:Nat} {d:Array Int} (hd:d.size=n) (ha:a<n) (hb:b<n) (hc:c<n) (hs:s<900):Zb5 n d.toList (a:Int) (b:Int) (c:Int) (s:Int)=some (((Sort.median Sort.ltInt d a b c s).1:Int),((Sort.median Sort.ltInt d a b c s).2:Int)):=by
 unfold Zb5 Sort.median
 obtain⟨g1,g2,g3⟩:=Zjm (s:=s) (d:=d) ha hb
 rw [Zov hd ha hb (by omega)]
 simp only [Option.bind_some]
 obtain⟨h1,h2,h3⟩:=Zjm (s:=(Sort.order2 Sort.ltInt d a b s).2.2) (d:=d) g2 hc
 rw [Zov hd g2 hc (by omega)]
 simp only [Option.bind_some]
 rw [Zov hd g1 h1 (by omega)]
 rfl
theorem Zxl {n a b c s:Nat} {d:Array Int} (ha:a<n) (hb:b<n) (hc:c<n):(Sort.median Sort.ltInt d a b c s).1<n∧(Sort.median Sort.ltInt d a b c s).2≤s + 3:=by
 unfold Sort.median
 obtain⟨g1,g2,g3⟩:=Zjm (s:=s) (d:=d) ha hb
 obtain⟨h1,h2,h3⟩:=Zjm (s:=(Sort.order2 Sort.ltInt d a b s).2.2) (d:=d) g2 hc
 obtain⟨k1,k2,k3⟩:=Zjm (s:=(Sort.order2 Sort.ltInt d (Sort.order2 Sort.ltInt d a b s).2.1 c (Sort.order2 Sort.ltInt d a b s).2.2).2.2) (d:=d) g1 h1
 exact⟨k2,Nat.le_trans k3 (by omega)⟩
theorem Zik {n a s:Nat} (hB:n≤sB) {d:Array Int} (hd:d.size=n) (h0:0<a) (ha:a + 1<n) (hs:s<900):Zap n d.toList (a:Int) (s:Int)=some (((Sort.medianAdjacent Sort.ltInt d a s).1:Int),((Sort.medianAdjacent Sort.ltInt d a s).2:Int)):=by
 unfold sB at hB
 unfold Zap Sort.medianAdjacent
 obtain⟨a',rfl⟩:∃ a',a=a' + 1:=⟨a - 1,by omega⟩
 rw [wpred (by omega),wsuc (by omega),Zow hd (by omega) (by omega) ha hs]
 rfl
theorem Zh4 {n a s:Nat} {d:Array Int} (ha:a + 1<n):(Sort.medianAdjacent Sort.ltInt d a s).1<n∧(Sort.medianAdjacent Sort.ltInt d a s).2≤s + 3:=by
 unfold Sort.medianAdjacent
 exact Zxl (by omega) (by omega) ha
def hintN:Sort.Hint→Int
 | .unknown=>0
 | .increasing=>1
 | .decreasing=>2
theorem Zsz {n a b:Nat} (hB:n≤sB) (hab:a<b) (hb:b≤n) {d:Array Int} (hd:d.size=n) :
  Zb4 n d.toList (a:Int) (b:Int)=some (((Sort.choosePivot Sort.ltInt d a b).1:Int),hintN (Sort.choosePivot Sort.ltInt d a b).2):=by
 have hB':=hB
 unfold sB at hB
 unfold Zb4
 have ew:IntKind.wrap .i64 ((b:Int) - (a:Int))=((b - a:Nat):Int):=wsub (by omega) (by omega)
 have eq4:IntKind.wrap .i64 (Int.tdiv ((b - a:Nat):Int) (4:Int))=(((b - a) / 4:Nat):Int):=by
  rw [Int.tdiv_eq_ediv_of_nonneg (by omega),wi64 (by omega) (by omega)]; omega
 have ep:∀ k:Nat,k≤3→IntKind.wrap .i64 ((a:Int) + IntKind.wrap .i64 ((((b - a) / 4:Nat):Int) * (k:Int)))=((a + (b - a) / 4 * k:Nat):Int):=fun k hk=>by
  have h1:(b - a) / 4 * k≤(b - a) / 4 * 3:=Nat.mul_le_mul_left _ hk
  have e2:(((b - a) / 4:Nat):Int) * (k:Int)=(((b - a) / 4 * k:Nat):Int):=by push_cast; rfl
  rw [e2,wi64 (x:=(((b - a) / 4 * k:Nat):Int)) (by omega) (by omega),wadd (by omega)]
 have e1:=ep 1 (by omega)
 have e2:=ep 2 (by omega)
 have e3:=ep 3 (by omega)
 rw [show ((1:Nat):Int)=1 from rfl] at e1
 rw [show ((2:Nat):Int)=2 from rfl] at e2
 rw [show ((3:Nat):Int)=3 from rfl] at e3
 rw [ew,eq4,e1,e2,e3]
 have fin:∀(r:Nat × Nat),(match ((r.2:Int),(r.1:Int)) with
   | (v24,v25)=>if (v24 == (0:Int))=true then some (v25,(1:Int)) else if (v24 == (12:Int))=true then some (v25,(2:Int)) else some (v25,(0:Int))) =
   some ((r.1:Int),hintN (if r.2=0 then .increasing else if r.2=12 then .decreasing else .unknown)):=fun r=>by
  simp only [beq_iff_eq]
  by_cases h0:r.2=0
  ·rw [if_pos (by omega),if_pos h0]; rfl
  ·rw [if_neg (by omega),if_neg h0]
   by_cases h1:r.2=12
   ·rw [if_pos (by omega),if_pos h1]; rfl
   ·rw [if_neg (by omega),if_neg h1]; rfl
 unfold Sort.choosePivot
 simp only
 by_cases h8:b - a ≥ 8
 ·rw [if_pos (decide_eq_true (show ((b - a:Nat):Int) ≥ 8 by omega)),if_pos h8]
  by_cases h50:b - a ≥ 50
  ·rw [if_pos (decide_eq_true (show ((b - a:Nat):Int) ≥ 50 by omega)),if_pos h50]
   have l1:a + (b - a) / 4 * 3 + 1<n:=by omega
   rw [show (0:Int)=((0:Nat):Int) from rfl]
   rw [Zik hB' hd (by omega) (by omega) (by omega)]
   obtain⟨p1,p2⟩:=Zh4 (n:=n) (a:=a + (b - a) / 4 * 1) (s:=0) (d:=d) (by omega)
   simp only [Option.bind_some]
   rw [Zik hB' hd (by omega) (by omega) (by omega)]
   obtain⟨q1,q2⟩:=Zh4 (n:=n) (a:=a + (b - a) / 4 * 2) (s:=(Sort.medianAdjacent Sort.ltInt d (a + (b - a) / 4 * 1) 0).2) (d:=d) (by omega)
   simp only [Option.bind_some]
   rw [Zik hB' hd (by omega) (by omega) (by omega)]
   obtain⟨s1,s2⟩:=Zh4 (n:=n) (a:=a + (b - a) / 4 * 3) (s:=(Sort.medianAdjacent Sort.ltInt d (a + (b - a) / 4 * 2) (Sort.medianAdjacent Sort.ltInt d (a + (b - a) / 4 * 1) 0).2).2) (d:=d) (by omega)
   simp only [Option.bind_some]
   rw [Zow hd p1 q1 s1 (by omega)]
   simp only [Option.bind_some]
   exact fin _
  ·rw [if_neg (by simp; omega),if_neg h50]
   rw [show (0:Int)=((0:Nat):Int) from rfl]
   simp only [Option.bind_some]
   rw [Zow hd (by omega) (by omega) (by omega) (by omega)]
   simp only [Option.bind_some]
   exact fin _
 ·rw [if_neg (by simp; omega),if_neg h8]
  simp only [Option.bind_some]
  exact fin (a + (b - a) / 4 * 2,0)
end Go.AM
set_option maxRecDepth 100000
namespace Go.AM
open Go
theorem Zl9 {x:Nat} (h:256≤x):Sort.bitsLen x=Sort.bitsLen (x / 256) + 8:=by
 have h1:∀ m,Sort.bitsLen x≤m + 8 ↔ Sort.bitsLen (x / 256)≤m:=fun m=>by
  rw [Sort.bitsLen_le_iff,Sort.bitsLen_le_iff,Nat.pow_add]
  have:0<2 ^ m:=Nat.pow_pos (by omega)
  omega
 have h2:=(h1 (Sort.bitsLen (x / 256))).2 (Nat.le_refl _)
 have h3:¬ Sort.bitsLen x≤8:=by rw [Sort.bitsLen_le_iff]; omega
 have h4:=(h1 (Sort.bitsLen x - 8)).1 (by omega)
 omega
theorem Zqy (x k:Nat) (hk:k≤64):bShr .u64 (x:Int) (k:Int)=((x / 2 ^ k:Nat):Int):=by
 unfold bShr
 rw [Int.toNat_natCast,show min k (IntKind.bits .u64)=k from Nat.min_eq_left hk,Int.fdiv_eq_ediv_of_nonneg _ (by exact Int.le_of_lt (by exact Int.pow_pos (by decide)))]
 push_cast; rfl
def len8:ByteArray:=⟨#[0,1,2,2,3,3,3,3,4,4,4,4,4,4,4,4,5,5,5,5,5,5,5,5,5,5,5,5,5,5,5,5,6,6,6,6,6,6,6,6,6,6,6,6,6,6,6,6,6,6,6,6,6,6,6,6,6,6,6,6,6,6,6,6,7,7,7,7,7,7,7,7,7,7,7,7,7,7,7,7,7,7,7,7,7,7,7,7,7,7,7,7,7,7,7,7,7,7,7,7,7,7,7,7,7,7,7,7,7,7,7,7,7,7,7,7,7,7,7,7,7,7,7,7,7,7,7,7,8,8,8,8,8,8,8,8,8,8,8,8,8,8,8,8,8,8,8,8,8,8,8,8,8,8,8,8,8,8,8,8,8,8,8,8,8,8,8,8,8,8,8,8,8,8,8,8,8,8,8,8,8,8,8,8,8,8,8,8,8,8,8,8,8,8,8,8,8,8,8,8,8,8,8,8,8,8,8,8,8,8,8,8,8,8,8,8,8,8,8,8,8,8,8,8,8,8,8,8,8,8,8,8,8,8,8,8,8,8,8,8,8,8,8,8,8,8,8,8,8,8,8,8,8,8,8,8]⟩
theorem Zza:(List.range 256).map (fun i=>len8.data[i]?.map (·.toNat))=(List.range 256).map (fun i=>some (Sort.bitsLen i)):=by kernel_rfl
theorem Zs0 {i:Nat} (h:i<256):sidx ⟨#[0,1,2,2,3,3,3,3,4,4,4,4,4,4,4,4,5,5,5,5,5,5,5,5,5,5,5,5,5,5,5,5,6,6,6,6,6,6,6,6,6,6,6,6,6,6,6,6,6,6,6,6,6,6,6,6,6,6,6,6,6,6,6,6,7,7,7,7,7,7,7,7,7,7,7,7,7,7,7,7,7,7,7,7,7,7,7,7,7,7,7,7,7,7,7,7,7,7,7,7,7,7,7,7,7,7,7,7,7,7,7,7,7,7,7,7,7,7,7,7,7,7,7,7,7,7,7,7,8,8,8,8,8,8,8,8,8,8,8,8,8,8,8,8,8,8,8,8,8,8,8,8,8,8,8,8,8,8,8,8,8,8,8,8,8,8,8,8,8,8,8,8,8,8,8,8,8,8,8,8,8,8,8,8,8,8,8,8,8,8,8,8,8,8,8,8,8,8,8,8,8,8,8,8,8,8,8,8,8,8,8,8,8,8,8,8,8,8,8,8,8,8,8,8,8,8,8,8,8,8,8,8,8,8,8,8,8,8,8,8,8,8,8,8,8,8,8,8,8,8,8,8,8,8,8,8]⟩ (i:Int)=some ((Sort.bitsLen i:Nat):Int):=by
 have h1:len8.data[i]?.map (·.toNat)=some (Sort.bitsLen i):=List.map_inj_left.1 Zza i (List.mem_range.2 h)
 have hs:len8.size=256:=by kernel_rfl
 have h2:i<len8.data.size:=by show i<len8.size; omega
 rw [Array.getElem?_eq_getElem h2] at h1
 simp only [Option.map_some,Option.some.injEq] at h1
 show sidx len8 (i:Int)=_
 unfold sidx
 rw [dif_pos ⟨by omega,by omega⟩,← h1]
 rfl
theorem Len_eq {x:Nat} (h:x<16777216):Zfy (x:Int)=some ((Sort.bitsLen x:Nat):Int):=by
 have w8:∀ y:Nat,y<256→IntKind.wrap .u8 (y:Int)=(y:Int):=fun y hy=>by rw [wrap_u .u8 8 rfl rfl]; omega
 have hb:∀ y:Nat,y<256→Sort.bitsLen y≤8:=fun y hy=>(Sort.bitsLen_le_iff y 8).2 (by omega)
 unfold Zfy Zg8
 rw [if_neg (by simp; omega)]
 simp only [Option.bind_some]
 have e16:bShr .u64 (x:Int) (16:Int)=((x / 65536:Nat):Int):=Zqy x 16 (by omega)
 have e8:bShr .u64 (x:Int) (8:Int)=((x / 256:Nat):Int):=Zqy x 8 (by omega)
 by_cases h1:x<65536
 ·rw [if_neg (show ¬ (decide ((x:Int) ≥ 65536))=true by simp; omega)]
  simp only [Option.bind_some]
  by_cases h2:x<256
  ·rw [if_neg (show ¬ (decide ((x:Int) ≥ 256))=true by simp; omega)]
   simp only [Option.bind_some]
   rw [w8 x h2,Zs0 h2]
   have:=hb x h2
   simp only [Option.bind_some]
   rw [wi64 (x:=((Sort.bitsLen x:Nat):Int)) (by omega) (by omega),wi64 (by omega) (by omega),Int.zero_add]
  ·rw [if_pos (decide_eq_true (show (x:Int) ≥ 256 by omega)),e8]
   simp only [Option.bind_some]
   have h3:x / 256<256:=by omega
   rw [w8 _ h3,Zs0 h3,Zl9 (show 256≤x by omega)]
   have:=hb _ h3
   simp only [Option.bind_some]
   rw [wi64 (x:=((Sort.bitsLen (x / 256):Nat):Int)) (by omega) (by omega),wi64 (x:=(0:Int) + 8) (by omega) (by omega),wi64 (by omega) (by omega)]
   congr 1; omega
 ·rw [if_pos (decide_eq_true (show (x:Int) ≥ 65536 by omega)),e16]
  simp only [Option.bind_some]
  have h3:x / 65536<256:=by omega
  rw [if_neg (show ¬ (decide (((x / 65536:Nat):Int) ≥ 256))=true by simp; omega)]
  simp only [Option.bind_some]
  rw [w8 _ h3,Zs0 h3,Zl9 (show 256≤x by omega),Zl9 (show 256≤x / 256 by omega),Nat.div_div_eq_div_mul]
  have:=hb _ h3
  simp only [Option.bind_some]
  rw [wi64 (x:=((Sort.bitsLen (x / 65536):Nat):Int)) (by omega) (by omega),wi64 (x:=(0:Int) + 16) (by omega) (by omega),wi64 (by omega) (by omega)]
  congr 1
  show _=((Sort.bitsLen (x / 65536) + 8 + 8:Nat):Int)
  omega
theorem Zqz {x y:Nat} (hx:x<2 ^ 64) (hy:y<2 ^ 64):bXor .u64 (x:Int) (y:Int)=((x ^^^ y:Nat):Int):=by
 have h:=Nat.xor_lt_two_pow hx hy
 unfold bXor
 have e:(BitVec.ofInt (IntKind.bits .u64) (x:Int) ^^^ BitVec.ofInt (IntKind.bits .u64) (y:Int)).toNat=x ^^^ y:=by
  rw [BitVec.ofInt_natCast,BitVec.ofInt_natCast]
  show (BitVec.ofNat 64 x ^^^ BitVec.ofNat 64 y).toNat=_
  rw [BitVec.toNat_xor,BitVec.toNat_ofNat,BitVec.toNat_ofNat,Nat.mod_eq_of_lt hx,Nat.mod_eq_of_lt hy]
 rw [e,wu64 (by omega) (by omega)]
theorem Zzb {x y:Nat} (hx:x<2 ^ 64) (hy:y<2 ^ 64):bAnd .u64 (x:Int) (y:Int)=((x &&& y:Nat):Int):=by
 have h:x &&& y<2 ^ 64:=Nat.and_lt_two_pow x hy
 unfold bAnd
 have e:(BitVec.ofInt (IntKind.bits .u64) (x:Int) &&& BitVec.ofInt (IntKind.bits .u64) (y:Int)).toNat=x &&& y:=by
  rw [BitVec.ofInt_natCast,BitVec.ofInt_natCast]
  show (BitVec.ofNat 64 x &&& BitVec.ofNat 64 y).toNat=_
  rw [BitVec.toNat_and,BitVec.toNat_ofNat,BitVec.toNat_ofNat,Nat.mod_eq_of_lt hx,Nat.mod_eq_of_lt hy]
 rw [e,wu64 (by omega) (by omega)]
theorem Zu8 (x k:Nat) (hk:k≤64):bShl .u64 (x:Int) (k:Int)=((x * 2 ^ k % 2 ^ 64:Nat):Int):=by
 unfold bShl
 rw [Int.toNat_natCast,show min k (IntKind.bits .u64)=k from Nat.min_eq_left hk,wrap_u .u64 64 rfl rfl]
 rw [Int.natCast_emod,Int.natCast_mul,Int.natCast_pow,Int.natCast_pow]; rfl
theorem Zya {x:Nat} (hx:x<2 ^ 64):Zed (x:Int)=some (((Sort.xorNextN x:Nat):Int),((Sort.xorNextN x:Nat):Int)):=by
 unfold Zed
 have a1:bShl .u64 (x:Int) (13:Int)=((x * 8192 % 18446744073709551616:Nat):Int):=Zu8 x 13 (by omega)
 have l1:x * 8192 % 18446744073709551616<2 ^ 64:=by omega
 rw [a1,Zqz hx l1]
 obtain⟨a,ha⟩:∃ a,a=x ^^^ (x * 8192 % 18446744073709551616):=⟨_,rfl⟩
 have l2:a<2 ^ 64:=by rw [ha]; exact Nat.xor_lt_two_pow hx l1
 rw [← ha]
 have a2:bShr .u64 (a:Int) (7:Int)=((a / 128:Nat):Int):=Zqy a 7 (by omega)
 have l3:a / 128<2 ^ 64:=by omega
 rw [a2,Zqz l2 l3]
 obtain⟨b,hb⟩:∃ b,b=a ^^^ (a / 128):=⟨_,rfl⟩
 have l4:b<2 ^ 64:=by rw [hb]; exact Nat.xor_lt_two_pow l2 l3
 rw [← hb]
 have a3:bShl .u64 (b:Int) (17:Int)=((b * 131072 % 18446744073709551616:Nat):Int):=Zu8 b 17 (by omega)
 rw [a3,Zqz l4 (by omega)]
 have e:Sort.xorNextN x=b ^^^ (b * 131072 % 18446744073709551616):=by rw [hb,ha]; rfl
 rw [e]
theorem Zzc {a l m idx:Nat} {st:UInt64 × Array Int} {n:Nat} (h:st.2.size=n):(Sort.breakStep a l m st idx).2.size=n:=by
 unfold Sort.breakStep; simp only; rw [swp_sz,h]
theorem Zyb {n a b:Nat} (hB:n≤sB) (hb:b≤n) (h8:b - a ≥ 8) {m idx:Nat} {st:UInt64 × Array Int} (hd:st.2.size=n) (h1:a≤idx) (h2:idx<b) (hc:idx≤a + (b - a) / 4 * 2 + 1) :
  Zw n (a:Int) (b:Int) ((1 <<< Sort.bitsLen (b - a):Nat):Int) (m + 1) st.2.toList ((st.1.toNat:Nat):Int) (idx:Int) =
  Zw n (a:Int) (b:Int) ((1 <<< Sort.bitsLen (b - a):Nat):Int) m (Sort.breakStep a (b - a) (1 <<< Sort.bitsLen (b - a)) st idx).2.toList (((Sort.breakStep a (b - a) (1 <<< Sort.bitsLen (b - a)) st idx).1.toNat:Nat):Int) ((idx + 1:Nat):Int):=by
 have hB':=hB
 unfold sB at hB
 obtain⟨r,d⟩:=st
 simp only at hd ⊢
 have hp:2 ^ Sort.bitsLen (b - a)≤2 * (b - a):=Sort.two_pow_bitsLen_le (by omega)
 have hp0:0<2 ^ Sort.bitsLen (b - a):=Nat.pow_pos (by omega)
 rw [Zw]
 have ew:IntKind.wrap .i64 ((b:Int) - (a:Int))=((b - a:Nat):Int):=wsub (by omega) (by omega)
 have eq4:IntKind.wrap .i64 (Int.tdiv ((b - a:Nat):Int) (4:Int))=(((b - a) / 4:Nat):Int):=by
  rw [Int.tdiv_eq_ediv_of_nonneg (by omega),wi64 (by omega) (by omega)]; omega
 have e5:IntKind.wrap .i64 (IntKind.wrap .i64 ((a:Int) + IntKind.wrap .i64 ((((b - a) / 4:Nat):Int) * (2:Int))) + 1)=((a + (b - a) / 4 * 2 + 1:Nat):Int):=by
  rw [wi64 (x:=(((b - a) / 4:Nat):Int) * 2) (by omega) (by omega),wi64 (x:=(a:Int) + (((b - a) / 4:Nat):Int) * 2) (by omega) (by omega),wi64 (by omega) (by omega)]; omega
 rw [ew,eq4,e5,if_pos (decide_eq_true (by omega)),Zya (UInt64.toNat_lt r)]
 simp only [Option.bind_some]
 have hx:=Sort.xorNext_toNat r
 have hxl:=Sort.xorNextN_lt r.toNat (UInt64.toNat_lt r)
 unfold Sort.breakStep
 simp only
 rw [hx]
 rw [Nat.shiftLeft_eq,Nat.one_mul] at *
 generalize Sort.xorNextN r.toNat=x at hxl ⊢
 have em:IntKind.wrap .u64 (((2 ^ Sort.bitsLen (b - a):Nat):Int) - 1)=((2 ^ Sort.bitsLen (b - a) - 1:Nat):Int):=by
  rw [wu64 (by omega) (by omega)]; omega
 rw [em,Zzb hxl (by omega)]
 have ha:x &&& (2 ^ Sort.bitsLen (b - a) - 1)≤2 ^ Sort.bitsLen (b - a) - 1:=Nat.and_le_right
 generalize x &&& (2 ^ Sort.bitsLen (b - a) - 1)=o at ha ⊢
 rw [wi64 (x:=(o:Int)) (by omega) (by omega)]
 have eo:(if (decide ((o:Int) ≥ ((b - a:Nat):Int)))=true then some (IntKind.wrap .i64 ((o:Int) - ((b - a:Nat):Int))) else some (o:Int))=some ((if o ≥ b - a then o - (b - a) else o:Nat):Int):=by
  by_cases h:o ≥ b - a
  ·rw [if_pos (decide_eq_true (by omega)),if_pos h,wsub (by omega) h]
  ·rw [if_neg (by simp; omega),if_neg h]
 rw [eo]
 have ho:(if o ≥ b - a then o - (b - a) else o)<b - a:=by split <;> omega
 generalize (if o ≥ b - a then o - (b - a) else o)=q at ho ⊢
 simp only [Option.bind_some]
 rw [wadd (by omega)]
 obtain⟨y,hy⟩:=Zej (i:=idx) (x:=d[a + q]!) hd (show a + q<n by omega)
 simp only [Z2 hd (show a + q<n by omega),Z2 hd (show idx<n by omega),Option.bind_some,Int.toNat_natCast,hy,Zes]
 rw [wsuc (by omega)]
theorem Zyc {n a b:Nat} (hB:n≤sB) (hb:b≤n) (h8:b - a ≥ 8) {m idx:Nat} {st:UInt64 × Array Int} (hd:st.2.size=n) (hi:idx + 1=a + (b - a) / 4 * 2) (g:Nat→UInt64 × Array Int→UInt64 × Array Int) (hg:g=fun i s=>Sort.breakStep a (b - a) (1 <<< Sort.bitsLen (b - a)) s i) :
  ∃ z,Zw n (a:Int) (b:Int) ((1 <<< Sort.bitsLen (b - a):Nat):Int) (m + 1 + 1 + 1 + 1) st.2.toList ((st.1.toNat:Nat):Int) (idx:Int)=some ((g (idx + 2) (g (idx + 1) (g idx st))).2.toList,z):=by
 have hB':=hB
 unfold sB at hB
 have z:∀ i s,s.2.size=n→(g i s).2.size=n:=fun i s h=>by rw [hg]; exact Zzc h
 have st1:∀ m i s,s.2.size=n→a≤i→i<b→i≤a + (b - a) / 4 * 2 + 1→Zw n (a:Int) (b:Int) ((1 <<< Sort.bitsLen (b - a):Nat):Int) (m + 1) s.2.toList ((s.1.toNat:Nat):Int) (i:Int)=Zw n (a:Int) (b:Int) ((1 <<< Sort.bitsLen (b - a):Nat):Int) m (g i s).2.toList (((g i s).1.toNat:Nat):Int) ((i + 1:Nat):Int):=fun m i s h h1 h2 hc=>by
  rw [hg]; exact Zyb hB' hb h8 h h1 h2 hc
 rw [st1 _ _ _ hd (by omega) (by omega) (by omega),st1 _ _ _ (z _ _ hd) (by omega) (by omega) (by omega),st1 _ _ _ (z _ _ (z _ _ hd)) (by omega) (by omega) (by omega)]
 rw [Zw]
 have ew:IntKind.wrap .i64 ((b:Int) - (a:Int))=((b - a:Nat):Int):=wsub (by omega) (by omega)
 have eq4:IntKind.wrap .i64 (Int.tdiv ((b - a:Nat):Int) (4:Int))=(((b - a) / 4:Nat):Int):=by
  rw [Int.tdiv_eq_ediv_of_nonneg (by omega),wi64 (by omega) (by omega)]; omega
 have e6:IntKind.wrap .i64 (IntKind.wrap .i64 ((a:Int) + IntKind.wrap .i64 ((((b - a) / 4:Nat):Int) * (2:Int))) + 1)=((a + (b - a) / 4 * 2 + 1:Nat):Int):=by
  rw [wi64 (x:=(((b - a) / 4:Nat):Int) * 2) (by omega) (by omega),wi64 (x:=(a:Int) + (((b - a) / 4:Nat):Int) * 2) (by omega) (by omega),wi64 (by omega) (by omega)]; omega
 rw [ew,eq4,e6,if_neg (by simp; omega)]
 exact⟨_,rfl⟩
theorem Zq0 {n a b:Nat} (hB:n≤1000000) (hb:b≤n) (hab:a≤b) {d:Array Int} (hd:d.size=n) :
  Za9 n d.toList (a:Int) (b:Int)=some (Sort.breakPatterns d a b).toList:=by
 have hB':n≤sB:=by unfold sB; omega
 unfold Za9 Sort.breakPatterns
 have ew:IntKind.wrap .i64 ((b:Int) - (a:Int))=((b - a:Nat):Int):=wsub (by omega) (by omega)
 rw [ew]
 simp only
 by_cases h8:b - a ≥ 8
 ·rw [if_pos (decide_eq_true (show ((b - a:Nat):Int) ≥ 8 by omega)),if_pos h8]
  unfold Zfa
  rw [wu64 (x:=((b - a:Nat):Int)) (by omega) (by omega),Len_eq (by omega)]
  simp only [Option.bind_some]
  have hp:2 ^ Sort.bitsLen (b - a)≤2 * (b - a):=Sort.two_pow_bitsLen_le (by omega)
  have hl:Sort.bitsLen (b - a)<64:=by
   have:=(Sort.bitsLen_le_iff (b - a) 63).2 (by omega)
   omega
  rw [if_pos (by omega),Zy4 hl]
  simp only [Option.bind_some]
  have es:((2 ^ Sort.bitsLen (b - a):Nat):Int)=((1 <<< Sort.bitsLen (b - a):Nat):Int):=by rw [Nat.shiftLeft_eq,Nat.one_mul]
  have eq4:IntKind.wrap .i64 (Int.tdiv ((b - a:Nat):Int) (4:Int))=(((b - a) / 4:Nat):Int):=by
   rw [Int.tdiv_eq_ediv_of_nonneg (by omega),wi64 (by omega) (by omega)]; omega
  have e5:IntKind.wrap .i64 (IntKind.wrap .i64 ((a:Int) + IntKind.wrap .i64 ((((b - a) / 4:Nat):Int) * (2:Int))) - 1)=((a + (b - a) / 4 * 2 - 1:Nat):Int):=by
   rw [wi64 (x:=(((b - a) / 4:Nat):Int) * 2) (by omega) (by omega),wi64 (x:=(a:Int) + (((b - a) / 4:Nat):Int) * 2) (by omega) (by omega),wi64 (by omega) (by omega)]; omega
  have eu:((b - a:Nat):Int)=(((UInt64.ofNat (b - a)).toNat:Nat):Int):=by
   rw [UInt64.toNat_ofNat_of_lt' (by show b - a<18446744073709551616; omega)]
  rw [es,eq4,e5]
  have hf:fuel=1180591620717411303420 + 1 + 1 + 1 + 1:=by kernel_rfl
  obtain⟨z,hz⟩:=Zyc (m:=1180591620717411303420) (idx:=a + (b - a) / 4 * 2 - 1) (st:=(UInt64.ofNat (b - a),d)) hB' hb h8 hd (by omega) _ rfl
  rw [← hf] at hz
  simp only at hz
  rw [eu,hz]
  simp only [Option.bind_some]
 ·rw [if_neg (by simp; omega),if_neg h8]
end Go.AM
set_option maxRecDepth 100000
namespace Go.AM
open Go
theorem swo_lt:Sort.SWO Sort.ltInt:=Sort.swo_ltInt
theorem Z0i {n a b:Nat} (hab:a≤b) (hb:b≤n) {d:Array Int} (hd:d.size=n):(Sort.insertionSort Sort.ltInt d a b).size=n:=by
 rw [(Sort.insertionSort_holds swo_lt d a b hab (by omega)).1.1,hd]
theorem brk_sz {n a b:Nat} (hab:a≤b) (hb:b≤n) {d:Array Int} (hd:d.size=n):(Sort.breakPatterns d a b).size=n:=by
 rw [(Sort.breakPatterns_holds d a b hab (by omega)).1,hd]
theorem rev_sz {n a b:Nat} (hab:a≤b) (hb:b≤n) {d:Array Int} (hd:d.size=n):(Sort.reverseRange d a b).size=n:=by
 rw [(Sort.reverseRange_holds d a b hab (by omega)).1,hd]
theorem Zs1 {n a b:Nat}:∀(s i:Nat) (d:Array Int),d.size=n→(Sort.partialIns Sort.ltInt a b s i d).1.size=n
 | 0,_,d,hd=>hd
 | s + 1,i,d,hd=>by
  rw [Sort.partialIns]
  simp only
  split
  ·exact hd
  ·split
   ·exact hd
   ·refine Zs1 s _ _ ?_
    split
    ·refine Zsa _ _ _ ?_ (Nat.le_refl _)
     split
     ·exact Zjl _ _ (by rw [swp_sz,hd])
     ·rw [swp_sz,hd]
    ·split
     ·exact Zjl _ _ (by rw [swp_sz,hd])
     ·rw [swp_sz,hd]
theorem Zu9 {n a b p:Nat} (hp0:a≤p) (hp:p<b) (hb:b≤n) {d:Array Int} (hd:d.size=n) :
  a≤(Sort.partition Sort.ltInt d a b p).1∧(Sort.partition Sort.ltInt d a b p).1<b∧(Sort.partition Sort.ltInt d a b p).2.2.size=n:=by
 obtain⟨h1,h2,h3,_⟩:=Sort.partition_holds Sort.ltInt swo_lt d a b p hp0 hp (by omega)
 exact⟨h1,h2,by rw [h3.1,hd]⟩
theorem Zsb {n a b p:Nat} (hp0:a≤p) (hp:p<b) (hb:b≤n) {d:Array Int} (hd:d.size=n) :
  a<(Sort.partitionEqual Sort.ltInt d a b p).1∧(Sort.partitionEqual Sort.ltInt d a b p).1≤b∧(Sort.partitionEqual Sort.ltInt d a b p).2.size=n:=by
 unfold Sort.partitionEqual
 obtain⟨r1,r2,r3,_⟩:=Sort.partEqLoop_spec Sort.ltInt a b _ (a + 1) (b - 1) (Sort.swp d a p) (Nat.le_refl _) (Nat.lt_succ_self a) (by omega) (by omega) (by rw [swp_sz]; omega) (fun t h1 h2=>by omega) (fun t h1 h2=>by omega)
 exact⟨r1,r2,by rw [r3.1,swp_sz,hd]⟩
theorem pdq_sz {n:Nat}:∀(k:Nat) (d:Array Int) (a b limit:Nat) (wb wp:Bool),b - a≤k→d.size=n→a≤b→b≤n→(Sort.pdq Sort.ltInt d a b limit wb wp).size=n:=by
 intro k
 induction k using Nat.strongRecOn with
 | _ k ih=>
 intro d a b limit wb wp hk hd hab hb
 rw [Sort.pdq]
 split
 ·exact Z0i hab hb hd
 ·rename_i h12
  split
  ·rw [(Sort.heapSort_holds swo_lt d a b hab (by omega)).1.1,hd]
  ·simp only
   have s1:(if (!wb)=true then Sort.breakPatterns d a b else d).size=n:=by
    split
    ·exact brk_sz hab hb hd
    ·exact hd
   generalize (if (!wb)=true then Sort.breakPatterns d a b else d)=d1 at s1 ⊢
   have hc:=Sort.choosePivot_holds Sort.ltInt d1 a b (by omega)
   generalize Sort.choosePivot Sort.ltInt d1 a b=c at hc ⊢
   have s2:(if c.2=.decreasing then Sort.reverseRange d1 a b else d1).size=n:=by
    split
    ·exact rev_sz hab hb s1
    ·exact s1
   generalize (if c.2=.decreasing then Sort.reverseRange d1 a b else d1)=d2 at s2 ⊢
   have hp:a≤(if c.2=.decreasing then (b - 1) - (c.1 - a) else c.1)∧(if c.2=.decreasing then (b - 1) - (c.1 - a) else c.1)<b:=by split <;> omega
   generalize (if c.2=.decreasing then (b - 1) - (c.1 - a) else c.1)=p at hp ⊢
   generalize (if c.2=.decreasing then Sort.Hint.increasing else c.2)=hint
   have s3:(if (wb && wp && decide (hint=.increasing))=true then Sort.partialInsertionSort Sort.ltInt d2 a b else (d2,false)).1.size=n:=by
    split
    ·exact Zs1 _ _ _ s2
    ·exact s2
   generalize (if (wb && wp && decide (hint=.increasing))=true then Sort.partialInsertionSort Sort.ltInt d2 a b else (d2,false))=pi at s3 ⊢
   split
   ·exact s3
   ·split
    ·obtain⟨h1,h2,h3⟩:=Zsb hp.1 hp.2 hb s3
     rw [dif_pos ⟨h1,h2⟩]
     exact ih _ (by omega) _ _ _ _ _ _ (Nat.le_refl _) h3 h2 hb
    ·obtain⟨h1,h2,h3⟩:=Zu9 hp.1 hp.2 hb s3
     rw [dif_pos ⟨h1,h2⟩]
     split
     ·exact ih _ (by omega) _ _ _ _ _ _ (Nat.le_refl _) (ih _ (by omega) _ _ _ _ _ _ (Nat.le_refl _) h3 h1 (by omega)) h2 hb
     ·exact ih _ (by omega) _ _ _ _ _ _ (Nat.le_refl _) (ih _ (by omega) _ _ _ _ _ _ (Nat.le_refl _) h3 h2 hb) h1 (by omega)
theorem Zzd (h:Sort.Hint):(hintN h == (2:Int))=decide (h=.decreasing):=by cases h <;> rfl
theorem Zze (h:Sort.Hint):(hintN h == (1:Int))=decide (h=.increasing):=by cases h <;> rfl
theorem pdq_eq {n:Nat} (hB:n≤1000000):∀(k:Nat) (nr m:Nat) (d:Array Int) (a b limit:Nat) (wb wp:Bool),b - a≤k→k≤nr→k<m→d.size=n→a≤b→b≤n→limit<1000 →
  Zao n (Z1 nr) m d.toList (a:Int) (b:Int) (limit:Int) wb wp=some (Sort.pdq Sort.ltInt d a b limit wb wp).toList:=by
 have hB':n≤sB:=by unfold sB; omega
 intro k
 induction k using Nat.strongRecOn with
 | _ k ih=>
 intro nr m d a b limit wb wp hk hnr hm hd hab hb hlim
 cases m with
 | zero=>omega
 | succ m=>
 rw [Zao,Sort.pdq]
 have ew:IntKind.wrap .i64 ((b:Int) - (a:Int))=((b - a:Nat):Int):=wsub (by omega) hab
 rw [ew]
 by_cases h12:b - a≤12
 ·rw [if_pos (decide_eq_true (by omega)),if_pos h12,Zqx hB' hb hab hd]; rfl
 ·rw [if_neg (by simp; omega),if_neg h12]
  by_cases hl:limit=0
  ·rw [if_pos (by simp [hl]),if_pos hl,Zv8 hB' (by omega) hb hd]; rfl
  ·rw [if_neg (by simp [hl]),if_neg hl]
   have e1:(if (!wb)=true then (Za9 n d.toList (a:Int) (b:Int)).bind fun(r168:(List Int))=>some (r168,(IntKind.wrap .i64 ((limit:Int) - (1:Int)))) else some (d.toList,(limit:Int)))=some ((if (!wb)=true then Sort.breakPatterns d a b else d).toList,((if (!wb)=true then limit - 1 else limit:Nat):Int)):=by
    cases wb with
    | true=>rfl
    | false=>
     simp only [Bool.not_false,if_true]
     rw [Zq0 hB hb hab hd,wi64 (by omega) (by omega)]
     simp only [Option.bind_some]
     congr 2; omega
   rw [e1]
   have s1:(if (!wb)=true then Sort.breakPatterns d a b else d).size=n:=by
    split
    ·exact brk_sz hab hb hd
    ·exact hd
   have hlim':(if (!wb)=true then limit - 1 else limit)<1000:=by split <;> omega
   simp only [Option.bind_some]
   generalize (if (!wb)=true then Sort.breakPatterns d a b else d)=d1 at s1 ⊢
   generalize (if (!wb)=true then limit - 1 else limit)=limit' at hlim' ⊢
   rw [Zsz hB' (by omega) hb s1]
   simp only [Option.bind_some,Zzd]
   have hc:=Sort.choosePivot_holds Sort.ltInt d1 a b (by omega)
   generalize Sort.choosePivot Sort.ltInt d1 a b=c at hc ⊢
   obtain⟨c1,c2⟩:=c
   simp only at hc ⊢
   have e2:(if decide (c2=Sort.Hint.decreasing)=true then (Zbd n d1.toList (a:Int) (b:Int)).bind fun(r181:(List Int))=>some (r181,(IntKind.wrap .i64 ((IntKind.wrap .i64 ((b:Int) - (1:Int))) - (IntKind.wrap .i64 ((c1:Int) - (a:Int))))),(1:Int)) else some (d1.toList,(c1:Int),hintN c2)) =
     some ((if c2=.decreasing then Sort.reverseRange d1 a b else d1).toList,((if c2=.decreasing then (b - 1) - (c1 - a) else c1:Nat):Int),hintN (if c2=.decreasing then Sort.Hint.increasing else c2)):=by
    by_cases h:c2=.decreasing
    ·rw [if_pos (decide_eq_true h),if_pos h,if_pos h,if_pos h,Zr9 hB' (by omega) hb s1]
     have g1:IntKind.wrap .i64 ((b:Int) - 1)=((b - 1:Nat):Int):=by rw [wi64 (by omega) (by omega)]; omega
     rw [g1,wsub (i:=c1) (j:=a) (by omega) (by omega),wsub (i:=b - 1) (j:=c1 - a) (by omega) (by omega)]
     rfl
    ·rw [if_neg (by simpa using h),if_neg h,if_neg h,if_neg h]
   rw [e2]
   have s2:(if c2=.decreasing then Sort.reverseRange d1 a b else d1).size=n:=by
    split
    ·exact rev_sz hab hb s1
    ·exact s1
   have hp:a≤(if c2=.decreasing then (b - 1) - (c1 - a) else c1)∧(if c2=.decreasing then (b - 1) - (c1 - a) else c1)<b:=by split <;> omega
   simp only [Option.bind_some,Zze]
   generalize (if c2=.decreasing then Sort.reverseRange d1 a b else d1)=d2 at s2 ⊢
   generalize (if c2=.decreasing then (b - 1) - (c1 - a) else c1)=p at hp ⊢
   generalize (if c2=.decreasing then Sort.Hint.increasing else c2)=hint
   have e3:(if (wb && wp && decide (hint=Sort.Hint.increasing))=true then (Zam n d2.toList (a:Int) (b:Int)).bind fun(r199:(Bool × (List Int)))=>if r199.1=true then some (Sum.inr r199.2) else some (Sum.inl r199.2) else some (Sum.inl d2.toList)) =
     some (if (if (wb && wp && decide (hint=.increasing))=true then Sort.partialInsertionSort Sort.ltInt d2 a b else (d2,false)).2=true then Sum.inr (if (wb && wp && decide (hint=.increasing))=true then Sort.partialInsertionSort Sort.ltInt d2 a b else (d2,false)).1.toList else (Sum.inl (if (wb && wp && decide (hint=.increasing))=true then Sort.partialInsertionSort Sort.ltInt d2 a b else (d2,false)).1.toList:List Int ⊕ List Int)):=by
    by_cases h:(wb && wp && decide (hint=.increasing))=true
    ·rw [if_pos h,if_pos h,Zli hB' hb (by omega) s2]
     simp only [Option.bind_some]
     split <;> rfl
    ·rw [if_neg h,if_neg h]; rfl
   rw [e3]
   have s3:(if (wb && wp && decide (hint=.increasing))=true then Sort.partialInsertionSort Sort.ltInt d2 a b else (d2,false)).1.size=n:=by
    split
    ·exact Zs1 _ _ _ s2
    ·exact s2
   simp only [Option.bind_some]
   generalize (if (wb && wp && decide (hint=.increasing))=true then Sort.partialInsertionSort Sort.ltInt d2 a b else (d2,false))=pi at s3 ⊢
   obtain⟨d3,pf⟩:=pi
   simp only at s3 ⊢
   cases pf with
   | true=>rfl
   | false=>
    simp only [Bool.false_eq_true,if_false]
    have e4:((if (decide ((a:Int) > (0:Int)))=true then (idxn n d3.toList (IntKind.wrap .i64 ((a:Int) - (1:Int)))).bind fun(x205:Int)=>(idxn n d3.toList (p:Int)).bind fun(x207:Int)=>(Zab x205 x207).bind fun(r209:Bool)=>some (!r209) else some false)) =
      some (decide (a > 0) && !Sort.ltInt d3[a - 1]! d3[p]!):=by
     cases a with
     | zero=>rfl
     | succ a=>
      rw [if_pos (decide_eq_true (by omega)),wpred (by omega),Z2 s3 (by omega),Z2 s3 (by omega)]
      simp only [Option.bind_some,Ze5,Nat.add_sub_cancel,show a + 1 > 0 from Nat.succ_pos a,decide_true,Bool.true_and]
    rw [e4]
    simp only [Option.bind_some]
    by_cases h:(decide (a > 0) && !Sort.ltInt d3[a - 1]! d3[p]!)=true
    ·rw [if_pos h,if_pos h,Zpr hB' hb hp.1 hp.2 s3]
     obtain⟨h1,h2,h3⟩:=Zsb hp.1 hp.2 hb s3
     generalize Sort.partitionEqual Sort.ltInt d3 a b p=r at h1 h2 h3 ⊢
     obtain⟨mid,d4⟩:=r
     simp only [Option.bind_some] at h1 h2 h3 ⊢
     rw [dif_pos ⟨h1,h2⟩]
     exact ih (b - mid) (by omega) nr m d4 mid b limit' wb wp (Nat.le_refl _) (by omega) (by omega) h3 h2 hb hlim'
    ·rw [if_neg h,if_neg h,Zu7 hB' hb hp.1 hp.2 s3]
     obtain⟨h1,h2,h3⟩:=Zu9 hp.1 hp.2 hb s3
     generalize Sort.partition Sort.ltInt d3 a b p=r at h1 h2 h3 ⊢
     obtain⟨mid,ap,d4⟩:=r
     simp only [Option.bind_some] at h1 h2 h3 ⊢
     rw [dif_pos ⟨h1,h2⟩,wsub (i:=mid) (j:=a) (by omega) h1,wsub (i:=b) (j:=mid) (by omega) (by omega),wsuc (by omega)]
     have e8:IntKind.wrap .i64 (Int.tdiv ((b - a:Nat):Int) (8:Int))=(((b - a) / 8:Nat):Int):=by
      rw [Int.tdiv_eq_ediv_of_nonneg (by omega),wi64 (by omega) (by omega)]; omega
     rw [e8]
     obtain⟨nr',rfl⟩:∃ nr',nr=nr' + 1:=⟨nr - 1,by omega⟩
     have sub:∀(d:Array Int) (x y:Nat),d.size=n→x≤y→y≤n→y - x<k→Z1 (nr' + 1) n d.toList (x:Int) (y:Int) (limit':Int)=some (Sort.pdq Sort.ltInt d x y limit' true true).toList:=fun d x y hz hxy hy hlt=>by
      rw [Z1,ih (y - x) hlt nr' fuel d x y limit' true true (Nat.le_refl _) (by omega) (by unfold fuel; omega) hz hxy hy hlim']
      rfl
     by_cases h4:mid - a<b - mid
     ·rw [if_pos (decide_eq_true (by omega)),if_pos h4,sub d4 a mid h3 h1 (by omega) (by omega)]
      simp only [Option.bind_some]
      rw [show decide (((mid - a:Nat):Int) ≥ (((b - a) / 8:Nat):Int))=decide (mid - a ≥ (b - a) / 8) from decide_eq_decide.2 (by omega)]
      exact ih (b - (mid + 1)) (by omega) _ m _ (mid + 1) b limit' _ ap (Nat.le_refl _) (by omega) (by omega) (pdq_sz _ _ _ _ _ _ _ (Nat.le_refl _) h3 h1 (by omega)) h2 hb hlim'
     ·rw [if_neg (by simp; omega),if_neg h4,sub d4 (mid + 1) b h3 h2 hb (by omega)]
      simp only [Option.bind_some]
      rw [show decide (((b - mid:Nat):Int) ≥ (((b - a) / 8:Nat):Int))=decide (b - mid ≥ (b - a) / 8) from decide_eq_decide.2 (by omega)]
      exact ih (mid - a) (by omega) _ m _ a mid limit' _ ap (Nat.le_refl _) (by omega) (by omega) (pdq_sz _ _ _ _ _ _ _ (Nat.le_refl _) h3 h2 hb) h1 (by omega) hlim'
theorem Z0j {l:List Int} (hl:l.length≤1000000):Zc5 l.length l=some (l.mergeSort (fun x y=>decide (x≤y))):=by
 unfold Zc5
 rw [wu64 (by omega) (by omega),Len_eq (by omega)]
 simp only [Option.bind_some]
 have hb:Sort.bitsLen l.length<1000:=by
  have:=(Sort.bitsLen_le_iff l.length 63).2 (by omega)
  omega
 have hf:fuel=1180591620717411303423 + 1:=by kernel_rfl
 have e:=pdq_eq (n:=l.length) hl l.length 1180591620717411303423 fuel l.toArray 0 l.length (Sort.bitsLen l.length) true true (by omega) (by omega) (by unfold fuel; omega) (by simp) (by omega) (Nat.le_refl _) hb
 rw [show (Z1 fuel)=Z1 (1180591620717411303423 + 1) from by rw [← hf],Z1]
 rw [show ((0:Nat):Int)=0 from rfl,show l.toArray.toList=l from rfl] at e
 rw [e]
 simp only [Option.bind_some]
 rw [← Sort.sortInt l]
 unfold Sort.sort
 rw [show l.toArray.size=l.length from by simp]
end Go.AM
set_option maxRecDepth 100000
namespace Go.AM
open Go
def dd (l:List Int):List Int:=l.foldl (fun acc x=>if acc.getLast? = some x then acc else acc++[x]) []
theorem Zmt (l:List Int) (x:Int):dd (l++[x])=if (dd l).getLast? = some x then dd l else dd l++[x]:=by
 unfold dd; rw [List.foldl_append]; rfl
theorem Zlw {l:List Int} {k:Nat} (h:k<l.length):l.take (k + 1)=l.take k++[l[k]]:=by
 rw [List.take_add_one,List.getElem?_eq_getElem h]; rfl
theorem Zm9 {p:List Int→Prop} (h0:p []) (h1:∀ l x,p l→p (l++[x])) (l:List Int):p l:=by
 have key:∀ n (l:List Int),l.length=n→p l:=by
  intro n
  induction n with
  | zero=>intro l hl; rw [List.length_eq_zero_iff.1 hl]; exact h0
  | succ n ih=>
   intro l hl
   rcases List.eq_nil_or_concat l with rfl | ⟨m,x,rfl⟩
   ·exact h0
   ·rw [List.concat_eq_append] at hl ⊢
    exact h1 _ _ (ih m (by simpa using hl))
 exact key _ l rfl
theorem Zs2 (l:List Int):(dd l).getLast? = l.getLast?:=by
 refine Zm9 (p:=fun l=>(dd l).getLast? = l.getLast?) rfl (fun l x ih=>?_) l
 rw [Zmt]
 split
 ·rename_i h; rw [h]; simp
 ·simp
theorem dd_mem (l:List Int) (z:Int):z∈dd l ↔ z∈l:=by
 refine Zm9 (p:=fun l=>z∈dd l ↔ z∈l) (Iff.rfl) (fun l x ih=>?_) l
 rw [Zmt]
 split
 ·rename_i h
  have hx:=List.mem_of_getLast? h
  rw [List.mem_append,← ih,List.mem_singleton]
  exact⟨Or.inl,fun h=>h.elim id fun e=>e ▸ hx⟩
 ·rw [List.mem_append,List.mem_append,ih]
theorem dd_len (l:List Int):(dd l).length≤l.length:=by
 refine Zm9 (p:=fun l=>(dd l).length≤l.length) (Nat.le_refl _) (fun l x ih=>?_) l
 rw [Zmt]
 split <;> simp <;> omega
theorem Zyd (l:List Int):l.Pairwise (·≤·)→(dd l).Pairwise (·<·):=by
 refine Zm9 (p:=fun l=>l.Pairwise (·≤·)→(dd l).Pairwise (·<·)) (fun _=>List.Pairwise.nil) (fun l x ih hp=>?_) l
 rw [List.pairwise_append] at hp
 obtain⟨h1,_,h3⟩:=hp
 have hd:=ih h1
 rw [Zmt]
 split
 ·exact hd
 ·rename_i hne
  rw [List.pairwise_append]
  refine⟨hd,List.pairwise_singleton _ _,fun a ha b hb=>?_⟩
  rw [List.mem_singleton] at hb
  subst hb
  have hle:=h3 a ((dd_mem l a).1 ha) b (List.mem_singleton.2 rfl)
  rcases Int.lt_or_eq_of_le hle with h | h
  ·exact h
  ·exfalso
   subst h
   rw [Zs2] at hne
   cases hl:l.getLast? with
   | none=>rw [List.getLast?_eq_none_iff] at hl; subst hl; simp [dd] at ha
   | some z=>
    have hz:z∈dd l:=(dd_mem l z).2 (List.mem_of_getLast? hl)
    have hza:=h3 z (List.mem_of_getLast? hl) a (List.mem_singleton.2 rfl)
    have hlast:(dd l).getLast? = some z:=by rw [Zs2,hl]
    have hle2:a≤z:=by
     obtain⟨m,hm⟩:=List.getLast?_eq_some_iff.1 hlast
     rw [hm] at ha hd
     rw [List.mem_append] at ha
     rcases ha with ha | ha
     ·rw [List.pairwise_append] at hd
      exact Int.le_of_lt (hd.2.2 a ha z (List.mem_singleton.2 rfl))
     ·rw [List.mem_singleton] at ha; omega
    have:z=a:=by omega
    subst this
    exact hne hl
theorem Zox {l:List Int} {n i:Nat} (hn:l.length=n) (h:i<n):idxn n l (i:Int)=some (l[i]'(by omega)):=by
 unfold idxn
 rw [if_pos ⟨by omega,by omega⟩,Zaf (by omega)]
theorem Zwt {l:List Int} {k:Nat} (h0:0<k) (h:k<l.length):dd (l.take (k + 1))=if l[k - 1]=l[k] then dd (l.take k) else dd (l.take k)++[l[k]]:=by
 rw [Zlw h,Zmt,Zs2]
 have:(l.take k).getLast? = some (l[k - 1]):=by
  obtain⟨k,rfl⟩:∃ k',k=k' + 1:=⟨k - 1,by omega⟩
  rw [Zlw (by omega),List.getLast?_append]; simp
 rw [this]
 simp only [Option.some.injEq]
theorem Zzf {l:List Int} {n v1:Nat} (hn:l.length=n) (hB:n≤1000000) (h1:0<v1) (hv:v1<n):∀(k i w m:Nat) (v:List Int),v.length=n→n - (v1 + i)=k→k<m→0<i→v1 + i≤n→w≤v1 + i - 1 →
  v.take w=dd (l.take (v1 + i))→v.drop (v1 + i - 1)=l.drop (v1 + i - 1) →
  ∃ v' w',Za1 n (v1:Int) m v (w:Int) (i:Int)=some (v',((w':Nat):Int))∧v'.length=n∧w'≤n∧v'.take w'=dd l:=by
 intro k
 induction k with
 | zero=>
  intro i w m v hl hk hm hi hle hw ht hdr
  cases m with
  | zero=>omega
  | succ m=>
  rw [Za1]
  simp only [Int.toNat_natCast]
  rw [if_neg (by simp; omega)]
  refine⟨v,w,rfl,hl,by omega,?_⟩
  rw [ht,List.take_of_length_le (by omega)]
 | succ k ih=>
  intro i w m v hl hk hm hi hle hw ht hdr
  cases m with
  | zero=>omega
  | succ m=>
  have gt:∀ q,v1 + i - 1≤q→(hq:q<n)→v[q]'(by omega)=l[q]'(by omega):=fun q hq1 hq=>by
   have h2:(v.drop (v1 + i - 1))[q - (v1 + i - 1)]? = (l.drop (v1 + i - 1))[q - (v1 + i - 1)]?:=by rw [hdr]
   rw [List.getElem?_drop,List.getElem?_drop,show v1 + i - 1 + (q - (v1 + i - 1))=q by omega,List.getElem?_eq_getElem (by omega),List.getElem?_eq_getElem (by omega)] at h2
   exact Option.some.inj h2
  have iv:∀ q:Nat,(hq:v1 + q<n)→idxv (n - v1) v (v1:Int) (q:Int)=some (v[v1 + q]'(by omega)):=fun q hq=>by
   unfold idxv
   rw [if_pos ⟨by omega,by omega⟩,show (v1:Int) + (q:Int)=((v1 + q:Nat):Int) by omega,Zaf (by omega)]
  have hx:=gt (v1 + i) (by omega) (by omega)
  have hy:=gt (v1 + i - 1) (Nat.le_refl _) (by omega)
  obtain⟨i',rfl⟩:∃ i',i=i' + 1:=⟨i - 1,by omega⟩
  have hy':v[v1 + i']'(by omega)=l[v1 + i']'(by omega):=hy
  have ds:=Zwt (l:=l) (k:=v1 + (i' + 1)) (by omega) (by omega)
  rw [Za1]
  simp only [Int.toNat_natCast]
  rw [if_pos (decide_eq_true (by omega)),iv (i' + 1) (by omega),wpred (by omega),iv i' (by omega)]
  simp only [Option.bind_some,hx,hy']
  simp only [show v1 + (i' + 1) - 1=v1 + i' by omega] at ds
  by_cases he:l[v1 + (i' + 1)]'(by omega)=l[v1 + i']'(by omega)
  ·rw [if_neg (by simp [he])]
   simp only [Option.bind_some]
   rw [wsuc (by omega)]
   refine ih (i' + 1 + 1) w m v hl (by omega) (by omega) (by omega) (by omega) (by omega) ?_ ?_
   ·rw [ht,show v1 + (i' + 1 + 1)=v1 + (i' + 1) + 1 by omega,ds,if_pos he.symm]
   ·rw [show v1 + (i' + 1 + 1) - 1=(v1 + (i' + 1) - 1) + 1 by omega,← List.drop_drop,← List.drop_drop,hdr]
  ·rw [if_pos (by simpa using he),Zox hl (show w<n by omega)]
   simp only [Option.bind_some]
   rw [wsuc (by omega),wsuc (by omega)]
   refine ih (i' + 1 + 1) (w + 1) m _ (by rw [List.length_set,hl]) (by omega) (by omega) (by omega) (by omega) (by omega) ?_ ?_
   ·rw [show v1 + (i' + 1 + 1)=v1 + (i' + 1) + 1 by omega,ds,if_neg (fun h=>he h.symm),← ht]
    rw [Zlw (by rw [List.length_set]; omega),List.getElem_set_self,List.take_set_of_le (Nat.le_refl _)]
   ·rw [show v1 + (i' + 1 + 1) - 1=v1 + (i' + 1) by omega,List.drop_set_of_lt (by omega)]
    rw [show v1 + (i' + 1)=(v1 + (i' + 1) - 1) + 1 by omega,← List.drop_drop,← List.drop_drop,hdr]
theorem Zzg {l:List Int} {n:Nat} (hn:l.length=n) (hB:n≤1000000):∀(k i m:Nat),n - i=k→k<m→0<i→i≤n→dd (l.take i)=l.take i →
  ∃ o,Za2 n l m (i:Int)=some o∧((o=.inl ()∧dd l=l)∨∃ w v,o=.inr (w,v)∧v.length=n∧w≤n∧v.take w=dd l):=by
 intro k
 induction k with
 | zero=>
  intro i m hk hm h0 hi hd
  cases m with
  | zero=>omega
  | succ m=>
  rw [Za2,if_neg (by simp; omega)]
  rw [List.take_of_length_le (by omega)] at hd
  exact⟨_,rfl,Or.inl ⟨rfl,hd⟩⟩
 | succ k ih=>
  intro i m hk hm h0 hi hd
  cases m with
  | zero=>omega
  | succ m=>
  have ds:=Zwt (l:=l) h0 (by omega)
  rw [Za2,if_pos (decide_eq_true (by omega)),Zox hn (show i<n by omega)]
  obtain⟨i',rfl⟩:∃ i',i=i' + 1:=⟨i - 1,by omega⟩
  rw [wpred (by omega),Zox hn (show i'<n by omega)]
  simp only [Option.bind_some,Nat.add_sub_cancel] at ds ⊢
  by_cases he:l[i' + 1]'(by omega)=l[i']'(by omega)
  ·rw [if_pos (by simpa using he),if_pos ⟨by omega,by omega,by omega⟩]
   obtain⟨v,w,e,g1,g2,g3⟩:=Zzf hn hB (show 0<i' + 1 by omega) (by omega) (n - (i' + 1 + 1)) 1 (i' + 1) fuel l hn rfl (by unfold fuel; omega) (by omega) (by omega) (by omega) (by rw [ds,if_pos he.symm,hd]) rfl
   rw [show ((1:Nat):Int)=1 from rfl] at e
   rw [e]
   simp only [Option.bind_some,Int.toNat_natCast]
   rw [if_pos ⟨by omega,by omega,by omega⟩,if_pos (by omega),if_pos ⟨by omega,by omega,by omega⟩]
   refine⟨_,rfl,Or.inr ⟨w,_,rfl,?_,g2,?_⟩⟩
   ·simp only [List.length_append,List.length_take,List.length_replicate,List.length_drop]; omega
   ·rw [List.append_assoc,List.take_append_of_le_length (by rw [List.length_take]; omega),List.take_take,Nat.min_self,g3]
  ·rw [if_neg (by simpa using he),wsuc (by omega)]
   refine ih (i' + 1 + 1) m (by omega) (by omega) (by omega) (by omega) ?_
   rw [ds,if_neg (fun h=>he h.symm),hd,← Zlw]
theorem Zxm {l:List Int} (hB:l.length≤1000000):∃ w v,Zcr l.length l=some (w,v)∧v.length=l.length∧w≤l.length∧v.take w=dd l:=by
 unfold Zcr
 by_cases h:l.length<2
 ·rw [if_pos (decide_eq_true (by omega))]
  refine⟨_,_,rfl,rfl,Nat.le_refl _,?_⟩
  rw [List.take_length]
  rcases l with _ | ⟨a,_ | ⟨b,l⟩⟩
  ·rfl
  ·rfl
  ·simp at h; omega
 ·rw [if_neg (by simp; omega)]
  have h1:dd (l.take 1)=l.take 1:=by
   rcases l with _ | ⟨a,l⟩
   ·rfl
   ·rfl
  obtain⟨o,e,ho⟩:=Zzg rfl hB (l.length - 1) 1 fuel rfl (by unfold fuel; omega) (by omega) (by omega) h1
  rw [show ((1:Nat):Int)=1 from rfl] at e
  rw [e]
  rcases ho with ⟨rfl,hd⟩ | ⟨w,v,rfl,g1,g2,g3⟩
  ·exact⟨_,_,rfl,rfl,Nat.le_refl _,by rw [List.take_length,hd]⟩
  ·exact⟨w,v,rfl,g1,g2,g3⟩
end Go.AM
set_option maxRecDepth 100000
namespace Go.AM
open Go
def hv (h:Zo):Arr5 Int:=⟨h.Src,h.Dst,h.Proto,h.SrcPort,h.DstPort⟩
theorem Zq1 {h:Zo} (hh:Zaq h):Zfx h=some (hv h):=by
 obtain⟨h1,h2,h3,h4,h5,_⟩:=hh
 unfold ok_u8 at h3; unfold Zim at h4 h5
 simp only [Zfx,hv]
 rw [wu32 (x:=h.Proto) (by omega) (by omega),wu32 (x:=h.SrcPort) (by omega) (by omega),wu32 (x:=h.DstPort) (by omega) (by omega)]
theorem Ztn {h:Zo} (hh:Zaq h):Zhu h=some (hv h):=Zq1 hh
def outB (b:Arr5 Zb) (v:Arr5 Int) (k:Int):Bool:=decide (v.get k<(b.get k).Lo) || decide (v.get k > (b.get k).Hi)
def allF (f:Int→Bool):Bool:=!(f 0 || f 1 || f 2 || f 3 || f 4)
def cB (b:Arr5 Zb) (h:Zo):Bool:=vB b && allF (outB b (hv h))
theorem cstep1 (b:Arr5 Zb) (v:Arr5 Int) (n:Nat) (k:Int) (h0:0≤k) (h1:k<5):Zdf b v (n + 1) k=if outB b v k=true then some (.inr false) else Zdf b v n (k + 1):=by
 rw [Zdf]
 simp only [show k<5 from h1,decide_true,if_true,show 0≤k∧k<5 from ⟨h0,h1⟩,and_self,Option.bind_some,wnext h0 (by omega:k<1000000)]
 unfold outB
 cases decide (v.get k<(b.get k).Lo) <;> simp
theorem cstep2 (b:Arr5 Zb) (v:Arr5 Int) (n:Nat) (k:Int) (h0:0≤k) (h1:k<5):Zci b v (n + 1) k=if outB b v k=true then some (.inr false) else Zci b v n (k + 1):=by
 rw [Zci]
 simp only [show k<5 from h1,decide_true,if_true,show 0≤k∧k<5 from ⟨h0,h1⟩,and_self,Option.bind_some,wnext h0 (by omega:k<1000000)]
 unfold outB
 cases decide (v.get k<(b.get k).Lo) <;> simp
theorem Zp0 {h:Zo} (hh:Zaq h) (b:Arr5 Zb):Zgd b h=some (cB b h):=by
 unfold Zgd cB
 rw [Zm7,Ztn hh]
 simp only [Option.bind_some]
 rw [Ztl (bad:=outB b (hv h)) (cstep1 b (hv h)) (fun n=>by rw [Zdf]; rfl)]
 cases vB b
 ·rfl
 ·unfold allF
  cases (outB b (hv h) 0 || outB b (hv h) 1 || outB b (hv h) 2 || outB b (hv h) 3 || outB b (hv h) 4) <;> rfl
theorem Zva {h:Zo} (hh:Zaq h) (b:Arr5 Zb):Zfn b h=some (cB b h):=by
 unfold Zfn cB
 rw [Zq1 hh]
 simp only [Option.bind_some]
 rw [Ztl (bad:=outB b (hv h)) (cstep2 b (hv h)) (fun n=>by rw [Zci]; rfl),Zke]
 unfold allF
 cases (outB b (hv h) 0 || outB b (hv h) 1 || outB b (hv h) 2 || outB b (hv h) 3 || outB b (hv h) 4) <;> cases vB b <;> rfl
def zb5:Arr5 Zb:=⟨⟨0,0⟩,⟨0,0⟩,⟨0,0⟩,⟨0,0⟩,⟨0,0⟩⟩
def ixr (a b:Zb):Zb:=⟨iMax a.Lo b.Lo,iMin a.Hi b.Hi⟩
def isect (a b:Arr5 Zb):Arr5 Zb:=⟨ixr a.x0 b.x0,ixr a.x1 b.x1,ixr a.x2 b.x2,ixr a.x3 b.x3,ixr a.x4 b.x4⟩
def xB (a b:Arr5 Zb):Arr5 Zb × Bool:=if (vB a && vB b && vB (isect a b))=true then (isect a b,true) else (zb5,false)
theorem Zye (z a b:Arr5 Zb):(((((z.set 0 (ixr (a.get 0) (b.get 0))).set 1 (ixr (a.get 1) (b.get 1))).set 2 (ixr (a.get 2) (b.get 2))).set 3 (ixr (a.get 3) (b.get 3))).set 4 (ixr (a.get 4) (b.get 4)))=isect a b:=rfl
theorem Zub (a b:Arr5 Zb):Zfb a b=some (xB a b):=by
 unfold Zfb xB
 have h1:Zb7 a b fuel Zn 0=some (isect a b):=by
  rw [Zor (L:=Zb7 a b) (f:=fun s k=>Arr5.set s k (ixr (a.get k) (b.get k))) (fin:=id) (fun n s k h0 h1=>by
   rw [Zb7]
   simp only [show k<5 from h1,decide_true,if_true,show 0≤k∧k<5 from ⟨h0,h1⟩,and_self,wnext h0 (by omega:k<1000000)]
   rfl) (fun n s=>by rw [Zb7]; rfl)]
  rw [Zye]; rfl
 rw [h1]
 simp only [Option.bind_some]
 rw [Zke,Zke,Zke]
 cases vB a <;> cases vB b <;> cases vB (isect a b) <;> rfl
def difM (m:Zkz) (k:Int):Bool:=(IntKind.wrap .u32 ((m.From.get k).Hi - (m.From.get k).Lo)) != (IntKind.wrap .u32 ((m.To.get k).Hi - (m.To.get k).Lo))
def vM (m:Zkz):Bool:=vB m.From && vB m.To && allF (difM m)
def orN (o:Option Int):Int:=match o with | some r=>r | none=>-1
end Go.AM
set_option maxRecDepth 100000
namespace Go.AM
open Go
def hdr (v:Arr5 Int):Zo:=⟨v.x0,v.x1,v.x2,v.x3,v.x4⟩
structure VOk (v:Arr5 Int):Prop where
 h0:0≤v.x0∧v.x0≤4294967295
 h1:0≤v.x1∧v.x1≤4294967295
 h2:0≤v.x2∧v.x2≤255
 h3:0≤v.x3∧v.x3≤65535
 h4:0≤v.x4∧v.x4≤65535
theorem wu8 {x:Int} (h0:0≤x) (h1:x<256):IntKind.wrap .u8 x=x:=by
 rw [wrap_u .u8 8 rfl rfl]; omega
theorem wu16 {x:Int} (h0:0≤x) (h1:x<65536):IntKind.wrap .u16 x=x:=by
 rw [wrap_u .u16 16 rfl rfl]; omega
theorem hv_ok {h:Zo} (hh:Zaq h):VOk (hv h):=by
 obtain⟨h1,h2,h3,h4,h5,_⟩:=hh
 unfold Zja at h1 h2; unfold ok_u8 at h3; unfold Zim at h4 h5
 exact⟨⟨h1.1,by simp only [hv]; omega⟩,⟨h2.1,by simp only [hv]; omega⟩,⟨h3.1,by simp only [hv]; omega⟩,⟨h4.1,by simp only [hv]; omega⟩,⟨h5.1,by simp only [hv]; omega⟩⟩
theorem hdr_ok {v:Arr5 Int} (h:VOk v):Zaq (hdr v):=by
 obtain⟨h0,h1,h2,h3,h4⟩:=h
 refine⟨?_,?_,?_,?_,?_,trivial⟩
 ·unfold Zja; simp only [hdr]; omega
 ·unfold Zja; simp only [hdr]; omega
 ·unfold ok_u8; simp only [hdr]; omega
 ·unfold Zim; simp only [hdr]; omega
 ·unfold Zim; simp only [hdr]; omega
theorem Zyf {v:Arr5 Int} (h:VOk v):Zoa v=some (hdr v):=by
 obtain⟨h0,h1,h2,h3,h4⟩:=h
 simp only [Zoa,hdr]
 rw [wu8 h2.1 (by omega),wu16 h3.1 (by omega),wu16 h4.1 (by omega)]
theorem Zxn {v:Arr5 Int} (h:VOk v):Zgf v=some (hdr v):=Zyf h
theorem VOk.set {v:Arr5 Int} (h:VOk v) {k x:Int} (h0:0≤k) (h1:k<5) (hx0:0≤x) (hx:x≤topOf k):VOk (v.set k x):=by
 obtain⟨g0,g1,g2,g3,g4⟩:=h
 rcases five h0 h1 with rfl | rfl | rfl | rfl | rfl
 ·exact⟨⟨hx0,hx⟩,g1,g2,g3,g4⟩
 ·exact⟨g0,⟨hx0,hx⟩,g2,g3,g4⟩
 ·exact⟨g0,g1,⟨hx0,hx⟩,g3,g4⟩
 ·exact⟨g0,g1,g2,⟨hx0,hx⟩,g4⟩
 ·exact⟨g0,g1,g2,g3,⟨hx0,hx⟩⟩
theorem VOk.get {v:Arr5 Int} (h:VOk v) {k:Int} (h0:0≤k) (h1:k<5):0≤v.get k∧v.get k≤topOf k:=by
 obtain⟨g0,g1,g2,g3,g4⟩:=h
 rcases five h0 h1 with rfl | rfl | rfl | rfl | rfl
 ·exact g0
 ·exact g1
 ·exact g2
 ·exact g3
 ·exact g4
theorem vB_get {b:Arr5 Zb} (h:BIn b) (hv:vB b=true) {k:Int} (h0:0≤k) (h1:k<5):0≤(b.get k).Lo∧(b.get k).Lo≤(b.get k).Hi∧(b.get k).Hi≤topOf k:=by
 obtain⟨g0,g1,g2,g3,g4⟩:=vB_ok h hv
 rcases five h0 h1 with rfl | rfl | rfl | rfl | rfl
 ·exact⟨g0.h0,g0.h1,g0.h2⟩
 ·exact⟨g1.h0,g1.h1,g1.h2⟩
 ·exact⟨g2.h0,g2.h1,g2.h2⟩
 ·exact⟨g3.h0,g3.h1,g3.h2⟩
 ·exact⟨g4.h0,g4.h1,g4.h2⟩
structure MIn (m:Zkz):Prop where
 f:BIn m.From
 t:BIn m.To
theorem Zvb {k:Int} (h0:0≤k) (h1:k<5):0≤topOf k∧topOf k≤4294967295:=by
 rcases five h0 h1 with rfl | rfl | rfl | rfl | rfl <;> decide
def ofB (v:Arr5 Int):Arr5 Zb:=⟨⟨v.x0,v.x0⟩,⟨v.x1,v.x1⟩,⟨v.x2,v.x2⟩,⟨v.x3,v.x3⟩,⟨v.x4,v.x4⟩⟩
theorem rOf_eq {h:Zo} (hh:Zaq h):Zhv h=some (ofB (hv h)):=by
 unfold Zhv
 rw [Zq1 hh]
 simp only [Option.bind_some]
 rw [Zor (L:=Zey (hv h)) (f:=fun s k=>Arr5.set s k ⟨(hv h).get k,(hv h).get k⟩) (fin:=id) (fun n s k h0 h1=>by
  rw [Zey]
  simp only [show k<5 from h1,decide_true,if_true,show 0≤k∧k<5 from ⟨h0,h1⟩,and_self,wnext h0 (by omega:k<1000000)]) (fun n s=>by rw [Zey]; rfl)]
 rfl
end Go.AM
set_option maxRecDepth 100000
namespace Go.AM
open Go
abbrev Bx:=Arr5 Zb
def toL (b:Bx):List Zb:=[b.x0,b.x1,b.x2,b.x3,b.x4]
def sf (f:Nat) (b:Bx):List Zb:=(toL b).drop f
def zr:Zb:=⟨0,0⟩
def ofL:List Zb→Bx
 | [a,b,c,d,e]=>⟨a,b,c,d,e⟩
 | _=>⟨zr,zr,zr,zr,zr⟩
def pad (f:Nat) (l:List Zb):Bx:=ofL (List.replicate f zr++l)
def tops5:List Int:=[4294967295,4294967295,255,65535,65535]
theorem fiveN {f:Nat} (h:f<5):f=0∨f=1∨f=2∨f=3∨f=4:=by omega
theorem Zmu {f:Nat} (h:f<5) (b:Bx):sf f b=b.get (f:Int) :: sf (f + 1) b:=by
 rcases fiveN h with rfl | rfl | rfl | rfl | rfl <;> rfl
theorem sf_len {f:Nat} (h:f≤5) (b:Bx):(sf f b).length=5 - f:=by unfold sf toL; rw [List.length_drop]; rfl
theorem Zoy {f:Nat} (h:f<5):tops5.drop f=topOf (f:Int) :: tops5.drop (f + 1):=by
 rcases fiveN h with rfl | rfl | rfl | rfl | rfl <;> rfl
theorem len4 {l:List Zb} {n:Nat} (h:l.length=n):match n with
  | 0=>l=[]
  | 1=>∃ a,l=[a]
  | 2=>∃ a b,l=[a,b]
  | 3=>∃ a b c,l=[a,b,c]
  | 4=>∃ a b c d,l=[a,b,c,d]
  | 5=>∃ a b c d e,l=[a,b,c,d,e]
  | _=>True:=by
 subst h
 rcases l with _ | ⟨a,_ | ⟨b,_ | ⟨c,_ | ⟨d,_ | ⟨e,_ | ⟨g,l⟩⟩⟩⟩⟩⟩
 ·exact rfl
 ·exact⟨_,rfl⟩
 ·exact⟨_,_,rfl⟩
 ·exact⟨_,_,_,rfl⟩
 ·exact⟨_,_,_,_,rfl⟩
 ·exact⟨_,_,_,_,_,rfl⟩
 ·exact trivial
theorem Zo7 {f:Nat} (h:f<5) {l:List Zb} (hl:l.length=4 - f) (r:Zb):(pad (f + 1) l).set (f:Int) r=pad f (r :: l):=by
 have h1:=len4 hl
 rcases fiveN h with rfl | rfl | rfl | rfl | rfl
 ·obtain⟨a,b,c,d,rfl⟩:=h1; rfl
 ·obtain⟨a,b,c,rfl⟩:=h1; rfl
 ·obtain⟨a,b,rfl⟩:=h1; rfl
 ·obtain⟨a,rfl⟩:=h1; rfl
 ·cases h1; rfl
theorem Zwu {l:List Zb} (h:l.length=5):toL (ofL l)=l:=by
 obtain⟨a,b,c,d,e,rfl⟩:=len4 h
 rfl
theorem Zo8 (b:Bx):ofL (toL b)=b:=rfl
theorem sf_pad {f:Nat} (h:f≤5) {l:List Zb} (hl:l.length=5 - f):sf f (pad f l)=l:=by
 unfold sf pad
 rw [Zwu (by simp; omega),List.drop_left' (by simp)]
theorem Z0k {b b':Bx} (h:toL b=toL b'):b=b':=by rw [← Zo8 b,h,Zo8]
instance decBx:DecidableEq Bx:=fun a b=>if h:toL a=toL b then .isTrue (Z0k h) else .isFalse fun e=>h (by rw [e])
theorem eq_rg (a b:Zb):Zex a b=decide (a=b):=by
 obtain⟨a1,a2⟩:=a
 obtain⟨b1,b2⟩:=b
 simp only [Zex,Bool.and_true,Zb.mk.injEq]
 rw [Bool.eq_iff_iff]; simp
theorem eq_bx (a b:Bx):Zfv a b=decide (a=b):=by
 obtain⟨a0,a1,a2,a3,a4⟩:=a
 obtain⟨b0,b1,b2,b3,b4⟩:=b
 simp only [Zfv,Bool.and_true,eq_rg,Arr5.mk.injEq]
 rw [Bool.eq_iff_iff]; simp
theorem Zq2 {α:Type} [DecidableEq α]:∀(l pre b:List α),l.length + pre.length=b.length→findI (fun i x=>if b[i]? = some x then none else some false) pre.length l=if l=b.drop pre.length then none else some false
 | [],pre,b,h=>by simp at h; rw [h]; simp [findI]
 | x :: l,pre,b,h=>by
  simp only [List.length_cons] at h
  have hi:pre.length<b.length:=by omega
  rw [List.drop_eq_getElem_cons hi]
  simp only [findI,List.getElem?_eq_getElem hi,List.cons.injEq,Option.some.injEq]
  by_cases e:b[pre.length]=x
  ·rw [if_pos e]
   simp only [e,true_and]
   have:=Zq2 l (pre++[x]) b (by simp; omega)
   simp only [List.length_append,List.length_singleton] at this
   exact this
  ·rw [if_neg e,if_neg (fun h=>e h.1.symm)]
theorem Zvc {a b:List Bx} (ha:a.length≤1000000000000):Zan a b=some (decide (a=b)):=by
 unfold Zan
 by_cases hl:a.length=b.length
 ·rw [if_neg (by simp [hl])]
  rw [Zh3 (L:=Za0 a b) a (fun i x=>if b[i]? = some x then none else some false) ha (fun n i hi=>by
   have hj:i<b.length:=by omega
   rw [Za0]
   simp only [show ((i:Int)<(a.length:Int)) from by omega,decide_true,if_true,Zaf hi,Zaf hj,Option.bind_some,eq_bx,wsucc (by omega:i<1000000000001),List.getElem?_eq_getElem hj,Option.some.injEq]
   by_cases e:a[i]=b[i]
   ·simp [e]
   ·rw [if_neg (show ¬ b[i]=a[i] from fun h=>e h.symm)]; simp [e]) (fun n=>by rw [Za0]; simp)]
  have:=Zq2 a [] b (by simpa using hl)
  simp only [List.length_nil,List.drop_zero] at this
  rw [this]
  by_cases e:a=b
  ·simp [e,orS]
  ·simp [e,orS]
 ·rw [if_pos (by simp; omega)]
  rw [decide_eq_false (fun e=>hl (by rw [e]))]
theorem Zwv {a b:List Bx} (ha:a.length≤1000000000000):Zge a b=some (decide (a=b)):=by
 unfold Zge
 by_cases hl:a.length=b.length
 ·rw [if_neg (by simp [hl])]
  rw [Zh3 (L:=Zd4 a b) a (fun i x=>if b[i]? = some x then none else some false) ha (fun n i hi=>by
   have hj:i<b.length:=by omega
   rw [Zd4]
   simp only [show ((i:Int)<(a.length:Int)) from by omega,decide_true,if_true,Zaf hi,Zaf hj,Option.bind_some,eq_bx,wsucc (by omega:i<1000000000001),List.getElem?_eq_getElem hj,Option.some.injEq]
   by_cases e:a[i]=b[i]
   ·simp [e]
   ·rw [if_neg (show ¬ b[i]=a[i] from fun h=>e h.symm)]; simp [e]) (fun n=>by rw [Zd4]; simp)]
  have:=Zq2 a [] b (by simpa using hl)
  simp only [List.length_nil,List.drop_zero] at this
  rw [this]
  by_cases e:a=b
  ·simp [e,orS]
  ·simp [e,orS]
 ·rw [if_pos (by simp; omega)]
  rw [decide_eq_false (fun e=>hl (by rw [e]))]
def cov (a:List Bx) (f v:Int):List Bx:=a.filter fun b=>inR v (b.get f)
theorem Zjn {α:Type} (p:α→Bool):∀(l acc:List α) (i:Nat),foldI (fun s _ x=>if p x=true then s++[x] else s) acc i l=acc++l.filter p
 | [],acc,i=>by simp [foldI]
 | x :: xs,acc,i=>by
  simp only [foldI,List.filter_cons]
  rw [Zjn p xs]
  cases p x <;> simp
theorem inR_eq (v:Int) (r:Zb):inR v r=(decide (r.Lo≤v) && decide (v≤r.Hi)):=rfl
theorem Zp1 {a:List Bx} (ha:a.length≤2000000000) {f:Int} (h0:0≤f) (h1:f<5) (v:Int):Zbw a f v=some (cov a f v):=by
 unfold Zbw
 have:=Zc7 (L:=Zcm a f v) a (fun s _ x=>if inR v (x.get f)=true then s++[x] else s) id (fun i s=>s.length≤i) (by omega) (fun n s i hi hs=>by
  rw [Zcm]
  simp only [show ((i:Int)<(a.length:Int)) from by omega,decide_true,if_true,Zaf hi,Option.bind_some,wsucc (by omega:i<1000000000001),List.length_singleton]
  rw [if_pos ⟨h0,h1⟩,inR_eq]
  rw [if_pos (show s.length + 1≤lim by unfold lim; omega)]
  cases decide (((a[i]).get f).Lo≤v) <;> cases decide (v≤((a[i]).get f).Hi) <;> simp [h0,h1] <;> omega) (fun n s hs=>by rw [Zcm]; simp) [] (Nat.le_refl _)
 rw [this.1,Zjn]
 rfl
theorem at_eq {a:List Bx} (ha:a.length≤2000000000) {f:Int} (h0:0≤f) (h1:f<5) (v:Int) (hin:∀ b∈a,BIn b):Zhc a f v=some (cov a f v):=by
 unfold Zhc
 have:=Zc7 (L:=Zez a f v) a (fun s _ x=>if inR v (x.get f)=true then s++[x] else s) id (fun i s=>s.length≤i) (by omega) (fun n s i hi hs=>by
  rw [Zez]
  have hb:=(hin _ (List.getElem_mem hi)).get f
  have e1:IntKind.wrap .u64 ((a[i]).get f).Lo=((a[i]).get f).Lo:=wu64 hb.h0 (by have:=hb.h1; omega)
  have e2:IntKind.wrap .u64 ((a[i]).get f).Hi=((a[i]).get f).Hi:=wu64 hb.h2 (by have:=hb.h3; omega)
  simp only [show ((i:Int)<(a.length:Int)) from by omega,decide_true,if_true,Zaf hi,Option.bind_some,wsucc (by omega:i<1000000000001),List.length_singleton,e1,e2]
  rw [if_pos ⟨h0,h1⟩,inR_eq]
  rw [if_pos (show s.length + 1≤lim by unfold lim; omega)]
  cases decide (((a[i]).get f).Lo≤v) <;> cases decide (v≤((a[i]).get f).Hi) <;> simp [h0,h1] <;> omega) (fun n s hs=>by rw [Zez]; simp) [] (Nat.le_refl _)
 rw [this.1,Zjn]
 rfl
theorem Zww {f:Nat} (h:f<5) (a:List Bx) (v:Int):(cov a (f:Int) v).map (sf (f + 1))=atv (a.map (sf f)) v:=by
 induction a with
 | nil=>rfl
 | cons b a ih=>
  have e:atv ((b :: a).map (sf f)) v=(if inR v (b.get (f:Int)) then [sf (f + 1) b] else [])++atv (a.map (sf f)) v:=by
   rw [List.map_cons,Zmu h]; rfl
  rw [e,← ih]
  unfold cov
  rw [List.filter_cons]
  cases inR v (b.get (f:Int)) <;> simp
theorem Zo9 (a:List Bx) (f v:Int):(cov a f v).length≤a.length:=List.length_filter_le ..
theorem Z0l {a:List Bx} {f v:Int} {b:Bx} (h:b∈cov a f v):b∈a:=(List.mem_filter.1 h).1
theorem Zto (b:Bx):Zcy b=some (!vB b):=by
 unfold Zcy; rw [Zm7]; rfl
theorem Ztp {a:List Bx} (ha:a.length≤2000000000):Zfz a=some (a.filter vB):=by
 unfold Zfz
 have:=Zc7 (L:=Zdy a) a (fun s _ x=>if vB x=true then s++[x] else s) id (fun i s=>s.length≤i) (by omega) (fun n s i hi hs=>by
  rw [Zdy]
  simp only [show ((i:Int)<(a.length:Int)) from by omega,decide_true,if_true,Zaf hi,Option.bind_some,wsucc (by omega:i<1000000000001),List.length_singleton,Zke]
  rw [if_pos (show s.length + 1≤lim by unfold lim; omega)]
  cases vB a[i] <;> simp <;> omega) (fun n s hs=>by rw [Zdy]; simp) [] (Nat.le_refl _)
 rw [this.1,Zjn]
 rfl
theorem Zq3 {α:Type} {l:List α} {n i:Nat} (hn:l.length=n) (h:i<n):idxn n l (i:Int)=some (l[i]'(by omega)):=by
 unfold idxn
 rw [if_pos ⟨by omega,by omega⟩,Zaf (by omega)]
theorem Zzh {l:List Bx} {n:Nat} (hn:l.length=n) (hB:n≤2000000000):∀(k j w m:Nat) (v:List Bx),n - j=k→k<m→v.length=n→w<j→j≤n→v.take w=(l.take j).filter vB→v.drop j=l.drop j →
  ∃ v' w',Z4 n m v (w:Int) (j:Int)=some (v',((w':Nat):Int))∧v'.length=n∧w'≤n∧v'.take w'=l.filter vB:=by
 intro k
 induction k with
 | zero=>
  intro j w m v hk hm hv hw hj ht hd
  cases m with
  | zero=>omega
  | succ m=>
  rw [Z4,if_neg (by simp; omega)]
  refine⟨v,w,rfl,hv,by omega,?_⟩
  rw [ht,List.take_of_length_le (by omega)]
 | succ k ih=>
  intro j w m v hk hm hv hw hj ht hd
  cases m with
  | zero=>omega
  | succ m=>
  have hjn:j<n:=by omega
  have hx:v[j]'(by omega)=l[j]'(by omega):=by
   have h2:(v.drop j)[0]? = (l.drop j)[0]?:=by rw [hd]
   rw [List.getElem?_drop,List.getElem?_drop,Nat.add_zero,List.getElem?_eq_getElem (by omega),List.getElem?_eq_getElem (by omega)] at h2
   exact Option.some.inj h2
  have tk:(l.take (j + 1)).filter vB=(l.take j).filter vB++if vB (l[j]'(by omega))=true then [l[j]'(by omega)] else []:=by
   rw [List.take_add_one,List.getElem?_eq_getElem (by omega),List.filter_append]
   congr 1
   simp only [Option.toList_some,List.filter_cons,List.filter_nil]
  rw [Z4]
  rw [if_pos (decide_eq_true (by omega)),Zq3 hv hjn]
  simp only [Option.bind_some,Zto,hx,Bool.not_not]
  by_cases hval:vB (l[j]'(by omega))=true
  ·rw [if_pos hval,Zq3 hv (by omega:w<n)]
   simp only [Option.bind_some,Int.toNat_natCast]
   rw [wsuc (by omega),wsuc (by omega)]
   refine ih (j + 1) (w + 1) m _ (by omega) (by omega) (by rw [List.length_set]; exact hv) (by omega) (by omega) ?_ ?_
   ·rw [tk,if_pos hval,← ht,List.take_add_one,List.getElem?_eq_getElem (by rw [List.length_set]; omega),List.getElem_set_self,List.take_set_of_le (Nat.le_refl _)]
    rfl
   ·rw [List.drop_set_of_lt (by omega),← List.drop_drop,hd,List.drop_drop]
  ·rw [if_neg hval]
   simp only [Option.bind_some]
   rw [wsuc (by omega)]
   refine ih (j + 1) w m v (by omega) (by omega) hv (by omega) (by omega) ?_ ?_
   ·rw [tk,if_neg hval,List.append_nil,ht]
   ·rw [← List.drop_drop,hd,List.drop_drop]
theorem Zp2 {α:Type} (p:α→Bool):∀(l:List α) (i:Nat),(findI (fun i x=>if p x=true then some ((i:Nat):Int) else none) i l=none∧∀ x∈l,p x=false) ∨
  ∃ j,findI (fun i x=>if p x=true then some ((i:Nat):Int) else none) i l=some ((i + j:Nat):Int)∧∃ h:j<l.length,p l[j]=true∧∀ x∈l.take j,p x=false
 | [],i=>Or.inl ⟨rfl,fun _ h=>(by cases h)⟩
 | x :: l,i=>by
  by_cases hx:p x=true
  ·exact Or.inr ⟨0,by simp only [findI,if_pos hx]; rfl,by simp,hx,fun _ h=>(by cases h)⟩
  ·rcases Zp2 p l (i + 1) with ⟨h1,h2⟩ | ⟨j,h1,h2,h3,h4⟩
   ·refine Or.inl ⟨by simp only [findI,if_neg hx,h1],fun y hy=>?_⟩
    rcases List.mem_cons.1 hy with rfl | hy
    ·simpa using hx
    ·exact h2 y hy
   ·refine Or.inr ⟨j + 1,by simp only [findI,if_neg hx,h1]; rw [show i + 1 + j=i + (j + 1) by omega],by simp only [List.length_cons]; omega,by simpa using h3,fun y hy=>?_⟩
    rw [List.take_succ_cons] at hy
    rcases List.mem_cons.1 hy with rfl | hy
    ·simpa using hx
    ·exact h4 y hy
theorem del_eq {l:List Bx} (hB:l.length≤2000000000):∃ w v,Zav l.length l=some (w,v)∧v.length=l.length∧w≤l.length∧v.take w=l.filter vB:=by
 unfold Zav Zbq
 rw [Zh3 (L:=Z5 l.length l) l (fun i x=>if (!vB x)=true then some ((i:Nat):Int) else none) (by omega) (fun n i hi=>by
  rw [Z5]
  simp only [show ((i:Int)<(l.length:Int)) from by omega,decide_true,if_true,Zq3 rfl hi,Option.bind_some,Zto,wsucc (by omega:i<1000000000001)]
  cases vB l[i] <;> rfl) (fun n=>by rw [Z5]; simp)]
 rcases Zp2 (fun x=>!vB x) l 0 with ⟨h1,h2⟩ | ⟨j,h1,h2,h3,h4⟩
 ·rw [h1]
  simp only [orS,Option.bind_some]
  rw [if_pos (by decide)]
  refine⟨_,_,rfl,rfl,Nat.le_refl _,?_⟩
  rw [List.take_length,List.filter_eq_self.2 fun x hx=>by simpa using h2 x hx]
 ·rw [h1]
  simp only [orS,Option.bind_some]
  rw [if_neg (by simp),Nat.zero_add,wsuc (by omega)]
  have tk:(l.take j).filter vB=l.take j:=List.filter_eq_self.2 fun x hx=>by simpa using h4 x hx
  obtain⟨v,w,e,g1,g2,g3⟩:=Zzh rfl hB (l.length - (j + 1)) (j + 1) j fuel l rfl (by unfold fuel; omega) rfl (by omega) (by omega) (by
   rw [List.take_add_one,List.filter_append,List.getElem?_eq_getElem h2,tk]
   have:vB l[j]=false:=by simpa using h3
   simp [this]) rfl
  rw [e]
  simp only [Option.bind_some,Int.toNat_natCast]
  rw [if_pos ⟨by omega,by omega,by omega⟩,if_pos (by omega),if_pos ⟨by omega,by omega,by omega⟩]
  refine⟨_,_,rfl,?_,g2,?_⟩
  ·simp only [List.length_append,List.length_take,List.length_replicate,List.length_drop]; omega
  ·rw [List.append_assoc,List.take_append_of_le_length (by rw [List.length_take]; omega),List.take_take,Nat.min_self,g3]
theorem Ztq {l:List Bx} (hB:l.length≤2000000000):Ze4 l=some (l.filter vB):=by
 unfold Ze4
 rw [if_pos (by unfold lim; omega)]
 cases l with
 | nil=>rfl
 | cons b l=>
  obtain⟨w,v,e,g1,g2,g3⟩:=del_eq hB
  rw [e]
  simp only [handB,Option.bind_some]
  rw [if_pos ⟨g1,by omega⟩]
  simp only [Option.bind_some,g3]
end Go.AM
set_option maxRecDepth 100000
namespace Go.AM
open Go
theorem Zwx {f:Nat} (h:f<5):Zhw (f:Int)=some (topOf (f:Int)):=by
 rcases fiveN h with rfl | rfl | rfl | rfl | rfl <;> rfl
theorem topN {f:Nat} (h:f<5):0≤topOf (f:Int)∧topOf (f:Int)≤4294967295:=Zvb (by omega) (by omega)
theorem BOk.at_ {b:Bx} (h:BOk b) {f:Nat} (hf:f<5):0≤(b.get (f:Int)).Lo∧(b.get (f:Int)).Lo≤(b.get (f:Int)).Hi∧(b.get (f:Int)).Hi≤topOf (f:Int):=
 vB_get h.bin (ok_vB h) (by omega) (by omega)
structure Pts (f:Nat) (l:List Bx) (ps:List Int):Prop where
 asc:ps.Pairwise (·<·)
 h0:∃ tl,ps=0 :: tl
 hl:ps.getLast? = some (topOf (f:Int) + 1)
 cut:∀ b∈l,(b.get (f:Int)).Lo∈ps∧(b.get (f:Int)).Hi + 1∈ps
 len:ps.length≤2 * l.length + 2
theorem Zvd {ps:List Int} (ha:ps.Pairwise (·<·)) {z:Int} (hz:z∈ps) (hb:∀ x∈ps,z≤x):∃ tl,ps=z :: tl:=by
 cases ps with
 | nil=>cases hz
 | cons p ps=>
  rcases List.mem_cons.1 hz with rfl | h
  ·exact⟨ps,rfl⟩
  ·have:=(List.pairwise_cons.1 ha).1 z h
   have:=hb p (List.mem_cons_self ..)
   omega
theorem Zzi {ps:List Int} (ha:ps.Pairwise (·<·)) {z:Int} (hz:z∈ps) (hb:∀ x∈ps,x≤z):ps.getLast? = some z:=by
 rcases List.eq_nil_or_concat ps with rfl | ⟨qs,p,rfl⟩
 ·cases hz
 ·rw [List.concat_eq_append] at *
  rw [List.getLast?_concat]
  rcases List.mem_append.1 hz with h | h
  ·have:=(List.pairwise_append.1 ha).2.2 z h p (List.mem_singleton.2 rfl)
   have:=hb p (List.mem_append_right _ (List.mem_singleton.2 rfl))
   omega
  ·rw [List.mem_singleton] at h; rw [h]
def rawC (f:Int) (l:List Bx):List Int:=l.flatMap fun b=>[(b.get f).Lo,(b.get f).Hi + 1]
theorem Zve (f:Int) (l:List Bx):(rawC f l).length=2 * l.length:=by
 induction l with
 | nil=>rfl
 | cons b l ih=>unfold rawC at *; rw [List.flatMap_cons,List.length_append,ih]; simp; omega
theorem Zvf {f:Nat} (hf:f<5) {l:List Bx} (hl:l.length≤400000) (hin:∀ b∈l,BOk b) (acc:List Int) (ha:acc.length≤1000000):Zcz (f:Int) l fuel acc 0=some (acc++rawC f l):=by
 have:=Zc7 (L:=Zcz (f:Int) l) l (fun s _ x=>s++[(x.get (f:Int)).Lo,(x.get (f:Int)).Hi + 1]) id (fun i s=>s.length≤1000000 + 2 * i) (by omega) (fun n s i hi hs=>by
  have hb:=(hin _ (List.getElem_mem hi)).at_ hf
  have ht:=topN hf
  rw [Zcz]
  simp only [show ((i:Int)<(l.length:Int)) from by omega,decide_true,if_true,Zaf hi,Option.bind_some,wsucc (by omega:i<1000000000001),List.length_cons,List.length_nil]
  rw [if_pos ⟨by omega,by omega⟩,if_pos ⟨by omega,by omega⟩,if_pos (show s.length + (0 + 1 + 1)≤lim by unfold lim; omega)]
  rw [wu64 (x:=((l[i]).get (f:Int)).Lo) (by omega) (by omega),wu64 (x:=((l[i]).get (f:Int)).Hi) (by omega) (by omega),wu64 (by omega) (by omega)]
  exact⟨rfl,by simp; omega⟩) (fun n s hs=>by rw [Zcz]; simp) acc (by omega)
 rw [this.1,Zr6]
 rfl
theorem Zzj {f:Nat} (hf:f<5) {a b:List Bx} (hl:a.length + b.length≤400000) (ha:∀ x∈a,BOk x) (hb:∀ x∈b,BOk x) (acc:List Int) (hacc:acc.length≤2):Zc0 (f:Int) [a,b] fuel acc 0=some (acc++rawC f (a++b)):=by
 obtain⟨m,hm⟩:=Zm8 2 (by omega)
 rw [hm]
 have i0:idx [a,b] (0:Int)=some a:=rfl
 have i1:idx [a,b] (0 + 1:Int)=some b:=rfl
 rw [Zc0,if_pos (by simp),i0]
 simp only [Option.bind_some]
 rw [Zvf hf (by omega) ha acc (by omega)]
 simp only [Option.bind_some]
 rw [wi64 (by omega) (by omega),Zc0,if_pos (by simp),i1]
 simp only [Option.bind_some]
 rw [Zvf hf (by omega) hb _ (by rw [List.length_append,Zve]; omega)]
 simp only [Option.bind_some]
 rw [wi64 (by omega) (by omega),Zc0,if_neg (by simp)]
 unfold rawC
 rw [List.flatMap_append,List.append_assoc]
theorem Z0m {f:Nat} (hf:f<5) {a b:List Bx} (hl:a.length + b.length≤400000) (ha:∀ x∈a,BOk x) (hb:∀ x∈b,BOk x):Ok (Zdx (f:Int) [a,b]) (Pts f (a++b)):=by
 have ht:=topN hf
 unfold Zdx
 rw [Zwx hf]
 simp only [Option.bind_some]
 rw [wu64 (x:=topOf (f:Int)) (by omega) (by omega),wu64 (by omega) (by omega),Zzj hf hl ha hb _ (by simp)]
 simp only [Option.bind_some]
 rw [if_pos (by simp)]
 have hlen:([0,topOf (f:Int) + 1]++rawC (f:Int) (a++b)).length=2 + 2 * (a++b).length:=by rw [List.length_append,Zve]; rfl
 have hab:(a++b).length=a.length + b.length:=List.length_append
 generalize hr:[0,topOf (f:Int) + 1]++rawC (f:Int) (a++b)=raw at hlen
 rw [Z0j (by omega)]
 simp only [Option.bind_some]
 rw [if_pos (List.length_mergeSort _)]
 have hms:(raw.mergeSort (fun x y=>decide (x≤y))).length=raw.length:=List.length_mergeSort _
 obtain⟨w,v,e,g1,g2,g3⟩:=Zxm (l:=raw.mergeSort (fun x y=>decide (x≤y))) (by omega)
 rw [e]
 have hb2:handB (raw.mergeSort (fun x y=>decide (x≤y))) (some (w,v)) Zcs=some (w,v):=by
  cases hq:raw.mergeSort (fun x y=>decide (x≤y)) with
  | nil=>rw [hq] at hms; simp at hms; omega
  | cons x l=>
   rw [hq] at g1 g2
   simp only [handB,Option.bind_some]
   rw [if_pos ⟨g1,by omega⟩]
 rw [hb2]
 simp only [Option.bind_some,g3]
 have hmem:∀ x,x∈dd (raw.mergeSort (fun x y=>decide (x≤y))) ↔ x∈raw:=fun x=>by rw [dd_mem,List.mem_mergeSort]
 have hasc:(dd (raw.mergeSort (fun x y=>decide (x≤y)))).Pairwise (·<·):=by
  refine Zyd _ ?_
  have:=List.pairwise_mergeSort (le:=fun x y:Int=>decide (x≤y)) (fun a b c h1 h2=>by simp only [decide_eq_true_eq] at *; omega) (fun a b=>by simp only [Bool.or_eq_true,decide_eq_true_eq]; omega) raw
  exact this.imp fun h=>by simpa using h
 have hrng:∀ x∈raw,0≤x∧x≤topOf (f:Int) + 1:=by
  intro x hx
  rw [← hr] at hx
  simp only [List.mem_append,List.mem_cons,List.not_mem_nil,or_false,rawC,List.mem_flatMap] at hx
  rcases hx with (rfl | rfl) | ⟨b',hb',rfl | rfl⟩
  ·omega
  ·omega
  ·have:=(hb'.elim (fun h=>ha b' h) (fun h=>hb b' h)).at_ hf; omega
  ·have:=(hb'.elim (fun h=>ha b' h) (fun h=>hb b' h)).at_ hf; omega
 refine Ok.ret ⟨hasc,Zvd hasc ((hmem 0).2 (by rw [← hr]; simp)) fun x hx=>(hrng x ((hmem x).1 hx)).1,Zzi hasc ((hmem _).2 (by rw [← hr]; simp)) fun x hx=>(hrng x ((hmem x).1 hx)).2,fun x hx=>⟨(hmem _).2 ?_,(hmem _).2 ?_⟩,?_⟩
 ·rw [← hr]; exact List.mem_append_right _ (List.mem_flatMap.2 ⟨x,hx,by simp⟩)
 ·rw [← hr]; exact List.mem_append_right _ (List.mem_flatMap.2 ⟨x,hx,by simp⟩)
 ·have:=dd_len (raw.mergeSort (fun x y=>decide (x≤y)))
  omega
theorem Zyg {f:Nat} (hf:f<5) {a b:List Bx} (hl:a.length + b.length≤400000):Zgg a b (f:Int)=some ((a++b).map fun x=>x.get (f:Int)):=by
 unfold Zgg
 have h1:=Zc7 (L:=Zdj a (f:Int)) a (fun s _ x=>s++[x.get (f:Int)]) id (fun i s=>s.length≤i) (by omega) (fun n s i hi hs=>by
  rw [Zdj]
  simp only [show ((i:Int)<(a.length:Int)) from by omega,decide_true,if_true,Zaf hi,Option.bind_some,wsucc (by omega:i<1000000000001),List.length_singleton]
  rw [if_pos ⟨by omega,by omega⟩,if_pos (show s.length + 1≤lim by unfold lim; omega)]
  exact⟨rfl,by simp; omega⟩) (fun n s hs=>by rw [Zdj]; simp) [] (Nat.le_refl _)
 rw [h1.1,Zi0]
 simp only [id,List.nil_append,Option.bind_some]
 have h2:=Zc7 (L:=Zdk b (f:Int)) b (fun s _ x=>s++[x.get (f:Int)]) id (fun i s=>s.length≤a.length + i) (by omega) (fun n s i hi hs=>by
  rw [Zdk]
  simp only [show ((i:Int)<(b.length:Int)) from by omega,decide_true,if_true,Zaf hi,Option.bind_some,wsucc (by omega:i<1000000000001),List.length_singleton]
  rw [if_pos ⟨by omega,by omega⟩,if_pos (show s.length + 1≤lim by unfold lim; omega)]
  exact⟨rfl,by simp; omega⟩) (fun n s hs=>by rw [Zdk]; simp) (a.map fun x=>x.get (f:Int)) (by simp)
 rw [h2.1,Zi0,List.map_append]
 rfl
theorem Z0n {l:List Int} {v:Int} (hl:l.length≤1000000):∀(k i n:Nat),l.length - i=k→k<n→i≤l.length→(∀ x∈l.take i,x<v)→∃ j,Zdl l v n (i:Int)=some ((j:Nat):Int)∧j≤l.length∧(∀ x∈l.take j,x<v)∧∀ h:j<l.length,v≤l[j]:=by
 intro k
 induction k with
 | zero=>
  intro i n hk hn hi hx
  cases n with
  | zero=>omega
  | succ n=>
  refine⟨i,?_,hi,hx,fun h=>by omega⟩
  rw [Zdl]
  have:decide ((i:Int)<(l.length:Int))=false:=by simp; omega
  rw [this]; rfl
 | succ k ih=>
  intro i n hk hn hi hx
  cases n with
  | zero=>omega
  | succ n=>
  have h1:i<l.length:=by omega
  rw [Zdl]
  have:decide ((i:Int)<(l.length:Int))=true:=by simp; omega
  rw [this]
  simp only [Option.bind_some,if_true,Zaf h1]
  by_cases hlt:l[i]<v
  ·rw [if_pos (decide_eq_true hlt),wsucc (by omega)]
   refine ih (i + 1) n (by omega) (by omega) (by omega) fun x hx'=>?_
   rw [List.take_add_one,List.getElem?_eq_getElem h1] at hx'
   rcases List.mem_append.1 hx' with h | h
   ·exact hx x h
   ·simp at h; rw [h]; exact hlt
  ·rw [if_neg (by simpa using hlt)]
   exact⟨i,rfl,hi,hx,fun _=>by omega⟩
structure InsP (l:List Int) (v top:Int) (r:List Int):Prop where
 asc:r.Pairwise (·<·)
 mem:∀ x,x∈r ↔ x∈l∨(x=v∧v≤top)
 len:r.length≤l.length + 1
theorem Ztr {l:List Int} {v top:Int} (hl:l.length≤1000000) (ha:l.Pairwise (·<·)) (h0:0≤top) (h1:top<4294967296):Ok (Zfg l v top) (InsP l v top):=by
 unfold Zfg
 rw [wu64 h0 (by omega)]
 by_cases hv:v > top
 ·rw [if_pos (decide_eq_true hv)]
  exact Ok.ret ⟨ha,fun x=>⟨Or.inl,fun h=>h.elim id fun h=>by omega⟩,by omega⟩
 ·rw [if_neg (by simpa using hv)]
  obtain⟨j,e,g1,g2,g3⟩:=Z0n (v:=v) hl l.length 0 fuel (by omega) (by unfold fuel; omega) (by omega) (fun x h=>(by cases h))
  rw [show ((0:Nat):Int)=0 from rfl] at e
  rw [e]
  simp only [Option.bind_some]
  have tail:∀ x∈l.drop j,v≤x:=by
   intro x hx
   by_cases hj:j<l.length
   ·rw [List.drop_eq_getElem_cons hj] at hx
    have hp:=ha.sublist (List.drop_sublist j l)
    rw [List.drop_eq_getElem_cons hj] at hp
    have:=g3 hj
    rcases List.mem_cons.1 hx with rfl | hx
    ·exact this
    ·have:=(List.pairwise_cons.1 hp).1 x hx; omega
   ·rw [List.drop_eq_nil_of_le (by omega)] at hx; cases hx
  have fin:(¬ ∃ h:j<l.length,l[j]=v)→Ok (if 0≤(0:Int)∧(0:Int)≤(j:Int)∧(j:Int)≤(List.length l:Int) then
    if List.length ([]:(List Int)) + List.length (List.drop (Int.toNat (0:Int)) (List.take (Int.toNat (j:Int)) l))≤lim then
    if List.length (([]:(List Int))++(List.drop (Int.toNat (0:Int)) (List.take (Int.toNat (j:Int)) l))) + List.length [v]≤lim then
    if 0≤(j:Int)∧(j:Int)≤(List.length l:Int)∧(List.length l:Int)≤(List.length l:Int) then
    if List.length ((([]:(List Int))++(List.drop (Int.toNat (0:Int)) (List.take (Int.toNat (j:Int)) l)))++[v]) + List.length (List.drop (Int.toNat (j:Int)) (List.take (Int.toNat (List.length l:Int)) l))≤lim then
    some (((([]:(List Int))++(List.drop (Int.toNat (0:Int)) (List.take (Int.toNat (j:Int)) l)))++[v])++(List.drop (Int.toNat (j:Int)) (List.take (Int.toNat (List.length l:Int)) l)))
    else none
    else none
    else none
    else none
    else none) (InsP l v top):=by
   intro hne
   have e1:List.drop (Int.toNat (0:Int)) (List.take (Int.toNat (j:Int)) l)=l.take j:=rfl
   have e2:List.drop (Int.toNat (j:Int)) (List.take (Int.toNat (List.length l:Int)) l)=l.drop j:=by rw [Int.toNat_natCast,Int.toNat_natCast,List.take_length]
   rw [e1,e2,List.nil_append]
   have l1:(l.take j).length=j:=by rw [List.length_take]; omega
   have l2:(l.drop j).length=l.length - j:=List.length_drop
   refine Ok.chk ⟨by omega,by omega,by omega⟩ (Ok.chk ?_ (Ok.chk ?_ (Ok.chk ⟨by omega,by omega,by omega⟩ (Ok.chk ?_ (Ok.ret ⟨?_,fun x=>?_,?_⟩)))))
   ·rw [l1]; unfold lim; simp; omega
   ·rw [l1]; unfold lim; simp; omega
   ·rw [List.length_append,l1,l2]; unfold lim; simp; omega
   ·have hp1:=ha.sublist (List.take_sublist j l)
    have hp2:=ha.sublist (List.drop_sublist j l)
    have hlt:∀ x∈l.drop j,v<x:=by
     intro x hx
     have:=tail x hx
     rcases Int.lt_or_eq_of_le this with h | h
     ·exact h
     ·exfalso
      subst h
      by_cases hj:j<l.length
      ·have hv:=g3 hj
       rw [List.drop_eq_getElem_cons hj] at hx hp2
       rcases List.mem_cons.1 hx with h | h
       ·exact hne ⟨hj,h.symm⟩
       ·have:=(List.pairwise_cons.1 hp2).1 _ h; omega
      ·rw [List.drop_eq_nil_of_le (by omega)] at hx; cases hx
    rw [List.append_assoc,List.pairwise_append]
    refine⟨hp1,List.pairwise_cons.2 ⟨hlt,hp2⟩,fun x hx y hy=>?_⟩
    have:=g2 x hx
    rcases List.mem_cons.1 hy with rfl | hy
    ·exact this
    ·have:=hlt y hy; omega
   ·have hm:x∈l ↔ x∈l.take j∨x∈l.drop j:=by rw [← List.mem_append,List.take_append_drop]
    simp only [List.mem_append,List.mem_cons,List.not_mem_nil,or_false,hm]
    constructor
    ·rintro((h | h) | h)
     ·exact Or.inl (Or.inl h)
     ·exact Or.inr ⟨h,by omega⟩
     ·exact Or.inl (Or.inr h)
    ·rintro((h | h) | h)
     ·exact Or.inl (Or.inl h)
     ·exact Or.inr h
     ·exact Or.inl (Or.inr h.1)
   ·rw [List.length_append,List.length_append,l1,l2]; simp; omega
  by_cases hj:j<l.length
  ·have:decide ((j:Int)<(l.length:Int))=true:=by simp; omega
   rw [this]
   simp only [if_true,Zaf hj,Option.bind_some]
   by_cases he:l[j]=v
   ·rw [if_pos (by simpa using he)]
    refine Ok.ret ⟨ha,fun x=>⟨Or.inl,fun h=>h.elim id fun h=>?_⟩,by omega⟩
    rw [h.1,← he]; exact List.getElem_mem hj
   ·rw [if_neg (by simpa using he)]
    exact fin fun⟨_,h⟩=>he h
  ·have:decide ((j:Int)<(l.length:Int))=false:=by simp; omega
   rw [this]
   simp only [Bool.false_eq_true,if_false,Option.bind_some]
   exact fin fun⟨h,_⟩=>hj h
structure StP (rs:List Zb) (top:Int) (r:List Int):Prop where
 asc:r.Pairwise (·<·)
 z:0∈r
 rng:∀ x∈r,0≤x∧x≤top
 cut:∀ y∈rs,y.Lo∈r∧(y.Hi + 1≤top→y.Hi + 1∈r)
 len:r.length≤2 * rs.length + 1
theorem Zyh {rs:List Zb} {top:Int} (hl:rs.length≤400000) (h0:0≤top) (h1:top<4294967296) (hr:∀ r∈rs,0≤r.Lo∧r.Lo≤r.Hi∧r.Hi≤top):Ok (Zgh rs top) (StP rs top):=by
 unfold Zgh
 refine Ok.bind (p:=StP rs top) ?_ fun v hv=>Ok.ret hv
 refine Z0f (L:=Zdm rs top) rs (fun i s=>StP (rs.take i) top s) (by omega) (fun n s i hi hs k=>?_) (fun n s hs=>?_) _ ?_
 ·rw [Zdm]
  have hy:=hr _ (List.getElem_mem hi)
  have ll:(rs.take i).length=i:=by rw [List.length_take]; omega
  have hsl:=hs.len
  simp only [show ((i:Int)<(rs.length:Int)) from by omega,decide_true,if_true,Zaf hi,Option.bind_some,wsucc (by omega:i<1000000000001)]
  rw [if_pos (decide_eq_true hy.2.1),wu64 (x:=(rs[i]).Lo) (by omega) (by omega),wu64 (x:=(rs[i]).Hi) (by omega) (by omega),wu64 (by omega) (by omega)]
  refine Ok.bind (p:=StP (rs.take (i + 1)) top) ?_ fun v hv=>k v hv
  refine Ok.bind (Ztr (by omega) hs.asc h0 h1) fun r1 g1=>Ok.bind (Ztr (by have:=g1.len; omega) g1.asc h0 h1) fun r2 g2=>Ok.ret ⟨g2.asc,?_,fun x hx=>?_,fun y hy'=>?_,?_⟩
  ·exact(g2.mem 0).2 (Or.inl ((g1.mem 0).2 (Or.inl hs.z)))
  ·rcases (g2.mem x).1 hx with h | h
   ·rcases (g1.mem x).1 h with h | h
    ·exact hs.rng x h
    ·omega
   ·omega
  ·rw [List.take_add_one,List.getElem?_eq_getElem hi] at hy'
   rcases List.mem_append.1 hy' with h | h
   ·have:=hs.cut y h
    exact⟨(g2.mem _).2 (Or.inl ((g1.mem _).2 (Or.inl this.1))),fun hh=>(g2.mem _).2 (Or.inl ((g1.mem _).2 (Or.inl (this.2 hh))))⟩
   ·have h:y=rs[i]:=by simpa using h
    subst h
    exact⟨(g2.mem _).2 (Or.inl ((g1.mem _).2 (Or.inr ⟨rfl,by omega⟩))),fun hh=>(g2.mem _).2 (Or.inr ⟨rfl,hh⟩)⟩
  ·have:=g1.len
   have:=g2.len
   have:(rs.take (i + 1)).length=i + 1:=by rw [List.length_take]; omega
   omega
 ·rw [Zdm,if_neg (by simp)]
  rw [List.take_length] at hs
  exact Ok.ret hs
 ·exact⟨List.pairwise_singleton ..,List.mem_singleton.2 rfl,fun x hx=>by rw [List.mem_singleton] at hx; omega,fun y hy=>(by cases hy),by simp⟩
theorem Zxo {f:Nat} (hf:f<5) {l:List Bx} (hb:∀ x∈l,BOk x) {ss:List Int} (h:StP (l.map fun x=>x.get (f:Int)) (topOf (f:Int)) ss):Pts f l (ss++[topOf (f:Int) + 1]):=by
 have ht:=topN hf
 refine⟨List.pairwise_append.2 ⟨h.asc,List.pairwise_singleton ..,fun x hx y hy=>?_⟩,?_,List.getLast?_concat,fun b hb'=>?_,?_⟩
 ·rw [List.mem_singleton] at hy
  have:=h.rng x hx
  omega
 ·obtain⟨tl,e⟩:=Zvd h.asc h.z fun x hx=>(h.rng x hx).1
  exact⟨tl++[topOf (f:Int) + 1],by rw [e]; rfl⟩
 ·have hr:=(hb b hb').at_ hf
  have hc:=h.cut (b.get (f:Int)) (List.mem_map.2 ⟨b,hb',rfl⟩)
  refine⟨List.mem_append_left _ hc.1,?_⟩
  by_cases hh:(b.get (f:Int)).Hi + 1≤topOf (f:Int)
  ·exact List.mem_append_left _ (hc.2 hh)
  ·refine List.mem_append_right _ (List.mem_singleton.2 ?_)
   omega
 ·have:=h.len
  rw [List.length_map] at this
  rw [List.length_append,List.length_singleton]; omega
end Go.AM
set_option maxRecDepth 100000
namespace Go.AM
open Go
abbrev RL:=List Zb
theorem CF_len:∀(ts:List Int) {l:List RL},CF ts l→∀ b∈l,b.length=ts.length
 | [],l,h,b,hb=>by
  rcases h with rfl | rfl
  ·cases hb
  ·rw [List.mem_singleton] at hb; rw [hb]; rfl
 | t :: ts,l,⟨c,h1,h2,h3⟩,b,hb=>by
  subst h1
  obtain⟨x,hx,hb⟩:=List.mem_flatMap.1 hb
  obtain⟨b',hb',rfl⟩:=List.mem_map.1 hb
  rw [List.length_cons,List.length_cons,CF_len ts (h3 x hx) b' hb']
theorem Ord.len {t:Int}:∀ {c:List Cell},Ord t c→c.length≤(flt c).length
 | [],_=>Nat.le_refl _
 | x :: c,h=>by
  have hx:=(h.ok x (List.mem_cons_self ..)).2.2.2
  have:=Ord.len h.tail
  rw [Zg3,List.length_append,List.length_map,List.length_cons]
  have:0<x.2.length:=List.length_pos_iff.2 hx
  omega
theorem lk_le (c:List Cell) {t:Int} (h:Ord t c) (v:Int):(lk c v).length≤(flt c).length:=by
 by_cases hv:lk c v=[]
 ·rw [hv]; simp
 ·obtain⟨x,hx,h1,h2⟩:=Zi1 hv
  rw [lk_mem h hx h1 h2]
  obtain⟨a,b,rfl⟩:=List.append_of_mem hx
  rw [Zer,Zg3,List.length_append,List.length_append,List.length_map]
  omega
theorem Zma {f:Nat} (h:f≤5) {l l':List RL} (hl:∀ b∈l,b.length=5 - f) (hl':∀ b∈l',b.length=5 - f):l.map (pad f)=l'.map (pad f) ↔ l=l':=by
 constructor
 ·intro e
  have:=congrArg (List.map (sf f)) e
  rw [List.map_map,List.map_map] at this
  have h1:∀ {m:List RL},(∀ b∈m,b.length=5 - f)→m.map (sf f ∘ pad f)=m:=fun {m} hm=>by
   conv=>rhs; rw [← List.map_id m]
   exact List.map_congr_left fun b hb=>sf_pad h (hm b hb)
  rw [h1 hl,h1 hl'] at this
  exact this
 ·rintro rfl; rfl
def gr1 (f:Nat) (x:Cell):Zh:=⟨x.1,x.2.map (pad (f + 1))⟩
def gr (f:Nat) (c:List Cell):List Zh:=c.map (gr1 f)
theorem gr_len (f:Nat) (c:List Cell):(gr f c).length=c.length:=List.length_map _
theorem Zpa (f:Nat) (d:List Cell) (y:Cell):gr f (d++[y])=gr f d++[gr1 f y]:=by unfold gr; rw [List.map_append]; rfl
theorem Zzk {α:Type} (l:List α) (x:α) (h:l.length≤1000000000):idx (l++[x]) (IntKind.wrap .i64 (((l++[x]).length:Int) - (1:Int)))=some x:=by
 rw [List.length_append,List.length_singleton,wi64 (by omega) (by omega),show ((l.length + 1:Nat):Int) - 1=((l.length:Nat):Int) by omega,Zaf (by simp)]
 simp
theorem Zzl {α:Type} (l:List α) (x y:α) (h:l.length≤1000000000):(l++[x]).set (Int.toNat (IntKind.wrap .i64 (((l++[x]).length:Int) - (1:Int)))) y=l++[y]:=by
 rw [List.length_append,List.length_singleton,wi64 (by omega) (by omega),show (((l.length + 1:Nat):Int) - 1).toNat=l.length by omega,List.set_append_right _ _ (Nat.le_refl _),Nat.sub_self]
 rfl
def capd (m:Nat) (f:Nat) (l:List RL):List Bx × Bool:=if l.length≤m then (l.map (pad f),true) else ([],false)
theorem Zts (c:List Cell) (lo hi:Int) (rest:List RL):rest.length≤(flt (joinC c lo hi rest)).length:=by
 unfold joinC
 split
 ·rename_i h; rw [h]; simp
 ·split
  ·split
   ·rw [Zer,List.length_append,Zgu]; omega
   ·rw [Zer,List.length_append,Zgu]; omega
  ·rw [Zer,List.length_append,Zgu]; omega
theorem Zvg {f:Nat} (hf:f<5) {a b:List Bx} (ha:a.length≤2000000000) (hb:b.length≤2000000000) {m:Nat} (hm:m≤100000)
  {z0:Int→List Bx→List Bx→Int→Option (List Bx × Bool)} {ps:List Int} (hps:ps.length≤1000000) {g:Int→List RL} (hg:∀ v,∀ b∈g v,b.length=5 - (f + 1))
  (hz:∀ v,0≤v→v≤topOf (f:Int)→z0 ((f + 1:Nat):Int) (cov a f v) (cov b f v) (m:Int)=some (capd m (f + 1) (g v))) :
  ∀(rem:List Int) (p:Int) (i n:Nat) (c:List Cell),ps.drop i=p :: rem→rem.length<n→Upto g p c→Steps g (p :: rem)→0≤p→(∀ x∈p :: rem,x≤topOf (f:Int) + 1)→(flt c).length≤m →
  Zy (f:Int) a b (m:Int) z0 ps n (gr f c) ((flt c).length:Int) (i:Int) =
   some (if (flt (runC g c (p :: rem))).length≤m then .inl (gr f (runC g c (p :: rem)),((flt (runC g c (p :: rem))).length:Int)) else .inr ([],false)):=by
 intro rem
 induction rem with
 | nil=>
  intro p i n c hd hn hu hs hp ht hc
  cases n with
  | zero=>simp at hn
  | succ n=>
  have hi:ps.length=i + 1:=by
   have h1:=congrArg List.length hd
   rw [List.length_drop] at h1
   simp at h1; omega
  rw [Zy,wsucc (by omega),if_neg (by simp; omega)]
  unfold runC
  rw [if_pos hc]
 | cons q rem ih=>
  intro p i n c hd hn hu hs hp ht hc
  cases n with
  | zero=>simp at hn
  | succ n=>
  obtain⟨hpq,hgc,hs'⟩:=hs
  have htop:=topN hf
  have hqt:=ht q (by simp)
  have hpt:p≤topOf (f:Int):=by omega
  have hlen:i + 2≤ps.length:=by
   have h1:=congrArg List.length hd
   rw [List.length_drop] at h1
   simp at h1; omega
  have gi:∀ j,(ps.drop i)[j]? = ps[i + j]?:=fun j=>List.getElem?_drop
  have h0:idx ps (i:Int)=some p:=by
   have h1:=gi 0
   rw [hd,Nat.add_zero] at h1
   simp only [List.getElem?_cons_zero] at h1
   rw [Zaf (by omega),← List.getElem?_eq_getElem,← h1]
  have h1:idx ps ((i + 1:Nat):Int)=some q:=by
   have h1:=gi 1
   rw [hd] at h1
   simp only [List.getElem?_cons_succ,List.getElem?_cons_zero] at h1
   rw [Zaf (by omega),← List.getElem?_eq_getElem,← h1]
  have hd':ps.drop (i + 1)=q :: rem:=by rw [← List.drop_drop,hd]; rfl
  have e1:IntKind.wrap .u32 p=p:=wu32 hp (by omega)
  have e2:IntKind.wrap .u32 (IntKind.wrap .u64 (q - (1:Int)))=q - 1:=by rw [wu64 (by omega) (by omega),wu32 (by omega) (by omega)]
  have hu':=hu.step hp hpq hgc
  have key:=ih q (i + 1) n (joinC c p (q - 1) (g p)) hd' (by simp at hn; omega) hu' hs' (by omega) (fun x hx=>ht x (List.mem_cons_of_mem _ hx))
  have hrun:runC g c (p :: q :: rem)=runC g (joinC c p (q - 1) (g p)) (q :: rem):=rfl
  have hfin:=Zlv g (q :: rem) (joinC c p (q - 1) (g p))
  have hjr:=Zts c p (q - 1) (g p)
  have hcl:=hu.ord.len
  rw [hrun]
  rw [Zy,wsucc (by omega),if_pos (by simp; omega),h0,h1]
  simp only [Option.bind_some,e1,e2]
  rw [Zp1 ha (by omega) (by omega),Zp1 hb (by omega) (by omega)]
  simp only [Option.bind_some]
  rw [wsucc (i:=f) (by omega),hz p hp hpt]
  simp only [Option.bind_some,capd]
  by_cases hgm:(g p).length≤m
  ·rw [if_pos hgm]
   simp only [Bool.not_true,Bool.false_eq_true,if_false,List.length_map]
   by_cases hg0:g p=[]
   ·have ej:joinC c p (q - 1) (g p)=c:=by unfold joinC; rw [if_pos hg0]
    rw [ej] at key ⊢
    rw [hg0]
    simp only [List.length_nil,Int.natCast_zero,beq_self_eq_true,if_true,Option.bind_some]
    exact key hc
   ·have hgl:0<(g p).length:=List.length_pos_iff.2 hg0
    rw [if_neg (show ¬ (((g p).length:Int) == (0:Int))=true by simp [hg0])]
    rcases List.eq_nil_or_concat c with rfl | ⟨d,y,rfl⟩
    ·
     have ej:joinC [] p (q - 1) (g p)=[(⟨p,q - 1⟩,g p)]:=by unfold joinC; rw [if_neg hg0]; rfl
     rw [ej] at key hfin ⊢
     rw [Zgu] at key hfin
     have e3:IntKind.wrap .i64 (((flt []).length:Int) + ((g p).length:Int))=((g p).length:Int):=by
      rw [show (flt []).length=0 from rfl,wi64 (by omega) (by omega)]; omega
     simp only [show gr f []=[] from rfl,List.length_nil,Int.natCast_zero,gt_iff_lt,Int.lt_irrefl,decide_false,Bool.false_eq_true,if_false,Option.bind_some,List.length_singleton,Nat.zero_add]
     rw [if_pos (show 1≤lim by unfold lim; omega)]
     simp only [show (flt []).length=0 from rfl,Int.natCast_zero] at e3 ⊢
     rw [e3,if_neg (show ¬ decide ((m:Int)<((g p).length:Int))=true by simp; omega)]
     simp only [Option.bind_some,List.nil_append]
     exact key hgm
    ·rw [List.concat_eq_append] at *
     have hgrl:(gr f d).length≤1000000000:=by rw [gr_len]; rw [List.length_append] at hcl; omega
     have hyo:=hu.ord.ok y (List.mem_append_right _ (List.mem_singleton.2 rfl))
     have hyg:∀ b∈y.2,b.length=5 - (f + 1):=by
      have h2:=hu.at_ y.1.Lo
      rw [lk_mem hu.ord (List.mem_append_right _ (List.mem_singleton.2 rfl)) (Int.le_refl _) hyo.2.1,if_pos (by omega)] at h2
      rw [h2]; exact hg _
     have hx2:idx (gr f (d++[y])) (IntKind.wrap .i64 (((gr f (d++[y])).length:Int) - (1:Int)))=some (gr1 f y):=by rw [Zpa]; exact Zzk _ _ hgrl
     have hpos:decide (((gr f (d++[y])).length:Int) > 0)=true:=by rw [gr_len]; simp
     have e4:IntKind.wrap .u32 (y.1.Hi + (1:Int))=y.1.Hi + 1:=wu32 (by omega) (by omega)
     rw [hpos]
     simp only [Option.bind_some,if_true,hx2]
     rw [show (gr1 f y).f_values.Hi=y.1.Hi from rfl,e4,show (gr1 f y).f_rest=y.2.map (pad (f + 1)) from rfl]
     rw [Zvc (by rw [List.length_map]; rw [Zer,List.length_append] at hc; obtain⟨yr,yrest⟩:=y; rw [Zgu] at hc; simp only at hc ⊢; omega)]
     have hmi:((y.2.map (pad (f + 1))=(g p).map (pad (f + 1))) ↔ y.2=g p):=Zma (by omega) hyg (hg p)
     simp only [hmi,Option.bind_some]
     have ej:joinC (d++[y]) p (q - 1) (g p)=if y.1.Hi + 1=p∧y.2=g p then d++[(⟨y.1.Lo,q - 1⟩,g p)] else (d++[y])++[(⟨p,q - 1⟩,g p)]:=by
      unfold joinC
      rw [if_neg hg0,List.getLast?_concat]
      simp only [List.dropLast_concat]
     by_cases hj:y.1.Hi + 1=p∧y.2=g p
     ·rw [if_pos hj] at ej
      rw [ej] at key hfin ⊢
      have hb1:(y.1.Hi + 1 == p)=true:=by simpa using hj.1
      rw [hb1]
      simp only [if_true,decide_eq_true hj.2,Option.bind_some]
      have e5:(flt (d++[(⟨y.1.Lo,q - 1⟩,g p)])).length=(flt (d++[y])).length:=by
       rw [Zer,Zer,List.length_append,List.length_append,Zgu]
       obtain⟨yr,yrest⟩:=y
       rw [Zgu]
       rw [← hj.2]
      rw [e5] at key hfin
      have e6:(gr f (d++[y])).set (Int.toNat (IntKind.wrap .i64 (((gr f (d++[y])).length:Int) - (1:Int)))) ({ gr1 f y with f_values:=({ (gr1 f y).f_values with Hi:=q - 1 }:Zb) }:Zh)=gr f (d++[(⟨y.1.Lo,q - 1⟩,g p)]):=by
       rw [Zpa,Zzl _ _ _ hgrl,Zpa]
       rw [show (gr1 f (⟨y.1.Lo,q - 1⟩,g p))=({ gr1 f y with f_values:=({ (gr1 f y).f_values with Hi:=q - 1 }:Zb) }:Zh) by unfold gr1; rw [hj.2]]
      have e7:({ f_values:={ Lo:=(gr1 f y).f_values.Lo,Hi:=q - 1 },f_rest:=y.2.map (pad (f + 1)) }:Zh)=({ gr1 f y with f_values:=({ (gr1 f y).f_values with Hi:=q - 1 }:Zb) }:Zh):=rfl
      first | rw [e6] | (rw [e7,e6])
      exact key hc
     ·rw [if_neg hj] at ej
      rw [ej] at key hfin ⊢
      have e8:(flt (d++[y]++[(⟨p,q - 1⟩,g p)])).length=(flt (d++[y])).length + (g p).length:=by
       rw [Zer,List.length_append,Zgu]
      rw [e8] at key hfin
      have e3:IntKind.wrap .i64 (((flt (d++[y])).length:Int) + ((g p).length:Int))=(((flt (d++[y])).length + (g p).length:Nat):Int):=by
       rw [wi64 (by omega) (by omega)]; omega
      have hcond:(if (y.1.Hi + 1 == p)=true then some (decide (y.2=g p)) else some false)=some false:=by
       by_cases h3:y.1.Hi + 1=p
       ·rw [if_pos (by simpa using h3),decide_eq_false fun h4=>hj ⟨h3,h4⟩]
       ·rw [if_neg (by simpa using h3)]
      rw [hcond]
      simp only [Option.bind_some,Bool.false_eq_true,if_false]
      rw [if_pos (show (gr f (d++[y])).length + [(Zh.mk (Zb.mk p (q - 1)) ((g p).map (pad (f + 1))))].length≤lim by rw [gr_len,List.length_singleton]; unfold lim; omega),e3]
      by_cases hsz:(flt (d++[y])).length + (g p).length≤m
      ·rw [if_neg (by simp; omega)]
       simp only [Option.bind_some]
       have:=key hsz
       rw [Zpa] at this
       exact this
      ·rw [if_pos (by simp; omega),if_neg (by omega)]
       rfl
  ·rw [if_neg hgm]
   simp only [Bool.not_false,if_true,Option.bind_some]
   rw [if_neg (by omega)]
end Go.AM
set_option maxRecDepth 100000
namespace Go.AM
open Go
theorem Zvh {f:Nat} (hf:f<5) (x:Cell) (hx:∀ b∈x.2,b.length=4 - f) (acc:List Bx) (hl:acc.length + x.2.length≤2000000000) :
  Zz (f:Int) (gr1 f x) fuel acc 0=some (acc++(x.2.map (x.1 :: ·)).map (pad f)):=by
 have hlen:(x.2.map (pad (f + 1))).length=x.2.length:=List.length_map _
 have:=Zc7 (L:=Zz (f:Int) (gr1 f x)) (x.2.map (pad (f + 1))) (fun s _ y=>s++[Arr5.set y (f:Int) x.1]) id (fun i s=>s.length≤acc.length + i) (by omega) (fun n s i hi hs=>by
  rw [Zz]
  simp only [show (gr1 f x).f_rest=x.2.map (pad (f + 1)) from rfl,show (gr1 f x).f_values=x.1 from rfl,show ((i:Int)<((x.2.map (pad (f + 1))).length:Int)) from by omega,decide_true,if_true,Zaf hi,Option.bind_some,wsucc (by omega:i<1000000000001),List.length_singleton]
  rw [if_pos ⟨by omega,by omega⟩,if_pos (show s.length + 1≤lim by unfold lim; omega)]
  exact⟨rfl,by simp; omega⟩) (fun n s hs=>by rw [Zz]; simp [show (gr1 f x).f_rest=x.2.map (pad (f + 1)) from rfl]) acc (by omega)
 rw [this.1,Zi0,List.map_map,List.map_map]
 simp only [id]
 congr 2
 exact List.map_congr_left fun b hb=>Zo7 hf (hx b hb) x.1
theorem Zvi {f:Nat} (hf:f<5) (c:List Cell) (hc:∀ x∈c,∀ b∈x.2,b.length=4 - f) (hl:(flt c).length≤2000000000) (hcl:c.length≤2000000000) :
  Zv (f:Int) (gr f c) fuel [] 0=some ((flt c).map (pad f)):=by
 have e:∀(d:List Cell) (acc:List Bx) (i:Nat),foldI (fun(s:List Bx) _ (y:Cell)=>s++(y.2.map (y.1 :: ·)).map (pad f)) acc i d=acc++(flt d).map (pad f):=by
  intro d
  induction d with
  | nil=>intro acc i; simp [foldI,flt]
  | cons x d ih=>intro acc i; simp only [foldI]; rw [ih,Zg3,List.map_append,List.append_assoc]
 have:=Zc7 (L:=Zv (f:Int) (gr f c)) c (fun s _ y=>s++(y.2.map (y.1 :: ·)).map (pad f)) id (fun i s=>s.length=(flt (c.take i)).length) (by omega) (fun n s i hi hs=>by
  have hi':i<(gr f c).length:=by rw [gr_len]; exact hi
  have hx:idx (gr f c) (i:Int)=some (gr1 f c[i]):=by rw [Zaf hi']; exact congrArg some (List.getElem_map ..)
  have tk:flt (c.take (i + 1))=flt (c.take i)++(c[i].2.map (c[i].1 :: ·)):=by
   rw [List.take_add_one,List.getElem?_eq_getElem hi,Zer]; simp [flt]
  have hle:(flt (c.take (i + 1))).length≤(flt c).length:=by
   conv=>rhs; rw [← List.take_append_drop (i + 1) c,Zer,List.length_append]
   omega
  have hle2:(flt (c.take (i + 1))).length=(flt (c.take i)).length + (c[i]).2.length:=by rw [tk,List.length_append,List.length_map]
  rw [Zv]
  rw [if_pos (by rw [gr_len]; simp; omega),hx]
  simp only [Option.bind_some]
  rw [Zvh hf _ (hc _ (List.getElem_mem hi)) s (by omega)]
  simp only [Option.bind_some]
  rw [wsucc (by omega)]
  refine⟨rfl,?_⟩
  rw [List.length_append,List.length_map,List.length_map,hle2,hs]) (fun n s hs=>by rw [Zv]; simp [gr_len]) [] rfl
 rw [this.1,e]
 rfl
structure Canon (op:Bool→Bool→Bool) (C:Nat→Int→List Bx→List Bx→Int→Option (List Bx × Bool)):Prop where
 ff:op false false=false
 base:∀ nr a b m,C (nr + 1) 5 a b m=some (if op (decide ((a.length:Int) > 0)) (decide ((b.length:Int) > 0))=true then ([⟨zr,zr,zr,zr,zr⟩],true) else ([],true))
 step:∀ nr (f:Int) a b m,f ≠ 5→C (nr + 1) f a b m=if (IntKind.wrap .i64 ((a.length:Int) + (b.length:Int)) == (0:Int))=true then some ([],true) else
  (Zdx f [a,b]).bind fun r12=>(Zy f a b m (C nr) r12 fuel [] 0 0).bind fun o=>match o with
   | .inl (v175,v176)=>if 0≤v176∧v176≤(lim:Int) then (Zv f v175 fuel [] 0).bind fun v=>some (v,true) else none
   | .inr r=>some r
theorem mS5 (a:List Bx):mS (a.map (sf 5)) []=decide ((a.length:Int) > 0):=by
 cases a with
 | nil=>rfl
 | cons b a=>
  have:decide (((b :: a).length:Int) > 0)=true:=by simp
  rw [this]
  show (mB (sf 5 b) [] || mS (a.map (sf 5)) [])=true
  rfl
theorem BOk.all {a:List Bx} (h:∀ x∈a,BOk x) (f v:Int):∀ x∈cov a f v,BOk x:=fun x hx=>h x (Z0l hx)
theorem level {op:Bool→Bool→Bool} {f:Nat} (hf:f<5) {a b:List Bx} {c:List Cell} {ps:List Int} (hps:Pts f (a++b) ps) (hL:Is op (topOf (f:Int) :: tops5.drop (f + 1)) (a.map (sf f)) (b.map (sf f)) (flt c)) (ho:Ord (topOf (f:Int)) c) (hc:∀ x∈c,CF (tops5.drop (f + 1)) x.2) :
  (∃ tl,ps=0 :: tl∧Steps (lk c) (0 :: tl)∧runC (lk c) [] (0 :: tl)=c)∧(∀ v,∀ b∈lk c v,b.length=4 - f) ∧
  ∀ v,0≤v→v≤topOf (f:Int)→Is op (tops5.drop (f + 1)) ((cov a f v).map (sf (f + 1))) ((cov b f v).map (sf (f + 1))) (lk c v):=by
 have hat:∀ v,0≤v→v≤topOf (f:Int)→Is op (tops5.drop (f + 1)) (atv (a.map (sf f)) v) (atv (b.map (sf f)) v) (lk c v):=fun v h0 h1=>Is.at_ ho hc hL h0 h1
 obtain⟨tl,rfl⟩:=hps.h0
 have hrng:∀ x∈(0:Int) :: tl,x≤topOf (f:Int) + 1:=by
  obtain⟨ys,hy⟩:=List.getLast?_eq_some_iff.1 hps.hl
  intro x hx
  have hp:=hps.asc
  rw [hy] at hx hp
  rcases List.mem_append.1 hx with h | h
  ·have:=(List.pairwise_append.1 hp).2.2 x h _ (List.mem_singleton.2 rfl); omega
  ·rw [List.mem_singleton] at h; omega
 have hcut:∀ l:List Bx,(∀ x∈l,x∈a++b)→Cut ((0:Int) :: tl) (l.map (sf f)):=by
  intro l hl x hx r b' e
  obtain⟨z,hz,rfl⟩:=List.mem_map.1 hx
  rw [Zmu hf,List.cons.injEq] at e
  rw [← e.1]
  exact hps.cut z (hl z hz)
 have hsteps:Steps (lk c) (0 :: tl):=by
  refine Zu6 (List.cons_ne_nil _ _) hps.asc fun i h v h1 h2=>?_
  have hx:=Zt9 hps.asc h
  have hm:=List.pairwise_iff_getElem.1 hps.asc
  have h0i:0≤((0:Int) :: tl)[i]:=by
   rcases Nat.eq_zero_or_pos i with rfl | hi
   ·exact Int.le_refl _
   ·exact Int.le_of_lt (hm 0 i (by simp) (by omega) hi)
  have hti:=hrng _ (List.getElem_mem h)
  have key:∀ {l:List RL},Cut ((0:Int) :: tl) l→atv l v=atv l ((0:Int) :: tl)[i]:=fun hl=>
   Zy7 (fun b hb r b' e=>⟨hx _ (hl b hb r b' e).1,hx _ (hl b hb r b' e).2⟩) h1 h2
  have g1:=hat v (by omega) (by omega)
  rw [key (hcut a fun x hx=>List.mem_append_left _ hx),key (hcut b fun x hx=>List.mem_append_right _ hx)] at g1
  exact g1.inj (hat _ h0i (by omega))
 refine⟨⟨tl,rfl,hsteps,Z0h hsteps hps.hl ho fun v _ _=>rfl⟩,fun v b' hb'=>?_,fun v h0 h1=>by rw [Zww hf,Zww hf]; exact hat v h0 h1⟩
 have:=CF_len _ (CF_lk ho hc v) b' hb'
 rw [this,List.length_drop]
 show 5 - (f + 1)=4 - f
 omega
theorem Zzm {op:Bool→Bool→Bool} {C:Nat→Int→List Bx→List Bx→Int→Option (List Bx × Bool)} (hC:Canon op C) {m:Nat} (hm1:1≤m) (hm:m≤100000):∀(k f nr:Nat) (a b:List Bx) (l:List RL),f + k=5→k<nr→a.length + b.length≤400000→(∀ x∈a,BOk x)→(∀ x∈b,BOk x) →
  Is op (tops5.drop f) (a.map (sf f)) (b.map (sf f)) l→C nr (f:Int) a b (m:Int)=some (capd m f l):=by
 intro k
 induction k with
 | zero=>
  intro f nr a b l hf hn hl ha hb hL
  have hf:f=5:=by omega
  subst hf
  cases nr with
  | zero=>omega
  | succ nr=>
  have h1:=hL.mem [] trivial
  rw [mS5,mS5] at h1
  rw [show ((5:Nat):Int)=5 from rfl,hC.base,← h1]
  rcases hL.cf with rfl | rfl
  ·rfl
  ·rw [if_pos (show mS [[]] []=true from rfl)]
   unfold capd
   rw [if_pos (show ([[]]:List RL).length≤m from hm1)]
   rfl
 | succ k ih=>
  intro f nr a b l hf hn hl ha hb hL
  have hf5:f<5:=by omega
  cases nr with
  | zero=>omega
  | succ nr=>
  rw [Zoy hf5] at hL
  rw [hC.step nr (f:Int) a b _ (by omega)]
  rw [wi64 (by omega) (by omega)]
  by_cases h0:a.length + b.length=0
  ·rw [if_pos (by simp; omega)]
   have ha0:a=[]:=List.length_eq_zero_iff.1 (by omega)
   have hb0:b=[]:=List.length_eq_zero_iff.1 (by omega)
   subst ha0 hb0
   have:l=[]:=hL.inj ⟨CF_nil _,fun p hp=>by simp [mS,hC.ff]⟩
   rw [this]
   rfl
  ·rw [if_neg (by simp; omega)]
   obtain⟨ps,hp1,hp2⟩:=Z0m hf5 hl ha hb
   rw [hp1]
   simp only [Option.bind_some]
   obtain⟨c,rfl,ho,hc⟩:=hL.cf
   obtain⟨⟨tl,rfl,hs,hr⟩,hg,hz⟩:=level hf5 hp2 hL ho hc
   have hlen:=hp2.len
   rw [List.length_append] at hlen
   have hrng:∀ x∈(0:Int) :: tl,x≤topOf (f:Int) + 1:=by
    obtain⟨ys,hy⟩:=List.getLast?_eq_some_iff.1 hp2.hl
    intro x hx
    have hp:=hp2.asc
    rw [hy] at hx hp
    rcases List.mem_append.1 hx with h | h
    ·have:=(List.pairwise_append.1 hp).2.2 x h _ (List.mem_singleton.2 rfl); omega
    ·rw [List.mem_singleton] at h; omega
   have hmain:=Zvg hf5 (a:=a) (b:=b) (by omega) (by omega) (m:=m) hm (z0:=C nr) (ps:=0 :: tl) (by omega) (g:=lk c) (fun v b' hb'=>by rw [hg v b' hb']; omega) (fun v h0 h1=>by
    refine ih (f + 1) nr _ _ _ (by omega) (by omega) ?_ (BOk.all ha _ _) (BOk.all hb _ _) (hz v h0 h1)
    have:=Zo9 a (f:Int) v
    have:=Zo9 b (f:Int) v
    omega) tl 0 0 fuel [] rfl (by unfold fuel; simp only [List.length_cons] at hlen; omega) (Upto.nil _) hs (Int.le_refl _) hrng (Nat.zero_le _)
   rw [show gr f []=[] from rfl,show (flt []).length=0 from rfl,show ((0:Nat):Int)=0 from rfl,hr] at hmain
   rw [hmain]
   simp only [Option.bind_some]
   unfold capd
   have hcl:=ho.len
   by_cases hm2:(flt c).length≤m
   ·rw [if_pos hm2,if_pos hm2]
    simp only
    rw [if_pos ⟨by omega,by unfold lim; omega⟩,Zvi hf5 c (fun x hx b' hb'=>by
     have h2:=ho.ok x hx
     have:=hg x.1.Lo b' (by rw [lk_mem ho hx (Int.le_refl _) h2.2.1]; exact hb')
     exact this) (by omega) (by omega)]
    rfl
   ·rw [if_neg hm2,if_neg hm2]
theorem Zvj:Canon (fun x y=>x || y) Zad:=by
 refine⟨rfl,fun nr a b m=>?_,fun nr f a b m hf=>?_⟩
 ·rw [Zad,if_pos (by decide)]
  unfold Zem
  simp only [Option.bind_some]
  split <;> rfl
 ·rw [Zad,if_neg (by simpa using hf)]
  unfold Zem
  simp only [Option.bind_some,Bool.or_self,Bool.not_false]
  cases (IntKind.wrap .i64 ((a.length:Int) + (b.length:Int)) == (0:Int)) <;> rfl
theorem Z0o:@Zbr=@Zy:=by
 funext a0 a1 a2 a3 z0 r12 n
 induction n with
 | zero=>rfl
 | succ n ih=>funext v94 v95 v96; rw [Zbr,Zy,ih]
theorem Z0p:@Zbs=@Zz:=by
 funext a0 x n
 induction n with
 | zero=>rfl
 | succ n ih=>funext v w; rw [Zbs,Zz,ih]
theorem Z0q:@Zbt=@Zv:=by
 funext a0 x n
 induction n with
 | zero=>rfl
 | succ n ih=>funext v w; rw [Zbt,Zv,ih,Z0p]
theorem Zxp:Canon (fun x y=>x && y) Zai:=by
 refine⟨rfl,fun nr a b m=>?_,fun nr f a b m hf=>?_⟩
 ·rw [Zai,if_pos (by decide)]
  unfold Zfi
  simp only [Option.bind_some]
  split <;> rfl
 ·rw [Zai,if_neg (by simpa using hf),Z0o,Z0q]
  unfold Zfi
  simp only [Option.bind_some,Bool.and_self,Bool.not_false]
  cases (IntKind.wrap .i64 ((a.length:Int) + (b.length:Int)) == (0:Int)) <;> rfl
theorem Zxq:@Zbi=@Zy:=by
 funext a0 a1 a2 a3 z0 r12 n
 induction n with
 | zero=>rfl
 | succ n ih=>funext v94 v95 v96; rw [Zbi,Zy,ih]
theorem Zxr:@Zbj=@Zz:=by
 funext a0 x n
 induction n with
 | zero=>rfl
 | succ n ih=>funext v w; rw [Zbj,Zz,ih]
theorem Zxs:@Zbk=@Zv:=by
 funext a0 x n
 induction n with
 | zero=>rfl
 | succ n ih=>funext v w; rw [Zbk,Zv,ih,Zxr]
theorem Zuc:Canon (fun x y=>x && !y) Zac:=by
 refine⟨rfl,fun nr a b m=>?_,fun nr f a b m hf=>?_⟩
 ·rw [Zac,if_pos (by decide)]
  unfold Zd9
  simp only [Option.bind_some]
  split <;> rfl
 ·rw [Zac,if_neg (by simpa using hf),Zxq,Zxs]
  unfold Zd9
  simp only [Option.bind_some,Bool.not_false,Bool.false_and]
  cases (IntKind.wrap .i64 ((a.length:Int) + (b.length:Int)) == (0:Int)) <;> rfl
end Go.AM
set_option maxRecDepth 100000
namespace Go.AM
open Go
def opc (k:Int) (x y:Bool):Bool:=if k=0 then x || y else if k=1 then x && y else if k=2 then x && !y else !(x == y)
theorem Zzn (k:Int) (x y:Bool):Zgv k x y=some (opc k x y):=by
 unfold Zgv opc
 simp only [Option.bind_some,beq_iff_eq]
 split
 ·rfl
 ·split
  ·rfl
  ·split <;> rfl
theorem Z0r (k:Int) (x y:Bool):∃ r,Zhb k x y=some r∧(r=true→∀ u w,(x=false→u=false)→(y=false→w=false)→opc k u w=false):=by
 unfold Zhb opc
 simp only [Option.bind_some,beq_iff_eq]
 by_cases h1:k=1
 ·subst h1
  refine⟨_,if_pos rfl,fun h u w hu hw=>?_⟩
  simp only [show ¬ (1:Int)=0 by decide,if_false,if_true]
  cases x
  ·rw [hu rfl]; rfl
  ·cases y
   ·rw [hw rfl]; simp
   ·cases h
 ·rw [if_neg h1]
  by_cases h2:k=2
  ·subst h2
   refine⟨_,if_pos rfl,fun h u w hu _=>?_⟩
   simp only [show ¬ (2:Int)=0 by decide,show ¬ (2:Int)=1 by decide,if_false,if_true]
   cases x
   ·rw [hu rfl]; rfl
   ·cases h
  ·rw [if_neg h2]
   refine⟨_,rfl,fun h u w hu hw=>?_⟩
   rw [if_neg h1,if_neg h2]
   cases x <;> cases y <;> simp at h
   rw [hu rfl,hw rfl]
   split <;> rfl
theorem Zwb {f:Nat} (hf:f<5) {e:Int} (h0:0≤e) (h1:e<4294967296):∀(k j n:Nat) (v:List Bx),v.length - j=k→k<n→j≤v.length→v.length≤2000000000 →
  Zdv (f:Int) e n v (j:Int)=some (v.take j++(v.drop j).map fun x=>x.set (f:Int) ({ (x.get (f:Int)) with Hi:=e }:Zb)):=by
 intro k
 induction k with
 | zero=>
  intro j n v hk hn hj hl
  cases n with
  | zero=>omega
  | succ n=>
  rw [Zdv,if_neg (by simp; omega),List.take_of_length_le (by omega),List.drop_eq_nil_of_le (by omega)]
  simp
 | succ k ih=>
  intro j n v hk hn hj hl
  cases n with
  | zero=>omega
  | succ n=>
  have hjl:j<v.length:=by omega
  rw [Zdv,if_pos (by simp; omega),Zaf hjl]
  simp only [Option.bind_some,Int.toNat_natCast]
  rw [if_pos ⟨by omega,by omega⟩,wu32 h0 h1,wsucc (by omega),ih (j + 1) n _ (by rw [List.length_set]; omega) (by omega) (by rw [List.length_set]; omega) (by rw [List.length_set]; exact hl)]
  rw [List.drop_set_of_lt (by omega),List.take_add_one,List.getElem?_eq_getElem (by rw [List.length_set]; exact hjl),List.getElem_set_self,List.take_set_of_le (Nat.le_refl _),List.drop_eq_getElem_cons hjl,List.map_cons,List.append_assoc]
  rfl
theorem Zp3 {f:Nat} (hf:f<5) {r10:List Int} {i:Nat} {p e:Int} (hp:idx r10 (i:Int)=some p) (hp0:0≤p) (hp1:p<4294967296) (h0:0≤e) (h1:e<4294967296) (rest:List RL) (hr:∀ b∈rest,b.length=4 - f) (acc:List Bx) (hl:acc.length + rest.length≤2000000000) :
  Zc4 (f:Int) r10 (i:Int) e (rest.map (pad (f + 1))) fuel acc 0=some (acc++(rest.map ((⟨p,e⟩:Zb) :: ·)).map (pad f)):=by
 have hlen:(rest.map (pad (f + 1))).length=rest.length:=List.length_map _
 have:=Zc7 (L:=Zc4 (f:Int) r10 (i:Int) e (rest.map (pad (f + 1)))) (rest.map (pad (f + 1))) (fun s _ y=>s++[Arr5.set y (f:Int) ⟨p,e⟩]) id (fun i s=>s.length≤acc.length + i) (by omega) (fun n s j hj hs=>by
  rw [Zc4]
  simp only [show ((j:Int)<((rest.map (pad (f + 1))).length:Int)) from by omega,decide_true,if_true,Zaf hj,hp,Option.bind_some,wsucc (by omega:j<1000000000001),List.length_singleton,wu32 hp0 hp1,wu32 h0 h1]
  rw [if_pos ⟨by omega,by omega⟩,if_pos (show s.length + 1≤lim by unfold lim; omega)]
  exact⟨rfl,by simp; omega⟩) (fun n s hs=>by rw [Zc4]; simp) acc (by omega)
 rw [this.1,Zi0,List.map_map,List.map_map]
 simp only [id]
 congr 2
 exact List.map_congr_left fun b hb=>Zo7 hf (hr b hb) _
theorem Zyi {g:Int→List RL} {p q:Int} {c:List Cell} (hu:Upto g p c) (hg0:g p ≠ []):joinC c p q (g p) =
  if 0<p∧g (p - 1)=g p then match c.getLast? with
   | some y=>c.dropLast++[(⟨y.1.Lo,q⟩,g p)]
   | none=>c++[(⟨p,q⟩,g p)]
  else c++[(⟨p,q⟩,g p)]:=by
 unfold joinC
 rw [if_neg hg0]
 cases hl:c.getLast? with
 | none=>simp
 | some y=>
  obtain⟨d,rfl⟩:=List.getLast?_eq_some_iff.1 hl
  have hy:=hu.ord.ok y (List.mem_append_right _ (List.mem_singleton.2 rfl))
  simp only
  by_cases hj:y.1.Hi + 1=p∧y.2=g p
  ·rw [if_pos hj]
   have h1:=hu.at_ y.1.Hi
   rw [lk_mem hu.ord (List.mem_append_right _ (List.mem_singleton.2 rfl)) hy.2.1 (Int.le_refl _),if_pos (by omega)] at h1
   rw [if_pos ⟨by omega,by rw [show p - 1=y.1.Hi by omega,← h1,hj.2]⟩]
  ·rw [if_neg hj,if_neg]
   rintro⟨h1,h2⟩
   have h3:=hu.at_ (p - 1)
   rw [if_pos (by omega),h2] at h3
   obtain⟨x,hx,h4,h5⟩:=Zi1 (c:=d++[y]) (v:=p - 1) (by rw [h3]; exact hg0)
   have hxo:=hu.ord.ok x hx
   rw [lk_mem hu.ord hx h4 h5] at h3
   rcases List.mem_append.1 hx with hxd | hxd
   ·have:=((List.pairwise_append.1 hu.ord.pw).2.2 x hxd y (List.mem_singleton.2 rfl)).1
    omega
   ·rw [List.mem_singleton] at hxd
    subst hxd
    exact hj ⟨by omega,h3⟩
theorem set_set {f:Nat} (b:Bx) (r s:Zb):(b.set (f:Int) r).set (f:Int) s=b.set (f:Int) s:=by
 unfold Arr5.set
 split
 ·rfl
 ·split
  ·rfl
  ·split
   ·rfl
   ·split <;> rfl
theorem Z0s (c:List Cell) (p q:Int) (g:Int→List RL):(g p).length≤(flt (joinC c p (q - 1) (g p))).length:=Zts c p (q - 1) (g p)
theorem Zwc {f:Nat} (hf:f<5) {a b:List Bx} (ha:a.length≤2000000000) (hb:b.length≤2000000000) (hai:∀ x∈a,BIn x) (hbi:∀ x∈b,BIn x) {k:Int}
  {z0:List Bx→List Bx→Int→Int→Option (List Bx)} {ss:List Int} (hss:ss.length≤1000000) {g:Int→List RL} (hg:∀ v,∀ b∈g v,b.length=5 - (f + 1))
  (hz:∀ v,0≤v→v≤topOf (f:Int)→z0 (cov a f v) (cov b f v) k ((f + 1:Nat):Int)=some ((g v).map (pad (f + 1)))) :
  ∀(rem:List Int) (p:Int) (i n:Nat) (c:List Cell) (last:List Bx),(ss++[topOf (f:Int) + 1]).drop i=p :: rem→rem.length<n→Upto g p c→Steps g (p :: rem)→0≤p→(i=0 ↔ p=0)→(0<p→last=(g (p - 1)).map (pad (f + 1)))→(flt (runC g c (p :: rem))).length≤2000000000 →
  Zdw a b k (f:Int) z0 ss n ((flt c).map (pad f)) last (i:Int)=some ((flt (runC g c (p :: rem))).map (pad f)):=by
 intro rem
 induction rem with
 | nil=>
  intro p i n c last hd hn hu hs hp hi0 hlast hc
  cases n with
  | zero=>simp at hn
  | succ n=>
  have hi:ss.length=i:=by
   have h1:=congrArg List.length hd
   rw [List.length_drop,List.length_append] at h1
   simp at h1; omega
  rw [Zdw,if_neg (by simp; omega)]
  rfl
 | cons q rem ih=>
  intro p i n c last hd hn hu hs hp hi0 hlast hc
  cases n with
  | zero=>simp at hn
  | succ n=>
  obtain⟨hpq,hgc,hs'⟩:=hs
  have htop:=topN hf
  have hlen:i + 1≤ss.length:=by
   have h1:=congrArg List.length hd
   rw [List.length_drop,List.length_append] at h1
   simp at h1; omega
  have gi:∀ j,((ss++[topOf (f:Int) + 1]).drop i)[j]? = (ss++[topOf (f:Int) + 1])[i + j]?:=fun j=>List.getElem?_drop
  have h0:idx ss (i:Int)=some p:=by
   have h1:=gi 0
   rw [hd,Nat.add_zero,List.getElem?_append_left (by omega)] at h1
   simp only [List.getElem?_cons_zero] at h1
   rw [Zaf (by omega),← List.getElem?_eq_getElem,← h1]
  have hd':(ss++[topOf (f:Int) + 1]).drop (i + 1)=q :: rem:=by rw [← List.drop_drop,hd]; rfl
  have hasc:∀(l:List Int) (x:Int),Steps g (x :: l)→∀ y,(x :: l).getLast? = some y→x≤y:=by
   intro l
   induction l with
   | nil=>intro x _ y hy; simp at hy; omega
   | cons z l ih2=>
    intro x hx y hy
    rw [List.getLast?_cons_cons] at hy
    have:=ih2 z hx.2.2 y hy
    have:=hx.1
    omega
  have hqt:q≤topOf (f:Int) + 1:=by
   refine hasc rem q hs' _ ?_
   rw [← hd',List.getLast?_drop,if_neg (by rw [List.length_append]; simp; omega),List.getLast?_concat]
  have hpt:p≤topOf (f:Int):=by omega
  have hend:(if (decide ((IntKind.wrap .i64 ((i:Int) + (1:Int)))<(List.length ss:Int)))=true then
    (idx ss (IntKind.wrap .i64 ((i:Int) + (1:Int)))).bind fun(x486:Int)=>
    some (IntKind.wrap .u64 (x486 - (1:Int)))
   else
    some (IntKind.wrap .u64 (topOf (f:Int))))=some (q - 1):=by
   rw [wsucc (by omega)]
   have h1:=gi 1
   rw [hd] at h1
   simp only [List.getElem?_cons_succ,List.getElem?_cons_zero] at h1
   by_cases hi2:i + 1<ss.length
   ·rw [if_pos (by simp; omega)]
    rw [List.getElem?_append_left hi2,List.getElem?_eq_getElem hi2,Option.some.injEq] at h1
    rw [Zaf hi2,← h1]
    simp only [Option.bind_some]
    rw [wu64 (by omega) (by omega)]
   ·rw [if_neg (by simp; omega)]
    rw [List.getElem?_append_right (by omega),show i + 1 - ss.length=0 by omega] at h1
    simp only [List.getElem?_cons_zero,Option.some.injEq] at h1
    rw [wu64 (by omega) (by omega),h1]
    congr 1
    omega
  have e1:IntKind.wrap .u32 p=p:=wu32 hp (by omega)
  have hu':=hu.step hp hpq hgc
  have hq1:g (q - 1)=g p:=hgc _ (by omega) (by omega)
  have hrun:runC g c (p :: q :: rem)=runC g (joinC c p (q - 1) (g p)) (q :: rem):=rfl
  rw [hrun] at hc ⊢
  have hfin:=Zlv g (q :: rem) (joinC c p (q - 1) (g p))
  have key:=ih q (i + 1) n (joinC c p (q - 1) (g p)) ((g p).map (pad (f + 1))) hd' (by simp at hn; omega) hu' hs' (by omega) (by omega) (fun _=>by rw [hq1]) hc
  rw [Zdw,if_pos (by simp; omega),Top_eq _ (by omega) (by omega)]
  simp only [Option.bind_some,hend,h0]
  rw [at_eq ha (by omega) (by omega) _ hai,at_eq hb (by omega) (by omega) _ hbi]
  simp only [Option.bind_some]
  rw [wsucc (i:=f) (by omega),hz p hp hpt]
  simp only [Option.bind_some,List.length_map]
  by_cases hg0:g p=[]
  ·have ej:joinC c p (q - 1) (g p)=c:=by unfold joinC; rw [if_pos hg0]
   rw [ej] at key ⊢
   rw [hg0]
   have h3:=Zp3 hf h0 hp (by omega) (e:=q - 1) (by omega) (by omega) [] (fun _ h=>(by cases h)) ((flt c).map (pad f)) (by
    have:=Zlv g (q :: rem) c
    rw [ej] at hfin hc
    rw [List.length_map]; simp; omega)
   simp only [List.map_nil,List.append_nil] at h3
   have hb2:(decide ((i:Int) > 0) && decide (((([]:List RL).length:Nat):Int) > 0))=false:=by simp
   rw [hb2]
   simp only [Bool.false_eq_true,if_false,Option.bind_some,List.map_nil,h3]
   rw [wsucc (by omega)]
   rw [hg0] at key
   exact key
  ·have hgl:0<(g p).length:=List.length_pos_iff.2 hg0
   have hj:=Zyi (q:=q - 1) hu hg0
   have hb2:(decide ((i:Int) > 0) && decide (((g p).length:Int) > 0))=decide (0<p):=by
    rw [Bool.eq_iff_iff]; simp; omega
   rw [hb2]
   by_cases hjj:0<p∧g (p - 1)=g p
   ·rw [if_pos hjj] at hj
    rw [hlast hjj.1,hjj.2,decide_eq_true hjj.1]
    simp only [if_true]
    rw [Zwv (by rw [List.length_map]; have:=Z0s c p q g; omega)]
    simp only [decide_true,Option.bind_some,if_true]
    have h3:=hu.at_ (p - 1)
    rw [if_pos (by omega),hjj.2] at h3
    cases hl:c.getLast? with
    | none=>
     rw [List.getLast?_eq_none_iff] at hl
     subst hl
     exact absurd h3.symm hg0
    | some y=>
     rw [hl] at hj
     obtain⟨d,rfl⟩:=List.getLast?_eq_some_iff.1 hl
     simp only [List.dropLast_concat] at hj
     rw [hj] at key hfin hc ⊢
     have hy2:y.2=g p:=by
      have hjo:=hj
      unfold joinC at hjo
      rw [if_neg hg0,List.getLast?_concat] at hjo
      simp only [List.dropLast_concat] at hjo
      split at hjo
      ·rename_i hh; exact hh.2
      ·have:=congrArg List.length hjo
       simp at this
     have hyr:∀ b∈y.2,b.length=4 - f:=fun b hb=>by rw [hy2] at hb; have:=hg p b hb; omega
     have hfl:flt (d++[y])=flt d++y.2.map (y.1 :: ·):=by rw [Zer]; simp [flt]
     have hfl2:flt (d++[((⟨y.1.Lo,q - 1⟩:Zb),g p)])=flt d++(g p).map ((⟨y.1.Lo,q - 1⟩:Zb) :: ·):=by rw [Zer]; simp [flt]
     have hlen2:(flt (d++[y])).length=(flt d).length + (g p).length:=by rw [hfl,List.length_append,List.length_map,hy2]
     have hlen3:(flt (d++[((⟨y.1.Lo,q - 1⟩:Zb),g p)])).length=(flt d).length + (g p).length:=by rw [hfl2,List.length_append,List.length_map]
     rw [hlen3] at hfin
     rw [hlen2,wi64 (by omega) (by omega),show (((flt d).length + (g p).length:Nat):Int) - ((g p).length:Int)=(((flt d).length:Nat):Int) by omega]
     rw [Zwb hf (by omega) (by omega) _ _ fuel _ rfl (by rw [List.length_map,hlen2]; unfold fuel; omega) (by rw [List.length_map,hlen2]; omega) (by rw [List.length_map,hlen2]; omega)]
     simp only [Option.bind_some]
     rw [wsucc (by omega)]
     have e9:((flt (d++[y])).map (pad f)).take (flt d).length++(((flt (d++[y])).map (pad f)).drop (flt d).length).map (fun x=>x.set (f:Int) ({ (x.get (f:Int)) with Hi:=q - 1 }:Zb))=(flt (d++[((⟨y.1.Lo,q - 1⟩:Zb),g p)])).map (pad f):=by
      rw [hfl,hfl2,List.map_append,List.take_left' (by rw [List.length_map]),List.drop_left' (by rw [List.length_map]),List.map_append,hy2,List.map_map,List.map_map,List.map_map]
      congr 1
      refine List.map_congr_left fun b hb=>?_
      have hb4:b.length=4 - f:=hyr b (by rw [hy2]; exact hb)
      have hsf:sf f (pad f (y.1 :: b))=y.1 :: b:=sf_pad (by omega) (by rw [List.length_cons]; omega)
      show (pad f (y.1 :: b)).set (f:Int) ({ ((pad f (y.1 :: b)).get (f:Int)) with Hi:=q - 1 }:Zb)=pad f (⟨y.1.Lo,q - 1⟩ :: b)
      have hget:(pad f (y.1 :: b)).get (f:Int)=y.1:=by
       rw [Zmu hf,List.cons.injEq] at hsf
       exact hsf.1
      rw [hget,← Zo7 hf hb4 y.1,set_set,Zo7 hf hb4]
     rw [e9]
     have:=key
     exact this
   ·rw [if_neg hjj] at hj
    rw [hj] at key hfin hc ⊢
    have hfl2:flt (c++[((⟨p,q - 1⟩:Zb),g p)])=flt c++(g p).map ((⟨p,q - 1⟩:Zb) :: ·):=by rw [Zer]; simp [flt]
    have hlen3:(flt (c++[((⟨p,q - 1⟩:Zb),g p)])).length=(flt c).length + (g p).length:=by rw [hfl2,List.length_append,List.length_map]
    rw [hlen3] at hfin
    have hcond:(if decide (0<p)=true then (Zge ((g p).map (pad (f + 1))) last).bind fun(r503:Bool)=>some r503 else some false)=some false:=by
     by_cases h3:0<p
     ·rw [if_pos (decide_eq_true h3),hlast h3,Zwv (by rw [List.length_map]; omega)]
      simp only [Option.bind_some]
      rw [decide_eq_false]
      intro he
      exact hjj ⟨h3,((Zma (by omega) (hg p) (hg (p - 1))).1 he).symm⟩
     ·rw [if_neg (by simpa using h3)]
    rw [hcond]
    simp only [Option.bind_some,Bool.false_eq_true,if_false]
    rw [Zp3 hf h0 hp (by omega) (e:=q - 1) (by omega) (by omega) (g p) (fun b hb=>by have:=hg p b hb; omega) ((flt c).map (pad f)) (by rw [List.length_map]; omega)]
    simp only [Option.bind_some]
    rw [wsucc (by omega)]
    rw [hfl2,List.map_append] at key
    exact key
end Go.AM
set_option maxRecDepth 100000
namespace Go.AM
open Go
theorem Zzo {k:Int}:∀(j f nr:Nat) (a b:List Bx) (l:List RL),f + j=5→j<nr→a.length + b.length≤400000→(∀ x∈a,BOk x)→(∀ x∈b,BOk x) →
  Is (opc k) (tops5.drop f) (a.map (sf f)) (b.map (sf f)) l→l.length≤2000000000→Zcd nr a b k (f:Int)=some (l.map (pad f)):=by
 intro j
 induction j with
 | zero=>
  intro f nr a b l hf hn hl ha hb hL hlen
  have hf:f=5:=by omega
  subst hf
  cases nr with
  | zero=>omega
  | succ nr=>
  have h1:=hL.mem [] trivial
  rw [mS5,mS5] at h1
  rw [show ((5:Nat):Int)=5 from rfl,Zcd,if_pos (by decide),Zzn]
  simp only [Option.bind_some]
  rw [← h1]
  rcases hL.cf with rfl | rfl
  ·rfl
  ·rfl
 | succ j ih=>
  intro f nr a b l hf hn hl ha hb hL hlen
  have hf5:f<5:=by omega
  cases nr with
  | zero=>omega
  | succ nr=>
  rw [Zoy hf5] at hL
  rw [Zcd,if_neg (by simp; omega)]
  obtain⟨r,hr1,hr2⟩:=Z0r k (decide ((a.length:Int) > 0)) (decide ((b.length:Int) > 0))
  rw [hr1]
  simp only [Option.bind_some]
  cases r with
  | true=>
   rw [if_pos rfl]
   have:l=[]:=by
    refine hL.inj ⟨CF_nil _,fun p hp=>?_⟩
    rw [mS_nil]
    refine(hr2 rfl _ _ (fun h=>?_) (fun h=>?_)).symm
    ·have:a=[]:=List.length_eq_zero_iff.1 (by simp at h; simp [h])
     subst this; rfl
    ·have:b=[]:=List.length_eq_zero_iff.1 (by simp at h; simp [h])
     subst this; rfl
   rw [this]
   rfl
  | false=>
   rw [if_neg (by simp)]
   rw [Zyg hf5 hl]
   simp only [Option.bind_some]
   rw [Top_eq _ (by omega) (by omega)]
   simp only [Option.bind_some]
   have hab:∀ x∈a++b,BOk x:=fun x hx=>(List.mem_append.1 hx).elim (ha x) (hb x)
   obtain⟨ss,hs1,hs2⟩:=Zyh (rs:=(a++b).map fun x=>x.get (f:Int)) (top:=topOf (f:Int)) (by rw [List.length_map,List.length_append]; exact hl) (topN hf5).1 (by have:=topN hf5; omega) (fun y hy=>by
    obtain⟨x,hx,rfl⟩:=List.mem_map.1 hy
    exact(hab x hx).at_ hf5)
   rw [hs1]
   simp only [Option.bind_some]
   have hps:=Zxo hf5 hab hs2
   obtain⟨c,rfl,ho,hc⟩:=hL.cf
   obtain⟨⟨tl,he,hst,hr⟩,hg,hz⟩:=level hf5 hps hL ho hc
   have hlen2:=hs2.len
   rw [List.length_map,List.length_append] at hlen2
   have hmain:=Zwc hf5 (a:=a) (b:=b) (by omega) (by omega) (fun x hx=>(ha x hx).bin) (fun x hx=>(hb x hx).bin) (k:=k) (z0:=Zcd nr) (ss:=ss) (by omega) (g:=lk c) (fun v b' hb'=>by rw [hg v b' hb']; omega) (fun v h0 h1=>by
    refine ih (f + 1) nr _ _ _ (by omega) (by omega) ?_ (BOk.all ha _ _) (BOk.all hb _ _) (hz v h0 h1) ?_
    ·have:=Zo9 a (f:Int) v
     have:=Zo9 b (f:Int) v
     omega
    ·have:=lk_le c ho v; omega) tl 0 0 fuel [] [] (by rw [he]; rfl) (by
     have:=congrArg List.length he
     rw [List.length_append] at this
     simp at this
     unfold fuel; omega) (Upto.nil _) hst (Int.le_refl _) (by simp) (fun h=>by omega) (by rw [hr]; exact hlen)
   rw [hr] at hmain
   rw [show ((0:Nat):Int)=0 from rfl] at hmain
   rw [show (flt []).map (pad f)=[] from rfl] at hmain
   rw [hmain]
   rfl
def mem (l:List Bx) (p:List Int):Bool:=mS (l.map toL) p
def CFb (l:List Bx):Prop:=CF tops5 (l.map toL)
theorem CF_vR:∀(ts:List Int) {l:List RL},CF ts l→∀ b∈l,vR ts b
 | [],l,h,b,hb=>by
  rcases h with rfl | rfl
  ·cases hb
  ·rw [List.mem_singleton] at hb; rw [hb]; trivial
 | t :: ts,l,⟨c,h1,h2,h3⟩,b,hb=>by
  subst h1
  obtain⟨x,hx,hb⟩:=List.mem_flatMap.1 hb
  obtain⟨b',hb',rfl⟩:=List.mem_map.1 hb
  have:=h2.ok x hx
  exact⟨this.1,this.2.1,this.2.2.1,CF_vR ts (h3 x hx) b' hb'⟩
theorem vR_ok {b:Bx} (h:vR tops5 (toL b)):BOk b:=by
 obtain⟨a0,a1,a2,b0,b1,b2,c0,c1,c2,d0,d1,d2,e0,e1,e2,_⟩:=h
 exact⟨⟨a0,a1,a2⟩,⟨b0,b1,b2⟩,⟨c0,c1,c2⟩,⟨d0,d1,d2⟩,⟨e0,e1,e2⟩⟩
theorem CFb.ok {l:List Bx} (h:CFb l):∀ b∈l,BOk b:=fun b hb=>vR_ok (CF_vR _ h _ (List.mem_map_of_mem hb))
theorem Zwd {l:List RL} (h:∀ b∈l,b.length=5):(l.map (pad 0)).map toL=l:=by
 rw [List.map_map]
 conv=>rhs; rw [← List.map_id l]
 exact List.map_congr_left fun b hb=>Zwu (h b hb)
theorem Zvk:∀ t∈tops5,0≤t:=by unfold tops5; simp
theorem Zxt (op:Bool→Bool→Bool) (a b:List Bx):∃ l:List Bx,Is op tops5 (a.map toL) (b.map toL) (l.map toL):=by
 obtain⟨l,h⟩:=Is.exists_ op tops5 Zvk (a.map toL) (b.map toL)
 refine⟨l.map (pad 0),?_⟩
 rw [Zwd (fun b hb=>CF_len _ h.cf b hb)]
 exact h
structure Can (op:Bool→Bool→Bool) (a b l:List Bx):Prop where
 cf:CFb l
 mem:∀ p,vP tops5 p→mem l p=op (mem a p) (mem b p)
theorem Can.is {op:Bool→Bool→Bool} {a b l:List Bx} (h:Can op a b l):Is op tops5 (a.map toL) (b.map toL) (l.map toL):=⟨h.cf,h.mem⟩
theorem Zp4 {l l':List Bx} (h:l.map toL=l'.map toL):l=l':=by
 have:=congrArg (List.map ofL) h
 rw [List.map_map,List.map_map] at this
 have e:(ofL ∘ toL)=id:=funext fun b=>Zo8 b
 rw [e,List.map_id,List.map_id] at this
 exact this
theorem CFb.inj {l l':List Bx} (h:CFb l) (h':CFb l') (e:∀ p,vP tops5 p→mem l p=mem l' p):l=l':=Zp4 (CF_inj _ h h' e)
theorem Can.inj {op:Bool→Bool→Bool} {a b l l':List Bx} (h:Can op a b l) (h':Can op a b l'):l=l':=h.cf.inj h'.cf fun p hp=>by rw [h.mem p hp,h'.mem p hp]
theorem Can.ex (op:Bool→Bool→Bool) (a b:List Bx):∃ l,Can op a b l:=by
 obtain⟨l,h⟩:=Zxt op a b
 exact⟨l,h.cf,h.mem⟩
theorem CFb.nil:CFb []:=CF_nil _
theorem Zkr (p:List Int):mem [] p=false:=rfl
theorem Zwy (l:List Bx):(l.map toL).map (pad 0)=l:=by
 rw [List.map_map]
 have e:(pad 0 ∘ toL)=id:=funext fun b=>Zo8 b
 rw [e,List.map_id]
theorem Zoz {op:Bool→Bool→Bool} {C:Nat→Int→List Bx→List Bx→Int→Option (List Bx × Bool)} (hC:Canon op C) {a b l:List Bx} (hl:a.length + b.length≤400000) (ha:∀ x∈a,BOk x) (hb:∀ x∈b,BOk x) (h:Can op a b l) :
  C fuel 0 a b 4096=some (if l.length≤4096 then (l,true) else ([],false)):=by
 have:=Zzm hC (m:=4096) (by omega) (by omega) 5 0 fuel a b (l.map toL) (by omega) (by unfold fuel; omega) hl ha hb h.is
 rw [show ((0:Nat):Int)=0 from rfl,show ((4096:Nat):Int)=4096 from rfl] at this
 rw [this]
 unfold capd
 rw [List.length_map,Zwy]
theorem Zyj {k:Int} {a b l:List Bx} (hl:a.length + b.length≤400000) (ha:∀ x∈a,BOk x) (hb:∀ x∈b,BOk x) (h:Can (opc k) a b l) (hlen:l.length≤2000000000):Zcd fuel a b k 0=some l:=by
 have:=Zzo (k:=k) 5 0 fuel a b (l.map toL) (by omega) (by unfold fuel; omega) hl ha hb h.is (by rw [List.length_map]; exact hlen)
 rw [show ((0:Nat):Int)=0 from rfl] at this
 rw [this,Zwy]
def capB (l:List Bx):List Bx × Int:=if l.length≤4096 then (l,0) else ([],3)
theorem Zs3 {a b l:List Bx} (hl:a.length + b.length≤400000) (ha:∀ x∈a,BOk x) (hb:∀ x∈b,BOk x) (h:Can (fun x y=>x || y) a b l):Za3 a b=some (capB l):=by
 unfold Za3 capB
 rw [Zoz Zvj hl ha hb h]
 by_cases h:l.length≤4096
 ·rw [if_pos h,if_pos h]; rfl
 ·rw [if_neg h,if_neg h]; rfl
theorem Zvl {a b l:List Bx} (hl:a.length + b.length≤400000) (ha:∀ x∈a,BOk x) (hb:∀ x∈b,BOk x) (h:Can (fun x y=>x && y) a b l):Zc6 a b=some (capB l):=by
 unfold Zc6 capB
 rw [Zoz Zxp hl ha hb h]
 by_cases h:l.length≤4096
 ·rw [if_pos h,if_pos h]; rfl
 ·rw [if_neg h,if_neg h]; rfl
theorem Zsc {a b l:List Bx} (hl:a.length + b.length≤400000) (ha:∀ x∈a,BOk x) (hb:∀ x∈b,BOk x) (h:Can (fun x y=>x && !y) a b l):Zcu a b=some (capB l):=by
 unfold Zcu capB
 rw [Zoz Zuc hl ha hb h]
 by_cases h:l.length≤4096
 ·rw [if_pos h,if_pos h]; rfl
 ·rw [if_neg h,if_neg h]; rfl
end Go.AM
set_option maxRecDepth 100000
namespace Go.AM
open Go
theorem Ztt {a b:Zb}:Zex a b=true ↔ a=b:=by rw [eq_rg]; simp
structure RunTo (f:Nat) (l:List Bx) (r:Zb) (n:Nat):Prop where
 h1:n≤l.length
 eq:∀ i (h:i<l.length),i<n→(l[i]).get (f:Int)=r
 ne:∀(h:n<l.length),(l[n]).get (f:Int) ≠ r
theorem Zzp {f:Nat} (hf:f<5) {l:List Bx} (hl:l.length≤1000000) {b0:Bx} (h0:l[0]? = some b0):∀(k j n:Nat),l.length - j=k→k<n→1≤j→j≤l.length→(∀ i (h:i<l.length),i<j→(l[i]).get (f:Int)=b0.get (f:Int)) →
  ∃ N:Nat,Zcv (f:Int) l n (j:Int)=some (N:Int)∧j≤N∧RunTo f l (b0.get (f:Int)) N:=by
 intro k
 have hpos:0<l.length:=by
  rcases l with _ | ⟨x,l⟩
  ·simp at h0
  ·simp
 have i0:idx l (0:Int)=some b0:=by rw [show (0:Int)=((0:Nat):Int) from rfl,Zaf hpos,← List.getElem?_eq_getElem,h0]
 induction k with
 | zero=>
  intro j n hk hn h1 hj he
  cases n with
  | zero=>omega
  | succ n=>
  have hd:decide ((j:Int)<(l.length:Int))=false:=by simp; omega
  rw [Zcv,hd]
  exact⟨j,rfl,Nat.le_refl _,hj,he,fun h=>by omega⟩
 | succ k ih=>
  intro j n hk hn h1 hj he
  cases n with
  | zero=>omega
  | succ n=>
  have hjl:j<l.length:=by omega
  have hd:decide ((j:Int)<(l.length:Int))=true:=by simp; omega
  rw [Zcv,hd]
  simp only [Option.bind_some,if_true,Zaf hjl,i0]
  rw [if_pos ⟨by omega,by omega⟩,if_pos ⟨by omega,by omega⟩]
  simp only [Option.bind_some]
  by_cases hq:(l[j]).get (f:Int)=b0.get (f:Int)
  ·rw [if_pos (Ztt.2 hq),wsucc (by omega)]
   obtain⟨N,e,g1,g2⟩:=ih (j + 1) n (by omega) (by omega) (by omega) (by omega) (fun i h hi=>by
    rcases Nat.lt_or_eq_of_le (Nat.lt_succ_iff.1 hi) with h2 | h2
    ·exact he i h h2
    ·subst h2; exact hq)
   exact⟨N,e,by omega,g2⟩
  ·rw [if_neg (fun h=>hq (Ztt.1 h))]
   exact⟨j,rfl,Nat.le_refl _,hj,he,fun _=>hq⟩
theorem Zyk {f:Nat} (hf:f<5) {l:List Bx} {r:Zb} {n:Nat} (hn:1≤n) (h:RunTo f l r n) (hl:l ≠ []) :
  l.map (sf f)=((l.take n).map (sf (f + 1))).map (r :: ·)++(l.drop n).map (sf f)∧(l.take n).map (sf (f + 1)) ≠ []∧∀ b,((l.drop n).map (sf f)).head? = some b→∃ r' b',b=r' :: b'∧r' ≠ r:=by
 refine⟨?_,?_,?_⟩
 ·conv=>lhs; rw [← List.take_append_drop n l,List.map_append]
  congr 1
  rw [List.map_map]
  refine List.map_congr_left fun b hb=>?_
  obtain⟨i,hi,rfl⟩:=List.getElem_of_mem hb
  have hi2:i<n∧i<l.length:=by rw [List.length_take] at hi; omega
  rw [List.getElem_take,Zmu hf,h.eq i hi2.2 hi2.1]
  rfl
 ·intro e
  have:=congrArg List.length e
  simp only [List.length_map,List.length_take,List.length_nil] at this
  have:0<l.length:=List.length_pos_iff.2 hl
  omega
 ·intro b hb
  by_cases hnl:n<l.length
  ·rw [List.drop_eq_getElem_cons hnl] at hb
   simp only [List.map_cons,List.head?_cons,Option.some.injEq] at hb
   exact⟨_,_,by rw [← hb,Zmu hf],h.ne hnl⟩
  ·rw [List.drop_eq_nil_of_le (by omega)] at hb
   simp at hb
def zpre (f:Nat) (b:Bx):Bx:=pad (f + 1) (sf (f + 1) b)
theorem Zyl {f:Nat} (hf:f<5) {v:List Bx} {i:Nat} (hi:i<v.length):Zbv (f:Int) (i:Int) fuel v 0=some (v.set i (zpre f v[i])):=by
 obtain⟨n,hn⟩:∃ n,fuel=n + 6:=⟨fuel - 6,by unfold fuel; omega⟩
 rw [hn]
 have stop:∀(k:Nat) (m:Nat) (w:List Bx),f<k→Zbv (f:Int) (i:Int) (m + 1) w (k:Int)=some w:=by
  intro k m w hk
  rw [Zbv,if_neg (by simp; omega)]
 have nx:∀(k:Nat) (m:Nat) (x:Bx),k<5→k≤f→Zbv (f:Int) (i:Int) (m + 1) (v.set i x) (k:Int)=Zbv (f:Int) (i:Int) m (v.set i (x.set (k:Int) zr)) ((k + 1:Nat):Int):=by
  intro k m x hk hkf
  rw [Zbv,if_pos (by simp; omega),Zaf (show i<(v.set i x).length by rw [List.length_set]; exact hi),List.getElem_set_self]
  simp only [Option.bind_some,Int.toNat_natCast]
  rw [if_pos ⟨by omega,by omega⟩,wsucc (by omega),List.set_set]
  rfl
 have first:v=v.set i v[i]:=(List.set_getElem_self hi).symm
 conv=>lhs; rw [first]
 rw [show (0:Int)=((0:Nat):Int) from rfl]
 rcases fiveN hf with rfl | rfl | rfl | rfl | rfl
 ·rw [nx 0 _ _ (by omega) (by omega),stop _ _ _ (by omega)]; rfl
 ·rw [nx 0 _ _ (by omega) (by omega),nx 1 _ _ (by omega) (by omega),stop _ _ _ (by omega)]; rfl
 ·rw [nx 0 _ _ (by omega) (by omega),nx 1 _ _ (by omega) (by omega),nx 2 _ _ (by omega) (by omega),stop _ _ _ (by omega)]; rfl
 ·rw [nx 0 _ _ (by omega) (by omega),nx 1 _ _ (by omega) (by omega),nx 2 _ _ (by omega) (by omega),nx 3 _ _ (by omega) (by omega),stop _ _ _ (by omega)]; rfl
 ·rw [nx 0 _ _ (by omega) (by omega),nx 1 _ _ (by omega) (by omega),nx 2 _ _ (by omega) (by omega),nx 3 _ _ (by omega) (by omega),nx 4 _ _ (by omega) (by omega),stop _ _ _ (by omega)]; rfl
def stepN {α:Type} (g:α→α) (s:List α) (i:Nat) (_:α):List α:=match s[i]? with
 | some x=>s.set i (g x)
 | none=>s
theorem Zkm {α:Type} (g:α→α):∀(l pre:List α),foldI (stepN g) (pre++l) pre.length l=pre++l.map g
 | [],pre=>by simp [foldI]
 | x :: l,pre=>by
  have e:foldI (stepN g) (pre++x :: l) pre.length (x :: l)=foldI (stepN g) (stepN g (pre++x :: l) pre.length x) (pre.length + 1) l:=rfl
  rw [e]
  have h1:(pre++x :: l)[pre.length]? = some x:=by rw [List.getElem?_append_right (Nat.le_refl _),Nat.sub_self]; rfl
  have h2:(pre++x :: l).set pre.length (g x)=(pre++[g x])++l:=by rw [List.set_append_right _ _ (Nat.le_refl _),Nat.sub_self]; simp
  have h3:stepN g (pre++x :: l) pre.length x=(pre++[g x])++l:=by unfold stepN; rw [h1]; exact h2
  rw [h3]
  have:=Zkm g l (pre++[g x])
  rw [List.length_append,List.length_singleton] at this
  rw [this]
  simp
theorem Zym {f:Nat} (hf:f<5) {l:List Bx} (hl:l.length≤2000000000):Zf5 (f:Int) l=some (l.map (zpre f)):=by
 unfold Zf5
 rw [if_pos (by unfold lim; omega)]
 have:=Zc7 (L:=Zda (f:Int) l) l (stepN (zpre f)) id (fun _ s=>s.length=l.length) (by omega) (fun n s i hi hs=>by
  rw [Zda]
  simp only [show ((i:Int)<(l.length:Int)) from by omega,decide_true,if_true,Option.bind_some,wsucc (by omega:i<1000000000001)]
  rw [Zyl hf (show i<s.length by omega)]
  have h3:stepN (zpre f) s i l[i]=s.set i (zpre f s[i]):=by unfold stepN; rw [List.getElem?_eq_getElem (show i<s.length by omega)]
  rw [h3]
  exact⟨rfl,by rw [List.length_set]; exact hs⟩) (fun n s hs=>by rw [Zda]; simp) l rfl
 have h2:=Zkm (zpre f) l []
 rw [List.nil_append,List.nil_append,List.length_nil] at h2
 rw [this.1,h2]
 rfl
def lastG (f:Nat):Option Cell→Zh
 | none=>Zf3
 | some x=>gr1 f x
theorem Zud {f:Nat} (hf:f<5) {z0:Int→List Bx→Option Bool}
  (hz:∀ l:List Bx,l.length≤1000000→(∀ x∈l,BOk x)→∃ r,z0 ((f + 1:Nat):Int) l=some r∧(r=true ↔ CF (tops5.drop (f + 1)) (l.map (sf (f + 1))))) :
  ∀(K n:Nat) (l:List Bx) (last:Option Cell),l.length≤K→K<n→l.length≤1000000→(∀ x∈l,BOk x)→(∀ y∈last,y.2 ≠ []∧y.2.length≤1000000∧0≤y.1.Hi∧y.1.Hi<4294967296∧∀ b∈y.2,b.length=5 - (f + 1)) →
  ∃ o,Zb9 (f:Int) z0 n (lastG f last) l=some o∧((∃ c,l.map (sf f)=flt c∧Nx (topOf (f:Int)) (tops5.drop (f + 1)) last c)→∃ g,o=.inl g)∧(¬ (∃ c,l.map (sf f)=flt c∧Nx (topOf (f:Int)) (tops5.drop (f + 1)) last c)→o=.inr false):=by
 intro K
 induction K with
 | zero=>
  intro n l last hlK hn hl hok hlast
  have:l=[]:=List.length_eq_zero_iff.1 (by omega)
  subst this
  cases n with
  | zero=>omega
  | succ n=>
  rw [Zb9,if_neg (by simp)]
  exact⟨_,rfl,fun _=>⟨_,rfl⟩,fun h=>absurd ⟨[],rfl,Nx.nil ..⟩ h⟩
 | succ K ih=>
  intro n l last hlK hn hl hok hlast
  cases n with
  | zero=>omega
  | succ n=>
  cases hll:l with
  | nil=>
   rw [Zb9,if_neg (by simp)]
   exact⟨_,rfl,fun _=>⟨_,rfl⟩,fun h=>absurd ⟨[],rfl,Nx.nil ..⟩ h⟩
  | cons b0 l'=>
  have hne:l ≠ []:=by rw [hll]; exact List.cons_ne_nil _ _
  have hpos:0<l.length:=List.length_pos_iff.2 hne
  have h0:l[0]? = some b0:=by rw [hll]; rfl
  have i0:idx l (0:Int)=some b0:=by rw [show (0:Int)=((0:Nat):Int) from rfl,Zaf hpos,← List.getElem?_eq_getElem,h0]
  obtain⟨N,e1,g1,g2⟩:=Zzp hf hl h0 (l.length - 1) 1 fuel rfl (by unfold fuel; omega) (Nat.le_refl _) (by omega) (fun i h hi=>by
   have:i=0:=by omega
   subst this
   rw [List.getElem?_eq_getElem h,Option.some.injEq] at h0
   rw [h0])
  rw [← hll]
  obtain⟨s1,s2,s3⟩:=Zyk hf g1 g2 hne
  have hb0:BOk b0:=hok b0 (by rw [hll]; exact List.mem_cons_self ..)
  have hb0r:=hb0.at_ hf
  have htop:=topN hf
  rw [Zb9,if_pos (by simp; omega)]
  rw [show ((1:Nat):Int)=1 from rfl] at e1
  rw [e1]
  simp only [Option.bind_some,i0,Int.toNat_natCast,Int.toNat_zero,List.drop_zero]
  have hN:=g2.h1
  rw [if_pos ⟨by omega,by omega⟩,if_pos ⟨by omega,by omega,by omega⟩]
  have htl:(l.take N).length≤1000000:=by rw [List.length_take]; omega
  rw [Zym hf (by omega)]
  simp only [Option.bind_some]
  rw [if_pos ⟨by omega,by omega,by omega⟩,wsucc (by omega)]
  obtain⟨rv,z1,z2⟩:=hz (l.take N) htl (fun x hx=>hok x (List.mem_of_mem_take hx))
  rw [z1]
  simp only [Option.bind_some]
  rw [s1]
  have hrun:=Nx.run (t:=topOf (f:Int)) (ts:=tops5.drop (f + 1)) (last:=last) (r:=b0.get (f:Int)) s2 s3
  rw [hrun]
  cases rv with
  | false=>
   simp only [Bool.not_false,if_true]
   have hncf:¬ CF (tops5.drop (f + 1)) ((l.take N).map (sf (f + 1))):=fun h=>by have:=z2.2 h; cases this
   exact⟨_,rfl,fun h=>absurd h.2.1 hncf,fun _=>rfl⟩
  | true=>
   simp only [Bool.not_true,Bool.false_eq_true,if_false]
   have hcf:=z2.1 rfl
   have hzl:∀ b∈(l.take N).map (sf (f + 1)),b.length=5 - (f + 1):=fun b hb=>by
    obtain⟨x,_,rfl⟩:=List.mem_map.1 hb
    exact sf_len (by omega) x
   have hzm:(l.take N).map (zpre f)=((l.take N).map (sf (f + 1))).map (pad (f + 1)):=by rw [List.map_map]; rfl
   have hgap:∃ og:Unit ⊕ Bool,(if decide (((lastG f last).f_rest.length:Int) > 0)=true then
      (if decide ((b0.get (f:Int)).Lo≤(lastG f last).f_values.Hi)=true then some true else
       (if ((b0.get (f:Int)).Lo == (IntKind.wrap .u32 ((lastG f last).f_values.Hi + (1:Int))))=true then
        (Zan ((l.take N).map (zpre f)) (lastG f last).f_rest).bind fun(r223:Bool)=>
        some r223
        else some false).bind fun(v225:Bool)=>
       some v225
       ).bind fun(v227:Bool)=>
      if v227=true then
       (some (.inr false):Option (Unit ⊕ Bool))
      else
       some (.inl ())
     else
      some (.inl ()))=some og∧((∀ y∈last,gp y (b0.get (f:Int),(l.take N).map (sf (f + 1))))→og=.inl ())∧(¬ (∀ y∈last,gp y (b0.get (f:Int),(l.take N).map (sf (f + 1))))→og=.inr false):=by
    cases last with
    | none=>
     rw [if_neg (show ¬ decide (((lastG f none).f_rest.length:Int) > 0)=true from fun h=>by cases h)]
     exact⟨_,rfl,fun _=>rfl,fun h=>absurd (fun y hy=>by cases hy) h⟩
    | some y=>
     obtain⟨y1,y2,y3,y4,y5⟩:=hlast y rfl
     have hyl:0<y.2.length:=List.length_pos_iff.2 y1
     have hall:(∀ z∈some y,gp z (b0.get (f:Int),(l.take N).map (sf (f + 1)))) ↔ gp y (b0.get (f:Int),(l.take N).map (sf (f + 1))):=⟨fun h=>h y rfl,fun h z hz=>by cases hz; exact h⟩
     simp only [lastG,show (gr1 f y).f_rest=y.2.map (pad (f + 1)) from rfl,show (gr1 f y).f_values=y.1 from rfl,List.length_map]
     rw [if_pos (by simp; omega),hall]
     unfold gp
     by_cases c1:(b0.get (f:Int)).Lo≤y.1.Hi
     ·rw [if_pos (decide_eq_true c1)]
      simp only [Option.bind_some,if_true]
      exact⟨_,rfl,fun h=>by have:=h.1; omega,fun _=>rfl⟩
     ·rw [if_neg (by simpa using c1)]
      rw [wu32 (x:=y.1.Hi + 1) (by omega) (by omega)]
      by_cases c2:(b0.get (f:Int)).Lo=y.1.Hi + 1
      ·rw [if_pos (by simpa using c2),Zvc (by rw [List.length_map]; omega),hzm]
       have hmi:=Zma (f:=f + 1) (by omega) hzl y5
       simp only [Option.bind_some,decide_eq_true_eq,hmi]
       by_cases c3:(l.take N).map (sf (f + 1))=y.2
       ·rw [if_pos c3]
        exact⟨_,rfl,fun h=>absurd c3.symm (h.2 (by omega)),fun _=>rfl⟩
       ·rw [if_neg c3]
        exact⟨_,rfl,fun _=>rfl,fun h=>absurd ⟨by omega,fun _ h=>c3 h.symm⟩ h⟩
      ·rw [if_neg (by simpa using c2)]
       simp only [Option.bind_some,Bool.false_eq_true,if_false]
       exact⟨_,rfl,fun _=>rfl,fun h=>absurd ⟨by omega,fun h=>absurd h.symm c2⟩ h⟩
   obtain⟨og,og1,og2,og3⟩:=hgap
   rw [og1]
   by_cases hg:∀ y∈last,gp y (b0.get (f:Int),(l.take N).map (sf (f + 1)))
   ·rw [og2 hg]
    simp only [Option.bind_some]
    rw [if_pos ⟨by omega,by omega,by omega⟩,List.take_length]
    rw [show (Zh.mk (b0.get (f:Int)) ((l.take N).map (zpre f)))=lastG f (some (b0.get (f:Int),(l.take N).map (sf (f + 1)))) by rw [hzm]; rfl]
    obtain⟨o,o1,o2,o3⟩:=ih n (l.drop N) (some (b0.get (f:Int),(l.take N).map (sf (f + 1)))) (by rw [List.length_drop]; omega) (by omega) (by rw [List.length_drop]; omega) (fun x hx=>hok x (List.mem_of_mem_drop hx)) (fun y hy=>by
     cases hy
     refine⟨s2,by rw [List.length_map]; exact htl,by show 0≤(b0.get (f:Int)).Hi; omega,by show (b0.get (f:Int)).Hi<4294967296; omega,hzl⟩)
    refine⟨o,o1,fun h=>o2 h.2.2.2,fun h=>o3 fun h2=>h ⟨⟨by omega,by omega,by omega⟩,hcf,hg,h2⟩⟩
   ·rw [og3 hg]
    simp only [Option.bind_some]
    exact⟨_,rfl,fun h=>absurd h.2.2.1 hg,fun _=>rfl⟩
theorem Zxu:∀(k f nr:Nat) (l:List Bx),f + k=5→k<nr→l.length≤1000000→(∀ x∈l,BOk x)→∃ r,Zbp nr (f:Int) l=some r∧(r=true ↔ CF (tops5.drop f) (l.map (sf f))):=by
 intro k
 induction k with
 | zero=>
  intro f nr l hf hn hl hok
  have:f=5:=by omega
  subst this
  cases nr with
  | zero=>omega
  | succ nr=>
  rw [Zbp,if_pos (by decide)]
  refine⟨_,rfl,?_⟩
  show _ ↔ (l.map (sf 5)=[]∨l.map (sf 5)=[[]])
  rcases l with _ | ⟨x,_ | ⟨y,l⟩⟩
  ·simp
  ·exact⟨fun _=>Or.inr rfl,fun _=>by simp⟩
  ·constructor
   ·intro h; simp at h; omega
   ·rintro(h | h) <;> simp at h
 | succ k ih=>
  intro f nr l hf hn hl hok
  have hf5:f<5:=by omega
  cases nr with
  | zero=>omega
  | succ nr=>
  rw [Zbp,if_neg (by simp; omega),Zoy hf5,CF_iff]
  obtain⟨o,o1,o2,o3⟩:=Zud hf5 (z0:=Zbp nr) (fun l hl hok=>ih (f + 1) nr l (by omega) (by omega) hl hok) l.length fuel l none (Nat.le_refl _) (by unfold fuel; omega) hl hok (fun y hy=>(by cases hy))
  rw [show lastG f none=Zf3 from rfl] at o1
  rw [o1]
  by_cases h:∃ c,l.map (sf f)=flt c∧Nx (topOf (f:Int)) (tops5.drop (f + 1)) none c
  ·obtain⟨g,rfl⟩:=o2 h
   exact⟨true,rfl,fun _=>h,fun _=>rfl⟩
  ·rw [o3 h]
   exact⟨false,rfl,fun h=>(by cases h),fun h2=>absurd h2 h⟩
structure VS (l:List Bx):Prop where
 len:l.length≤4096
 ok:∀ x∈l,BOk x
 cf:CFb l
theorem VS.of {l:List Bx} (h:CFb l) (hl:l.length≤4096):VS l:=⟨hl,h.ok,h⟩
theorem Ztu {l:List Bx} (hin:∀ x∈l,BIn x):(l.filter vB).length=l.length ↔ ∀ x∈l,BOk x:=by
 rw [List.length_filter_eq_length_iff]
 exact⟨fun h x hx=>vB_ok (hin x hx) (h x hx),fun h x hx=>ok_vB (h x hx)⟩
theorem Zyn {l:List Bx} (hl:l.length≤1000000) (hin:∀ x∈l,BIn x):∃ r,Zd5 l=some r∧(r=true ↔ VS l):=by
 unfold Zd5
 by_cases h1:l.length≤4096
 ·have hd:decide ((l.length:Int)≤4096)=true:=by simp; omega
  rw [hd]
  simp only [Option.bind_some,if_true]
  rw [Ztq (by omega)]
  simp only [Option.bind_some]
  by_cases h2:∀ x∈l,BOk x
  ·have he:(((l.filter vB).length:Int) == (l.length:Int))=true:=by rw [(Ztu hin).2 h2]; simp
   rw [he]
   simp only [if_true]
   obtain⟨r,e,g⟩:=Zxu 5 0 fuel l (by omega) (by unfold fuel; omega) hl h2
   rw [show ((0:Nat):Int)=0 from rfl] at e
   rw [e]
   refine⟨r,rfl,g.trans ⟨fun h=>⟨h1,h2,h⟩,fun h=>h.cf⟩⟩
  ·have he:(((l.filter vB).length:Int) == (l.length:Int))=false:=by
    have h3:¬ (l.filter vB).length=l.length:=fun h=>h2 ((Ztu hin).1 h)
    simp only [beq_eq_false_iff_ne,ne_eq]
    omega
   rw [he]
   exact⟨false,rfl,fun h=>(by cases h),fun h=>absurd h.ok h2⟩
 ·have hd:decide ((l.length:Int)≤4096)=false:=by simp; omega
  rw [hd]
  exact⟨false,rfl,fun h=>(by cases h),fun h=>absurd h.len h1⟩
end Go.AM
set_option maxRecDepth 100000
namespace Go.AM
open Go
end Go.AM
set_option maxRecDepth 100000
namespace Go.AM
open Go
def sumL {α:Type} (f:α→Nat) (l:List α):Nat:=l.foldr (fun x n=>f x + n) 0
theorem Zet {α:Type} (f:α→Nat) (x:α) (l:List α):sumL f (x :: l)=f x + sumL f l:=rfl
theorem Zna {α:Type} (f g:α→Nat) (l:List α):sumL (fun x=>f x + g x) l=sumL f l + sumL g l:=by
 induction l with
 | nil=>rfl
 | cons x l ih=>rw [Zet,Zet,Zet,ih]; omega
theorem Zwz {α:Type} {f g:α→Nat} {l:List α} (h:∀ x∈l,f x≤g x):sumL f l≤sumL g l:=by
 induction l with
 | nil=>exact Nat.le_refl _
 | cons x l ih=>
  rw [Zet,Zet]
  have:=h x (List.mem_cons_self ..)
  have:=ih fun y hy=>h y (List.mem_cons_of_mem _ hy)
  omega
theorem Zq4 {α:Type} (k:Nat) (f:α→Nat) (l:List α):sumL (fun x=>k * f x) l=k * sumL f l:=by
 induction l with
 | nil=>rfl
 | cons x l ih=>rw [Zet,Zet,ih,Nat.mul_add]
theorem Zw0 {α:Type} (p:α→Bool) (f:α→Nat) (l:List α):sumL (fun x=>if p x=true then f x else 0) l=sumL f (l.filter p):=by
 induction l with
 | nil=>rfl
 | cons x l ih=>
  rw [Zet,ih,List.filter_cons]
  cases p x
  ·simp
  ·simp [Zet]
theorem Znb {α:Type} (k:Nat) (l:List α):sumL (fun _=>k) l=l.length * k:=by
 induction l with
 | nil=>simp [sumL]
 | cons x l ih=>rw [Zet,ih,List.length_cons,Nat.succ_mul]; omega
theorem Zw1 (c:List Cell):(flt c).length=sumL (fun x=>x.2.length) c:=by
 induction c with
 | nil=>rfl
 | cons x c ih=>rw [Zg3,List.length_append,List.length_map,ih,Zet]
theorem Zp5 (x:Cell) (d:List Cell) (v:Int):(lk (x :: d) v).length=(if inR v x.1=true then x.2.length else 0) + (lk d v).length:=by
 rw [Zid,List.length_append]
 cases inR v x.1 <;> simp
theorem sum_lk {M:Nat} (vs:List Int):∀(d:List Cell),(∀ x∈d,(vs.filter (inR · x.1)).length≤M)→sumL (fun v=>(lk d v).length) vs≤M * (flt d).length
 | [],_=>by
  have:sumL (fun v=>(lk ([]:List Cell) v).length) vs=0:=by
   rw [show (fun v:Int=>(lk ([]:List Cell) v).length)=fun _=>0 from rfl,Znb]; simp
  omega
 | x :: d,h=>by
  have e:(fun v=>(lk (x :: d) v).length)=fun v=>(if inR v x.1=true then x.2.length else 0) + (lk d v).length:=funext fun v=>Zp5 x d v
  have ih:=sum_lk vs d fun y hy=>h y (List.mem_cons_of_mem _ hy)
  have hx:=h x (List.mem_cons_self ..)
  rw [e,Zna,Zw0 (fun v=>inR v x.1),Znb,Zg3,List.length_append,List.length_map,Nat.mul_add]
  have:=Nat.mul_le_mul_right x.2.length hx
  omega
theorem Zw2 (vs:List Int) (d':List Cell):∀(d:List Cell),(∀ x∈d,∀ y∈d',((vs.filter (inR · x.1)).filter (inR · y.1)).length≤1)→sumL (fun v=>(lk d v).length * (lk d' v).length) vs≤(flt d).length * (flt d').length
 | [],_=>by
  have:sumL (fun v=>(lk ([]:List Cell) v).length * (lk d' v).length) vs=0:=by
   rw [show (fun v:Int=>(lk ([]:List Cell) v).length * (lk d' v).length)=fun v=>0 * (lk d' v).length from rfl,Zq4]; simp
  omega
 | x :: d,h=>by
  have e:(fun v=>(lk (x :: d) v).length * (lk d' v).length)=fun v=>(if inR v x.1=true then x.2.length * (lk d' v).length else 0) + (lk d v).length * (lk d' v).length:=funext fun v=>by
   rw [Zp5,Nat.add_mul]
   cases inR v x.1 <;> simp
  have ih:=Zw2 vs d' d fun y hy=>h y (List.mem_cons_of_mem _ hy)
  have h1:=sum_lk (M:=1) (vs.filter (inR · x.1)) d' fun y hy=>h x (List.mem_cons_self ..) y hy
  rw [e,Zna,Zw0 (fun v=>inR v x.1) (fun v=>x.2.length * (lk d' v).length),Zq4,Zg3,List.length_append,List.length_map,Nat.add_mul]
  have:=Nat.mul_le_mul_left x.2.length h1
  rw [Nat.one_mul] at this
  omega
theorem Zo0 {l:List Int} (h:l.Pairwise (·<·)):l.Nodup:=h.imp fun h=>by omega
def ends2 (c:List Cell):List Int:=c.flatMap fun x=>[x.1.Lo,x.1.Hi + 1]
theorem Zyo (c:List Cell):(ends2 c).length=2 * c.length:=by
 induction c with
 | nil=>rfl
 | cons x c ih=>unfold ends2 at *; rw [List.flatMap_cons,List.length_append,ih]; simp; omega
theorem Zq5 {t:Int} {c:List Cell} (h:Ord t c) {x:Cell} (hx:x∈c) {v:Int} (hv:v∈ends2 c) (hr:inR v x.1=true):v=x.1.Lo:=by
 rw [Zbo] at hr
 obtain⟨y,hy,hvy⟩:=List.mem_flatMap.1 hv
 have hxo:=h.ok x hx
 have hyo:=h.ok y hy
 obtain⟨i,hi,rfl⟩:=List.getElem_of_mem hx
 obtain⟨j,hj,rfl⟩:=List.getElem_of_mem hy
 have hp:=List.pairwise_iff_getElem.1 h.pw
 simp only [List.mem_cons,List.not_mem_nil,or_false] at hvy
 rcases Nat.lt_trichotomy i j with h1 | h1 | h1
 ·have:=(hp i j hi hj h1).1
  omega
 ·subst h1; omega
 ·have:=(hp j i hj hi h1).1
  omega
theorem Zw3 {t:Int} {c:List Cell} (h:Ord t c) {v:Int} (hv:¬ v∈ends2 c):lk c v=lk c (v - 1):=by
 have key:∀ x∈c,x.1.Lo ≠ v∧x.1.Hi + 1 ≠ v:=fun x hx=>⟨fun e=>hv (List.mem_flatMap.2 ⟨x,hx,by simp [e]⟩),fun e=>hv (List.mem_flatMap.2 ⟨x,hx,by simp [e]⟩)⟩
 clear h hv
 induction c with
 | nil=>rfl
 | cons x c ih=>
  rw [Zid,Zid,ih fun y hy=>key y (List.mem_cons_of_mem _ hy)]
  have:=key x (List.mem_cons_self ..)
  have e:inR v x.1=inR (v - 1) x.1:=by rw [Bool.eq_iff_iff,Zbo,Zbo]; omega
  rw [e]
theorem Zsd {op:Bool→Bool→Bool} (hff:op false false=false):∀(ts:List Int) {a b l:List RL},CF ts a→CF ts b→Is op ts a b l→l.length≤4 * ts.length * (a.length * b.length) + a.length + b.length
 | [],a,b,l,ha,hb,h=>by
  have hm:=h.mem [] trivial
  rcases ha with rfl | rfl <;> rcases hb with rfl | rfl <;> rcases h.cf with rfl | rfl <;> simp [mS,mB,hff] at hm ⊢
 | t :: ts,a,b,l,ha,hb,h=>by
  obtain⟨ca,rfl,hao,hac⟩:=ha
  obtain⟨cb,rfl,hbo,hbc⟩:=hb
  obtain⟨c,rfl,ho,hc⟩:=h.cf
  have hat:∀ v,0≤v→v≤t→Is op ts (lk ca v) (lk cb v) (lk c v):=fun v h0 h1=>by
   have:=Is.at_ ho hc h h0 h1
   rw [Zkq,Zkq] at this
   exact this
  have hvs:(c.map (·.1.Lo)).Pairwise (·<·):=by
   rw [List.pairwise_map]
   refine List.Pairwise.imp_of_mem ?_ ho.pw
   intro x y hx _ hg
   have:=ho.ok x hx
   have:=hg.1
   omega
  have hin:∀ v∈c.map (·.1.Lo),v∈ends2 ca∨v∈ends2 cb:=by
   intro v hv
   obtain⟨x,hx,rfl⟩:=List.mem_map.1 hv
   have hxo:=ho.ok x hx
   apply Classical.byContradiction
   intro hn
   have h1:¬ x.1.Lo∈ends2 ca:=fun h=>hn (Or.inl h)
   have h2:¬ x.1.Lo∈ends2 cb:=fun h=>hn (Or.inr h)
   have e1:=Zw3 hao h1
   have e2:=Zw3 hbo h2
   have hx1:lk c x.1.Lo=x.2:=lk_mem ho hx (Int.le_refl _) hxo.2.1
   have g1:=hat x.1.Lo hxo.1 (by omega)
   by_cases h0:x.1.Lo=0
   ·rw [e1,e2,lk_out hao (by omega),lk_out hbo (by omega)] at g1
    have:lk c x.1.Lo=[]:=g1.inj ⟨CF_nil _,fun p _=>by rw [mS_nil,hff]⟩
    rw [hx1] at this
    exact hxo.2.2.2 this
   ·have g2:=hat (x.1.Lo - 1) (by omega) (by omega)
    rw [e1,e2] at g1
    have e3:=g1.inj g2
    rw [hx1] at e3
    obtain⟨y,hy,h3,h4⟩:=Zi1 (c:=c) (v:=x.1.Lo - 1) (by rw [← e3]; exact hxo.2.2.2)
    rw [lk_mem ho hy h3 h4] at e3
    obtain⟨i,hi,rfl⟩:=List.getElem_of_mem hx
    obtain⟨j,hj,rfl⟩:=List.getElem_of_mem hy
    have hp:=List.pairwise_iff_getElem.1 ho.pw
    rcases Nat.lt_trichotomy i j with h5 | h5 | h5
    ·have:=(hp i j hi hj h5).1; omega
    ·subst h5; omega
    ·have hg:=hp j i hj hi h5
     have:=hg.1
     exact hg.2 (by omega) e3.symm
  generalize hV:c.map (·.1.Lo)=vs at hvs hin
  have cnt:∀ {d d':List Cell},Ord t d→(∀ v∈vs,v∈ends2 d∨v∈ends2 d')→∀ x∈d,(vs.filter (inR · x.1)).length≤2 * d'.length + 1:=by
   intro d d' hd hdv x hx
   have hs:(vs.filter (inR · x.1)) ⊆ x.1.Lo :: ends2 d':=by
    intro v hv
    obtain⟨h1,h2⟩:=List.mem_filter.1 hv
    rcases hdv v h1 with h3 | h3
    ·rw [Zq5 hd hx h3 h2]; exact List.mem_cons_self ..
    ·exact List.mem_cons_of_mem _ h3
   have:=List.Nodup.length_le_of_subset (Zo0 (hvs.filter _)) hs
   rw [List.length_cons,Zyo] at this
   exact this
  have s1:=sum_lk vs ca (cnt hao hin)
  have s2:=sum_lk vs cb (cnt hbo fun v hv=>(hin v hv).symm)
  have s3:=Zw2 vs cb ca (fun x hx y hy=>by
   have hs:((vs.filter (inR · x.1)).filter (inR · y.1)) ⊆ [max x.1.Lo y.1.Lo]:=by
    intro v hv
    obtain⟨h1,h2⟩:=List.mem_filter.1 hv
    obtain⟨h3,h4⟩:=List.mem_filter.1 h1
    have h2':=Zbo.1 h2
    have h4':=Zbo.1 h4
    rw [List.mem_singleton]
    rcases hin v h3 with h5 | h5
    ·have:=Zq5 hao hx h5 h4; omega
    ·have:=Zq5 hbo hy h5 h2; omega
   have:=List.Nodup.length_le_of_subset (Zo0 ((hvs.filter _).filter _)) hs
   simpa using this)
  have total:(flt c).length≤sumL (fun v=>4 * ts.length * ((lk ca v).length * (lk cb v).length) + (lk ca v).length + (lk cb v).length) vs:=by
   rw [Zw1,← hV]
   have e:∀(d:List Cell) (f:Int→Nat),sumL f (d.map (·.1.Lo))=sumL (fun x=>f x.1.Lo) d:=by
    intro d f
    induction d with
    | nil=>rfl
    | cons x d ih=>rw [List.map_cons,Zet,Zet,ih]
   rw [e]
   refine Zwz fun x hx=>?_
   have hxo:=ho.ok x hx
   have g1:=hat x.1.Lo hxo.1 (by omega)
   rw [lk_mem ho hx (Int.le_refl _) hxo.2.1] at g1
   exact Zsd hff ts (CF_lk hao hac _) (CF_lk hbo hbc _) g1
  rw [Zna,Zna,Zq4] at total
  have la:=hao.len
  have lb:=hbo.len
  have m3:=Nat.mul_le_mul_left (4 * ts.length) s3
  have n1:(2 * cb.length + 1) * (flt ca).length≤(2 * (flt cb).length + 1) * (flt ca).length:=Nat.mul_le_mul_right _ (by omega)
  have n2:(2 * ca.length + 1) * (flt cb).length≤(2 * (flt ca).length + 1) * (flt cb).length:=Nat.mul_le_mul_right _ (by omega)
  rw [Nat.add_mul,Nat.one_mul] at n1 n2
  have c1:2 * (flt cb).length * (flt ca).length=2 * ((flt ca).length * (flt cb).length):=by rw [Nat.mul_assoc,Nat.mul_comm (flt cb).length]
  have c2:2 * (flt ca).length * (flt cb).length=2 * ((flt ca).length * (flt cb).length):=by rw [Nat.mul_assoc]
  have n1':(2 * cb.length + 1) * (flt ca).length≤(2 * (flt cb).length) * (flt ca).length + (flt ca).length:=by
   have:=Nat.mul_le_mul_right (flt ca).length (show 2 * cb.length + 1≤2 * (flt cb).length + 1 by omega)
   rw [Nat.add_mul (2 * (flt cb).length),Nat.one_mul] at this
   exact this
  have n2':(2 * ca.length + 1) * (flt cb).length≤(2 * (flt ca).length) * (flt cb).length + (flt cb).length:=by
   have:=Nat.mul_le_mul_right (flt cb).length (show 2 * ca.length + 1≤2 * (flt ca).length + 1 by omega)
   rw [Nat.add_mul (2 * (flt ca).length),Nat.one_mul] at this
   exact this
  rw [c1] at n1'
  rw [c2] at n2'
  have fin:4 * (t :: ts).length * ((flt ca).length * (flt cb).length)=4 * ts.length * ((flt ca).length * (flt cb).length) + 4 * ((flt ca).length * (flt cb).length):=by
   rw [List.length_cons,Nat.mul_add,Nat.add_mul]
  omega
theorem Can.size {op:Bool→Bool→Bool} (hff:op false false=false) {a b l:List Bx} (ha:CFb a) (hb:CFb b) (h:Can op a b l):l.length≤20 * (a.length * b.length) + a.length + b.length:=by
 have:=Zsd hff tops5 ha hb h.is
 rw [List.length_map,List.length_map,List.length_map] at this
 exact this
theorem Can.size2 {op:Bool→Bool→Bool} (hff:op false false=false) {a b l:List Bx} (ha:CFb a) (hb:CFb b) (h:Can op a b l) (h1:a.length≤4096) (h2:b.length≤4096):l.length≤2000000000:=by
 have:=h.size hff ha hb
 have:=Nat.mul_le_mul h1 h2
 omega
end Go.AM
set_option maxRecDepth 100000
namespace Go.AM
open Go
noncomputable def can (op:Bool→Bool→Bool) (a b:List Bx):List Bx:=(Can.ex op a b).choose
theorem Zek (op:Bool→Bool→Bool) (a b:List Bx):Can op a b (can op a b):=(Can.ex op a b).choose_spec
theorem Can.eq {op:Bool→Bool→Bool} {a b l:List Bx} (h:Can op a b l):can op a b=l:=(Zek op a b).inj h
def oO (x y:Bool):Bool:=x || y
def oA (x y:Bool):Bool:=x && y
def oW (x y:Bool):Bool:=x && !y
theorem opc2:opc 2=oW:=funext fun x=>funext fun y=>rfl
theorem Zo1:∀(ts:List Int) {b:RL},vR ts b→CF ts [b]
 | [],b,h=>by
  cases b with
  | nil=>exact .inr rfl
  | cons _ _=>exact h.elim
 | t :: ts,b,h=>by
  cases b with
  | nil=>exact h.elim
  | cons r b=>
   obtain⟨h0,h1,h2,h3⟩:=h
   refine⟨[(r,[b])],rfl,⟨List.pairwise_singleton ..,fun x hx=>?_⟩,fun x hx=>?_⟩
   ·rw [List.mem_singleton] at hx; subst hx; exact⟨h0,h1,h2,List.cons_ne_nil _ _⟩
   ·rw [List.mem_singleton] at hx; subst hx; exact Zo1 ts h3
theorem ok_vR {b:Bx} (h:BOk b):vR tops5 (toL b):=
 ⟨h.h0.h0,h.h0.h1,h.h0.h2,h.h1.h0,h.h1.h1,h.h1.h2,h.h2.h0,h.h2.h1,h.h2.h2,h.h3.h0,h.h3.h1,h.h3.h2,h.h4.h0,h.h4.h1,h.h4.h2,trivial⟩
theorem CFb.single {b:Bx} (h:BOk b):CFb [b]:=Zo1 tops5 (ok_vR h)
noncomputable def mkF:List Bx→List Bx→List Bx × Int
 | s,[]=>(s,0)
 | s,b :: l=>if (can oO s [b]).length≤4096 then mkF (can oO s [b]) l else ([],3)
noncomputable def mk (l:List Bx):List Bx × Int:=mkF [] (l.filter vB)
theorem combO {a b:List Bx} (hl:a.length + b.length≤400000) (ha:∀ x∈a,BOk x) (hb:∀ x∈b,BOk x):Za3 a b=some (capB (can oO a b)):=Zs3 hl ha hb (Zek oO a b)
theorem Z0t (r:List Bx) (hr:r.length≤1000000) (hok:∀ x∈r,BOk x):∀(K i n:Nat) (s:List Bx),r.length - i=K→K<n→VS s→i≤r.length→∃ o,Zdn r n s (i:Int)=some o∧mkF s (r.drop i)=match o with
   | .inl v=>(v,0)
   | .inr z=>z:=by
 intro K
 induction K with
 | zero=>
  intro i n s hK hn hs hi
  cases n with
  | zero=>omega
  | succ n=>
  rw [Zdn,if_neg (by simp; omega),List.drop_eq_nil_of_le (by omega)]
  exact⟨_,rfl,rfl⟩
 | succ K ih=>
  intro i n s hK hn hs hi
  cases n with
  | zero=>omega
  | succ n=>
  have hil:i<r.length:=by omega
  have hb:=hok _ (List.getElem_mem hil)
  have hsl:=hs.len
  rw [Zdn,if_pos (by simp; omega),Zaf hil]
  simp only [Option.bind_some]
  rw [combO (by simp; omega) hs.ok (fun x hx=>by rw [List.mem_singleton] at hx; rw [hx]; exact hb)]
  rw [List.drop_eq_getElem_cons hil]
  simp only [Option.bind_some,capB,mkF]
  by_cases h:(can oO s [r[i]]).length≤4096
  ·rw [if_pos h,if_pos h]
   simp only [bne_self_eq_false,Bool.false_eq_true,if_false]
   rw [wsucc (by omega)]
   exact ih (i + 1) n _ (by omega) (by omega) (VS.of (Zek oO s [r[i]]).cf h) (by omega)
  ·rw [if_neg h,if_neg h]
   exact⟨_,rfl,rfl⟩
theorem VS.nil:VS []:=⟨by simp,fun _ h=>(by cases h),CFb.nil⟩
theorem Zvm {l:List Bx} (hl:l.length≤1000000) (hin:∀ x∈l,BIn x):Zfh l=some (mk l):=by
 unfold Zfh
 rw [Ztq (by omega)]
 simp only [Option.bind_some]
 have hfl:=List.length_filter_le vB l
 obtain⟨o,e,g⟩:=Z0t (l.filter vB) (by omega) (fun x hx=>by
  obtain⟨h1,h2⟩:=List.mem_filter.1 hx
  exact vB_ok (hin x h1) h2) _ 0 fuel [] rfl (by unfold fuel; omega) VS.nil (by omega)
 rw [show ((0:Nat):Int)=0 from rfl] at e
 rw [e]
 rw [List.drop_zero] at g
 unfold mk
 rw [g]
 cases o <;> rfl
noncomputable def vSb (l:List Bx):Bool:=@decide (VS l) (Classical.propDecidable _)
theorem Zmv {l:List Bx}:vSb l=true ↔ VS l:=by unfold vSb; exact @decide_eq_true_iff _ (Classical.propDecidable _)
theorem Z0u {r:Bool} {p:Prop} {q:Bool} (h1:r=true ↔ p) (h2:q=true ↔ p):r=q:=by
 rw [Bool.eq_iff_iff,h1,h2]
theorem pVal {l:List Bx} (hl:l.length≤300000) (hin:∀ x∈l,BIn x):Zd5 l=some (vSb l):=by
 obtain⟨r,e,g⟩:=Zyn (by omega) hin
 rw [e,Z0u g Zmv]
noncomputable def st (l:List Bx):List Bx × Int:=if vSb l=true then (l,0) else mk l
theorem Zj0 {l:List Bx} (hl:l.length≤300000) (hin:∀ x∈l,BIn x):Zct l=some (st l):=by
 unfold Zct st
 rw [pVal hl hin]
 simp only [Option.bind_some]
 split
 ·rfl
 ·rw [Zvm (by omega) hin]; rfl
theorem Zw4 (a b:List Bx) (p:List Int):mem (a++b) p=(mem a p || mem b p):=by unfold mem; rw [List.map_append,mS_app]
structure SetOr (r:List Bx × Int):Prop where
 vs:VS r.1
 err:r.2=0∨r=([],3)
theorem mkF_ok:∀(l s:List Bx),VS s→SetOr (mkF s l)∧((mkF s l).2=0→∀ p,vP tops5 p→mem (mkF s l).1 p=(mem s p || mem l p))
 | [],s,hs=>⟨⟨hs,Or.inl rfl⟩,fun _ p _=>by rw [Zkr,Bool.or_false]; rfl⟩
 | b :: l,s,hs=>by
  simp only [mkF]
  by_cases h:(can oO s [b]).length≤4096
  ·rw [if_pos h]
   have hC:=Zek oO s [b]
   obtain⟨g1,g2⟩:=mkF_ok l (can oO s [b]) (VS.of hC.cf h)
   refine⟨g1,fun h0 p hp=>?_⟩
   rw [g2 h0 p hp,hC.mem p hp,show b :: l=[b]++l from rfl,Zw4 [b] l,oO,Bool.or_assoc]
  ·rw [if_neg h]
   exact⟨⟨VS.nil,Or.inr rfl⟩,fun h=>by cases h⟩
theorem st_ok (l:List Bx):SetOr (st l)∧((st l).2=0→∀ p,vP tops5 p→mem (st l).1 p=mem (l.filter vB) p):=by
 unfold st
 by_cases h:vSb l=true
 ·rw [if_pos h]
  have hv:=Zmv.1 h
  refine⟨⟨hv,Or.inl rfl⟩,fun _ p _=>?_⟩
  rw [List.filter_eq_self.2 fun x hx=>ok_vB (hv.ok x hx)]
 ·rw [if_neg h]
  obtain⟨g1,g2⟩:=mkF_ok (l.filter vB) [] VS.nil
  exact⟨g1,fun h0 p hp=>by unfold mk; rw [g2 h0 p hp,Zkr,Bool.false_or]⟩
theorem Zs4 {l:List Bx} (h:VS l):st l=(l,0):=by unfold st; rw [if_pos (Zmv.2 h)]
noncomputable def cmb (op:Bool→Bool→Bool) (a b:List Bx):List Bx × Int:=
 if (st a).2 ≠ 0 then ([],(st a).2) else if (st b).2 ≠ 0 then ([],(st b).2) else capB (can op (st a).1 (st b).1)
theorem Zw5 {op:Bool→Bool→Bool} {a b:List Bx}:SetOr (capB (can op a b)):=by
 unfold capB
 by_cases h:(can op a b).length≤4096
 ·rw [if_pos h]; exact⟨VS.of (Zek op a b).cf h,Or.inl rfl⟩
 ·rw [if_neg h]; exact⟨VS.nil,Or.inr rfl⟩
theorem SetOr.three {r:List Bx × Int} (h:SetOr r) (hr:r.2 ≠ 0):r=([],3):=h.err.resolve_left hr
theorem cmb_ok (op:Bool→Bool→Bool) (a b:List Bx):SetOr (cmb op a b)∧((cmb op a b).2=0→∀ p,vP tops5 p→mem (cmb op a b).1 p=op (mem (a.filter vB) p) (mem (b.filter vB) p)):=by
 have ha:=st_ok a
 have hb:=st_ok b
 unfold cmb
 by_cases h1:(st a).2 ≠ 0
 ·rw [if_pos h1,ha.1.three h1]; exact⟨⟨VS.nil,Or.inr rfl⟩,fun h=>by cases h⟩
 ·rw [if_neg h1]
  by_cases h2:(st b).2 ≠ 0
  ·rw [if_pos h2,hb.1.three h2]; exact⟨⟨VS.nil,Or.inr rfl⟩,fun h=>by cases h⟩
  ·rw [if_neg h2]
   refine⟨Zw5,fun h0 p hp=>?_⟩
   have hc:=Zek op (st a).1 (st b).1
   unfold capB at h0 ⊢
   split at h0
   ·rename_i h
    rw [if_pos h]
    show mem (can op (st a).1 (st b).1) p=_
    rw [hc.mem p hp,ha.2 (by simpa using h1) p hp,hb.2 (by simpa using h2) p hp]
   ·cases h0
theorem Zyp {a b:List Bx} (ha:a.length≤300000) (hb:b.length≤300000) (hai:∀ x∈a,BIn x) (hbi:∀ x∈b,BIn x):Zf6 a b=some (cmb oO a b):=by
 have sa:=(st_ok a).1.vs
 have sb:=(st_ok b).1.vs
 have la:=sa.len
 have lb:=sb.len
 unfold Zf6 Ze1 cmb
 rw [Zj0 ha hai]
 simp only [Option.bind_some,bne_iff_ne]
 split
 ·rfl
 ·rw [Zj0 hb hbi]
  simp only [Option.bind_some]
  split
  ·rfl
  ·rw [combO (by omega) sa.ok sb.ok]
   rfl
theorem Zue {a b:List Bx} (ha:a.length≤300000) (hb:b.length≤300000) (hai:∀ x∈a,BIn x) (hbi:∀ x∈b,BIn x):Zen a b=some (cmb oA a b):=by
 have sa:=(st_ok a).1.vs
 have sb:=(st_ok b).1.vs
 have la:=sa.len
 have lb:=sb.len
 unfold Zen Zfk cmb
 rw [Zj0 ha hai]
 simp only [Option.bind_some,bne_iff_ne]
 split
 ·rfl
 ·rw [Zj0 hb hbi]
  simp only [Option.bind_some]
  split
  ·rfl
  ·rw [Zvl (by omega) sa.ok sb.ok (Zek oA _ _)]
   rfl
theorem Zvn {a b:List Bx} (ha:a.length≤300000) (hb:b.length≤300000) (hai:∀ x∈a,BIn x) (hbi:∀ x∈b,BIn x):Ze0 a b=some (cmb oW a b):=by
 have sa:=(st_ok a).1.vs
 have sb:=(st_ok b).1.vs
 have la:=sa.len
 have lb:=sb.len
 unfold Ze0 Zeu cmb
 rw [Zj0 ha hai]
 simp only [Option.bind_some,bne_iff_ne]
 split
 ·rfl
 ·rw [Zj0 hb hbi]
  simp only [Option.bind_some]
  split
  ·rfl
  ·rw [Zsc (by omega) sa.ok sb.ok (Zek oW _ _)]
   rfl
end Go.AM
set_option maxRecDepth 100000
namespace Go.AM
open Go
theorem Zuf {top:Int} {r:Zb}:sideBad top r=false ↔ r.Lo≤r.Hi∧r.Hi≤top:=by
 unfold sideBad
 simp only [Bool.or_eq_false_iff,decide_eq_false_iff_not]
 omega
end Go.AM
set_option maxRecDepth 100000
namespace Go.AM
open Go
structure InL (l:List Bx):Prop where
 len:l.length≤300000
 bin:∀ x∈l,BIn x
theorem VS.inL {l:List Bx} (h:VS l):InL l:=⟨by have:=h.len; omega,fun x hx=>(h.ok x hx).bin⟩
theorem InL.one {b:Bx} (h:BIn b):InL [b]:=⟨by simp,fun x hx=>by rw [List.mem_singleton] at hx; rw [hx]; exact h⟩
def kp (e:Bool) (r:List Bx × Int):List Bx × Bool:=if e=true∨r.2 ≠ 0 then ([],true) else (r.1,false)
def le (e:Bool):Zj:=⟨if e=true then 3 else 0⟩
noncomputable def uU (e:Bool) (a b:List Bx):=kp e (cmb oO a b)
noncomputable def uI (e:Bool) (a b:List Bx):=kp e (cmb oA a b)
noncomputable def uS (e:Bool) (a b:List Bx):=kp e (cmb oW a b)
theorem kp_vs {e:Bool} {r:List Bx × Int} (h:SetOr r):VS (kp e r).1∧((kp e r).2=true→(kp e r).1=[]):=by
 unfold kp
 split
 ·exact⟨VS.nil,fun _=>rfl⟩
 ·exact⟨h.vs,fun h=>by cases h⟩
theorem Zmw {e:Bool} {r:List Bx × Int} (h:SetOr r):Zb0 (le e) r.1 r.2=some ((kp e r).1,le (kp e r).2):=by
 unfold Zb0 kp le
 cases e with
 | true=>simp
 | false=>
  by_cases h0:r.2=0
  ·simp [h0]
  ·rw [h.three h0]; simp
theorem lU_eq {e:Bool} {a b:List Bx} (ha:InL a) (hb:InL b):Zca (le e) a b=some ((uU e a b).1,le (uU e a b).2):=by
 unfold Zca uU
 rw [Zyp ha.len hb.len ha.bin hb.bin]
 simp only [Option.bind_some]
 rw [Zmw (cmb_ok _ _ _).1]; rfl
theorem lI_eq {e:Bool} {a b:List Bx} (ha:InL a) (hb:InL b):Za6 (le e) a b=some ((uI e a b).1,le (uI e a b).2):=by
 unfold Za6 uI
 rw [Zue ha.len hb.len ha.bin hb.bin]
 simp only [Option.bind_some]
 rw [Zmw (cmb_ok _ _ _).1]; rfl
theorem lS_eq {e:Bool} {a b:List Bx} (ha:InL a) (hb:InL b):Zcw (le e) a b=some ((uS e a b).1,le (uS e a b).2):=by
 unfold Zcw uS
 rw [Zvn ha.len hb.len ha.bin hb.bin]
 simp only [Option.bind_some]
 rw [Zmw (cmb_ok _ _ _).1]; rfl
theorem uU_vs (e:Bool) (a b:List Bx):VS (uU e a b).1∧((uU e a b).2=true→(uU e a b).1=[]):=kp_vs (cmb_ok _ _ _).1
theorem uI_vs (e:Bool) (a b:List Bx):VS (uI e a b).1∧((uI e a b).2=true→(uI e a b).1=[]):=kp_vs (cmb_ok _ _ _).1
theorem uS_vs (e:Bool) (a b:List Bx):VS (uS e a b).1∧((uS e a b).2=true→(uS e a b).1=[]):=kp_vs (cmb_ok _ _ _).1
theorem Zw6 {s:List Bx} (hs:InL s):Zdt Zdu s=some ((kp false (st s)).1,le (kp false (st s)).2):=by
 unfold Zdt
 rw [pVal hs.len hs.bin]
 simp only [Option.bind_some]
 by_cases h:vSb s=true
 ·rw [if_pos h,Zs4 (Zmv.1 h)]; rfl
 ·rw [if_neg h,Zvm (by have:=hs.len; omega) hs.bin]
  have e:st s=mk s:=by unfold st; rw [if_neg h]
  have ho:SetOr (mk s):=e ▸ (st_ok s).1
  simp only [Option.bind_some]
  rw [show Zdu=le false from rfl,Zmw ho,e]
  rfl
def badB:Bx:=⟨⟨1,0⟩,Zp,Zp,Zp,Zp⟩
def frm (m:Zkz):Bx:=if vM m=true then m.From else badB
theorem vB_bad:vB badB=false:=by decide
abbrev PSt:=Bool × List (List Bx) × List Bx
noncomputable def pstepB (s:PSt) (b:Bx):PSt:=if vB b=true then ((uS (uI s.1 s.2.2 [b]).2 s.2.2 [b]).2,s.2.1++[(uI s.1 s.2.2 [b]).1],(uS (uI s.1 s.2.2 [b]).2 s.2.2 [b]).1) else (s.1,s.2.1++[[]],s.2.2)
theorem Zq6 {α σ:Type} (f:σ→α→σ):∀(l:List α) (s:σ) (i:Nat),foldI (fun s _ x=>f s x) s i l=l.foldl f s
 | [],_,_=>rfl
 | x :: l,s,i=>by simp only [foldI,List.foldl_cons]; exact Zq6 f l _ _
noncomputable def partsR:Bool→List Bx→List Bx→List (List Bx) × List Bx × Bool
 | e,s,[]=>([],s,e)
 | e,s,b :: l=>if vB b=true then ((uI e s [b]).1 :: (partsR (uS (uI e s [b]).2 s [b]).2 (uS (uI e s [b]).2 s [b]).1 l).1,(partsR (uS (uI e s [b]).2 s [b]).2 (uS (uI e s [b]).2 s [b]).1 l).2) else ([] :: (partsR e s l).1,(partsR e s l).2)
theorem Znc:∀(l:List Bx) (e:Bool) (out:List (List Bx)) (s:List Bx),l.foldl pstepB (e,out,s)=((partsR e s l).2.2,out++(partsR e s l).1,(partsR e s l).2.1)
 | [],e,out,s=>by simp [partsR]
 | b :: l,e,out,s=>by
  rw [List.foldl_cons]
  by_cases h:vB b=true
  ·rw [show pstepB (e,out,s) b=((uS (uI e s [b]).2 s [b]).2,out++[(uI e s [b]).1],(uS (uI e s [b]).2 s [b]).1) by unfold pstepB; rw [if_pos h],Znc l]
   simp only [partsR,if_pos h,List.append_assoc,List.singleton_append]
  ·rw [show pstepB (e,out,s) b=(e,out++[[]],s) by unfold pstepB; rw [if_neg h],Znc l]
   simp only [partsR,if_neg h,List.append_assoc,List.singleton_append]
theorem Zyq {s:PSt} {b:Bx} (h:VS s.2.2):VS (pstepB s b).2.2∧(pstepB s b).2.1.length=s.2.1.length + 1:=by
 unfold pstepB
 split
 ·exact⟨(uS_vs _ _ _).1,by simp⟩
 ·exact⟨h,by simp⟩
theorem Zzq {ms:List Bx} (hm:ms.length≤100000) (hin:∀ x∈ms,BIn x) {e:Bool} {s:List Bx} (hs:VS s):Zee (le e) ms s=some ((partsR e s ms).1,(partsR e s ms).2.1,le (partsR e s ms).2.2):=by
 unfold Zee
 have:=Zc7 (L:=fun n (s:PSt) i=>Zbb ms n (le s.1) s.2.1 s.2.2 i) ms (fun s _ x=>pstepB s x) (fun s=>(le s.1,s.2.1,s.2.2)) (fun i s=>s.2.1.length=i∧VS s.2.2) (by omega) (fun n s i hi hs=>by
  show Zbb ms (n + 1) (le s.1) s.2.1 s.2.2 (i:Int)=_∧_
  have hb:=hin _ (List.getElem_mem hi)
  have hp:=Zyq (b:=ms[i]) hs.2
  refine⟨?_,by rw [hp.2,hs.1],hp.1⟩
  rw [Zbb]
  simp only [show ((i:Int)<(ms.length:Int)) from by omega,decide_true,if_true,Zaf hi,Option.bind_some,Zm7,wsucc (by omega:i<1000000000001),List.length_singleton]
  unfold pstepB
  by_cases h:vB ms[i]=true
  ·rw [if_pos h,h]
   simp only [Bool.not_true,Bool.false_eq_true,if_false]
   rw [lI_eq hs.2.inL (InL.one hb)]
   simp only [Option.bind_some]
   rw [if_pos (show s.2.1.length + 1≤lim by rw [hs.1]; unfold lim; omega),lS_eq hs.2.inL (InL.one hb)]
   rfl
  ·rw [if_neg h]
   rw [Bool.not_eq_true] at h
   rw [h]
   simp only [Bool.not_false,if_true]
   rw [if_pos (show s.2.1.length + 1≤lim by rw [hs.1]; unfold lim; omega)]
   rfl) (fun n s hs=>by
  show Zbb ms (n + 1) (le s.1) s.2.1 s.2.2 (ms.length:Int)=_
  rw [Zbb]; simp) (e,[],s) ⟨rfl,hs⟩
 have h1:=this.1
 simp only at h1
 rw [h1,Zq6 pstepB,Znc]
 rfl
theorem Zo2:∀(l:List Bx) (e:Bool) (s:List Bx),(partsR e s l).1.length=l.length
 | [],_,_=>rfl
 | b :: l,e,s=>by
  simp only [partsR]
  split
  ·simp only [List.length_cons]; rw [Zo2 l]
  ·simp only [List.length_cons]; rw [Zo2 l]
theorem Zq7:∀(l:List Bx) (e:Bool) (s:List Bx),VS s→(∀ x∈(partsR e s l).1,VS x)∧VS (partsR e s l).2.1
 | [],_,_,h=>⟨fun _ h=>(by cases h),h⟩
 | b :: l,e,s,h=>by
  simp only [partsR]
  split
  ·have ih:=Zq7 l (uS (uI e s [b]).2 s [b]).2 (uS (uI e s [b]).2 s [b]).1 (uS_vs _ _ _).1
   exact⟨fun x hx=>(List.mem_cons.1 hx).elim (fun h=>h ▸ (uI_vs _ _ _).1) (ih.1 x),ih.2⟩
  ·have ih:=Zq7 l e s h
   exact⟨fun x hx=>(List.mem_cons.1 hx).elim (fun h=>h ▸ VS.nil) (ih.1 x),ih.2⟩
abbrev ISt:=Bool × List Bx
def resA (s:ISt):List Bx × Int:=if s.1=true then ([],3) else (s.2,0)
theorem Ztv {e:Bool} {s:List Bx} (h:s.length≤300000):Zc8 (le e) s=some (resA (e,s)):=by
 unfold Zc8 resA le
 cases e with
 | true=>rfl
 | false=>
  simp only [Bool.false_eq_true,if_false,bne_self_eq_false]
  rw [if_pos (by unfold lim; omega)]
structure ISok (s:ISt):Prop where
 vs:VS s.2
 e:s.1=true→s.2=[]
end Go.AM
set_option maxRecDepth 100000
namespace Go.AM
open Go
theorem vP_len:∀ {ts p:List Int},vP ts p→p.length=ts.length
 | [],[],_=>rfl
 | t :: ts,v :: p,h=>by simp only [List.length_cons]; rw [vP_len h.2.2]
 | [],_ :: _,h=>h.elim
 | _ :: _,[],h=>h.elim
structure MN (m:Zkz):Prop where
 n0:0≤m.From.x0.Lo∧m.From.x0.Lo≤m.From.x0.Hi∧m.From.x0.Hi≤4294967295∧0≤m.To.x0.Lo∧m.To.x0.Hi≤4294967295∧m.From.x0.Hi - m.From.x0.Lo=m.To.x0.Hi - m.To.x0.Lo
 n1:0≤m.From.x1.Lo∧m.From.x1.Lo≤m.From.x1.Hi∧m.From.x1.Hi≤4294967295∧0≤m.To.x1.Lo∧m.To.x1.Hi≤4294967295∧m.From.x1.Hi - m.From.x1.Lo=m.To.x1.Hi - m.To.x1.Lo
 n2:0≤m.From.x2.Lo∧m.From.x2.Lo≤m.From.x2.Hi∧m.From.x2.Hi≤255∧0≤m.To.x2.Lo∧m.To.x2.Hi≤255∧m.From.x2.Hi - m.From.x2.Lo=m.To.x2.Hi - m.To.x2.Lo
 n3:0≤m.From.x3.Lo∧m.From.x3.Lo≤m.From.x3.Hi∧m.From.x3.Hi≤65535∧0≤m.To.x3.Lo∧m.To.x3.Hi≤65535∧m.From.x3.Hi - m.From.x3.Lo=m.To.x3.Hi - m.To.x3.Lo
 n4:0≤m.From.x4.Lo∧m.From.x4.Lo≤m.From.x4.Hi∧m.From.x4.Hi≤65535∧0≤m.To.x4.Lo∧m.To.x4.Hi≤65535∧m.From.x4.Hi - m.From.x4.Lo=m.To.x4.Hi - m.To.x4.Lo
theorem Zeb {a:List Bx} (h:VS a) (p:List Int):mem (a.filter vB) p=mem a p:=by rw [List.filter_eq_self.2 fun x hx=>ok_vB (h.ok x hx)]
theorem Zpb (b:Bx) (p:List Int):mem [b] p=mB (toL b) p:=by unfold mem mS; simp
theorem Zk9 {b:Bx} (h:vB b=true) (p:List Int):mem ([b].filter vB) p=mB (toL b) p:=by rw [List.filter_cons,if_pos h]; exact Zpb b p
theorem Zla {e:Bool} {r:List Bx × Int} (h:(kp e r).2=false):e=false∧r.2=0∧(kp e r).1=r.1:=by
 unfold kp at h ⊢
 split at h
 ·cases h
 ·rename_i hn
  rw [if_neg hn]
  refine⟨?_,?_,rfl⟩
  ·cases e with
   | true=>exact absurd (Or.inl rfl) hn
   | false=>rfl
  ·exact Classical.byContradiction fun h0=>hn (Or.inr h0)
theorem kp_sem {e:Bool} {op:Bool→Bool→Bool} {a b:List Bx} (h:(kp e (cmb op a b)).2=false):e=false∧∀ p,vP tops5 p→mem (kp e (cmb op a b)).1 p=op (mem (a.filter vB) p) (mem (b.filter vB) p):=by
 obtain⟨h1,h2,h3⟩:=Zla h
 exact⟨h1,fun p hp=>by rw [h3,(cmb_ok op a b).2 h2 p hp]⟩
theorem Znd:∀(l:List Bx) (e:Bool) (s:List Bx),(partsR e s l).2.2=false→e=false
 | [],_,_,h=>h
 | b :: l,e,s,h=>by
  simp only [partsR] at h
  split at h
  ·have h1:=Znd l _ _ h
   exact(kp_sem (kp_sem h1).1).1
  ·exact Znd l _ _ h
theorem st_kp {s:List Bx} (h:(kp false (st s)).2=false):(∀ p,vP tops5 p→mem (kp false (st s)).1 p=mem (s.filter vB) p):=by
 obtain⟨_,h2,h3⟩:=Zla h
 exact fun p hp=>by rw [h3,(st_ok s).2 h2 p hp]
end Go.AM
set_option maxRecDepth 100000
namespace Go.AM
open Go
theorem Zvo:Zjd=some full:=by kernel_rfl
abbrev QSt:=Bool × List Bx × List Bx
structure QOk (s:QSt):Prop where
 o:VS s.2.1
 r:VS s.2.2
theorem VS.full:VS [full]:=VS.of (CFb.single Zmr) (by simp)
theorem Zie {q:List Int} (hv:vP tops5 q):∃ a b c d e,q=[a,b,c,d,e]:=by
 have:=vP_len hv
 rcases q with _ | ⟨a,_ | ⟨b,_ | ⟨c,_ | ⟨d,_ | ⟨e,_ | ⟨g,l⟩⟩⟩⟩⟩⟩ <;> simp [tops5] at this
 exact⟨a,b,c,d,e,rfl⟩
theorem Zzr {p:List Int} (h:vP tops5 p):mem [full] p=true:=by
 rw [Zpb]
 obtain⟨a,b,c,d,e,rfl⟩:=Zie h
 simp only [tops5,vP] at h
 simp only [toL,full,mB,Bool.and_eq_true,Zbo,Bool.and_true]
 omega
end Go.AM
set_option maxRecDepth 100000
namespace Go.AM
open Go
def cutIn:List (List Int)→RL→Prop
 | [],[]=>True
 | C :: Cs,r :: b=>r.Lo∈C∧r.Hi + 1∈C∧cutIn Cs b
 | _,_=>False
def endsIn:List (List Int)→List Int→Prop
 | [],[]=>True
 | C :: Cs,t :: ts=>0∈C∧t + 1∈C∧endsIn Cs ts
 | _,_=>False
theorem Zw7 {C:List Int} {Cs:List (List Int)} {l:List RL} (h:∀ b∈l,cutIn (C :: Cs) b) (v:Int):∀ b∈atv l v,cutIn Cs b:=by
 intro b hb
 obtain⟨x,hx,hb⟩:=List.mem_flatMap.1 hb
 have:=h x hx
 cases x with
 | nil=>exact this.elim
 | cons r x=>
  simp only at hb
  split at hb
  ·rw [List.mem_singleton] at hb
   rw [hb]; exact this.2.2
  ·cases hb
theorem Zvp {C:List Int} {Cs:List (List Int)} {l:List RL} (h:∀ b∈l,cutIn (C :: Cs) b) {v:Int} (hv:¬ v∈C):atv l v=atv l (v - 1):=by
 unfold atv
 induction l with
 | nil=>rfl
 | cons b l ih=>
  rw [List.flatMap_cons,List.flatMap_cons,ih fun x hx=>h x (List.mem_cons_of_mem _ hx)]
  congr 1
  have hb:=h b (List.mem_cons_self ..)
  cases b with
  | nil=>exact hb.elim
  | cons r b=>
   have e:inR v r=inR (v - 1) r:=by
    rw [Bool.eq_iff_iff,Zbo,Zbo]
    have h1:r.Lo ≠ v:=fun e=>hv (e ▸ hb.1)
    have h2:r.Hi + 1 ≠ v:=fun e=>hv (e ▸ hb.2.1)
    omega
   simp only [e]
theorem Zw8 {op:Bool→Bool→Bool}:∀(ts:List Int) (Cs:List (List Int)) {a b l:List RL},endsIn Cs ts→(∀ x∈a,cutIn Cs x)→(∀ x∈b,cutIn Cs x)→Is op ts a b l→∀ x∈l,cutIn Cs x
 | [],[],a,b,l,_,_,_,h,x,hx=>by
  rcases h.cf with rfl | rfl
  ·cases hx
  ·rw [List.mem_singleton] at hx; rw [hx]; trivial
 | t :: ts,C :: Cs,a,b,l,he,ha,hb,h,x,hx=>by
  obtain⟨c,rfl,ho,hc⟩:=h.cf
  obtain⟨y,hy,hx0⟩:=List.mem_flatMap.1 hx
  obtain⟨x,hxy,rfl⟩:=List.mem_map.1 hx0
  have hyo:=ho.ok y hy
  have hat:∀ v,0≤v→v≤t→Is op ts (atv a v) (atv b v) (lk c v):=fun v h0 h1=>Is.at_ ho hc h h0 h1
  have same:∀ v,¬ v∈C→0<v→v≤t→lk c v=lk c (v - 1):=fun v hv h0 h1=>by
   have g1:=hat v (by omega) h1
   rw [Zvp ha hv,Zvp hb hv] at g1
   exact g1.inj (hat (v - 1) (by omega) (by omega))
  have hp:=List.pairwise_iff_getElem.1 ho.pw
  refine⟨?_,?_,?_⟩
  ·apply Classical.byContradiction
   intro hn
   have h0:y.1.Lo ≠ 0:=fun e=>hn (e ▸ he.1)
   have e1:=same y.1.Lo hn (by omega) (by omega)
   rw [lk_mem ho hy (Int.le_refl _) hyo.2.1] at e1
   obtain⟨z,hz,h3,h4⟩:=Zi1 (c:=c) (v:=y.1.Lo - 1) (by rw [← e1]; exact hyo.2.2.2)
   rw [lk_mem ho hz h3 h4] at e1
   obtain⟨i,hi,rfl⟩:=List.getElem_of_mem hy
   obtain⟨j,hj,rfl⟩:=List.getElem_of_mem hz
   rcases Nat.lt_trichotomy i j with h5 | h5 | h5
   ·have:=(hp i j hi hj h5).1; omega
   ·subst h5; omega
   ·have hg:=hp j i hj hi h5
    have:=hg.1
    exact hg.2 (by omega) e1.symm
  ·apply Classical.byContradiction
   intro hn
   have h0:y.1.Hi ≠ t:=fun e=>hn (e ▸ he.2.1)
   have e1:=same (y.1.Hi + 1) hn (by omega) (by omega)
   rw [show y.1.Hi + 1 - 1=y.1.Hi by omega,lk_mem (v:=y.1.Hi) ho hy hyo.2.1 (Int.le_refl _)] at e1
   obtain⟨z,hz,h3,h4⟩:=Zi1 (c:=c) (v:=y.1.Hi + 1) (by rw [e1]; exact hyo.2.2.2)
   rw [lk_mem ho hz h3 h4] at e1
   obtain⟨i,hi,rfl⟩:=List.getElem_of_mem hy
   obtain⟨j,hj,rfl⟩:=List.getElem_of_mem hz
   rcases Nat.lt_trichotomy i j with h5 | h5 | h5
   ·have hg:=hp i j hi hj h5
    have:=hg.1
    exact hg.2 (by omega) e1.symm
   ·subst h5; omega
   ·have:=(hp j i hj hi h5).1; omega
  ·have g1:=hat y.1.Lo hyo.1 (by omega)
   rw [lk_mem ho hy (Int.le_refl _) hyo.2.1] at g1
   exact Zw8 ts Cs he.2.2 (Zw7 ha _) (Zw7 hb _) g1 x hxy
 | [],_ :: _,_,_,_,h,_,_,_,_,_=>h.elim
 | _ :: _,[],_,_,_,h,_,_,_,_,_=>h.elim
def prodL:List (List Int)→Nat
 | []=>1
 | C :: Cs=>C.length * prodL Cs
theorem Zw9:∀(ts:List Int) (Cs:List (List Int)) {l:List RL},CF ts l→(∀ x∈l,cutIn Cs x)→l.length≤prodL Cs
 | [],[],l,h,_=>by rcases h with rfl | rfl <;> simp [prodL]
 | [],C :: Cs,l,h,hc=>by
  rcases h with rfl | rfl
  ·simp
  ·exact(hc [] (List.mem_singleton.2 rfl)).elim
 | t :: ts,[],l,h,hc=>by
  obtain⟨c,rfl,ho,_⟩:=h
  cases hl:flt c with
  | nil=>simp
  | cons x l=>
   have hx:=hc x (by rw [hl]; exact List.mem_cons_self ..)
   cases x with
   | nil=>have:=CF_len (t :: ts) ⟨c,rfl,ho,by assumption⟩ [] (by rw [hl]; exact List.mem_cons_self ..); simp at this
   | cons _ _=>exact hx.elim
 | t :: ts,C :: Cs,l,h,hcut=>by
  obtain⟨c,rfl,ho,hc⟩:=h
  have hin:∀ y∈c,y.1.Lo∈C∧∀ b∈y.2,cutIn Cs b:=fun y hy=>by
   have hyo:=ho.ok y hy
   have:∀ b∈y.2,cutIn (C :: Cs) (y.1 :: b):=fun b hb=>hcut _ (List.mem_flatMap.2 ⟨y,hy,List.mem_map.2 ⟨b,hb,rfl⟩⟩)
   obtain⟨b0,hb0⟩:=List.exists_mem_of_ne_nil _ hyo.2.2.2
   exact⟨(this b0 hb0).1,fun b hb=>(this b hb).2.2⟩
  have hvs:(c.map (·.1.Lo)).Pairwise (·<·):=by
   rw [List.pairwise_map]
   refine List.Pairwise.imp_of_mem ?_ ho.pw
   intro x y hx _ hg
   have:=ho.ok x hx
   have:=hg.1
   omega
  have hlen:c.length≤C.length:=by
   have:=List.Nodup.length_le_of_subset (Zo0 hvs) (l₂:=C) (fun v hv=>by obtain⟨y,hy,rfl⟩:=List.mem_map.1 hv; exact(hin y hy).1)
   rwa [List.length_map] at this
  have h1:sumL (fun x:Cell=>x.2.length) c≤sumL (fun _=>prodL Cs) c:=Zwz fun y hy=>Zw9 ts Cs (hc y hy) (hin y hy).2
  rw [Zw1,prodL]
  rw [Znb] at h1
  exact Nat.le_trans h1 (Nat.mul_le_mul_right _ hlen)
def CutB (Cs:List (List Int)) (l:List Bx):Prop:=∀ b∈l,cutIn Cs (toL b)
theorem CutB.can {Cs:List (List Int)} (he:endsIn Cs tops5) {op:Bool→Bool→Bool} {a b l:List Bx} (ha:CutB Cs a) (hb:CutB Cs b) (h:Can op a b l):CutB Cs l:=fun x hx=>by
 refine Zw8 tops5 Cs he (fun y hy=>?_) (fun y hy=>?_) h.is (toL x) (List.mem_map_of_mem hx)
 ·obtain⟨z,hz,rfl⟩:=List.mem_map.1 hy; exact ha z hz
 ·obtain⟨z,hz,rfl⟩:=List.mem_map.1 hy; exact hb z hz
theorem CutB.size {Cs:List (List Int)} {l:List Bx} (h:CFb l) (hc:CutB Cs l):l.length≤prodL Cs:=by
 have:=Zw9 tops5 Cs h (fun y hy=>by obtain⟨z,hz,rfl⟩:=List.mem_map.1 hy; exact hc z hz)
 rwa [List.length_map] at this
theorem CutB.nil (Cs:List (List Int)):CutB Cs []:=fun _ h=>(by cases h)
theorem CutB.one {Cs:List (List Int)} {b:Bx} (h:cutIn Cs (toL b)):CutB Cs [b]:=fun x hx=>by rw [List.mem_singleton] at hx; rw [hx]; exact h
theorem CutB.mkF {Cs:List (List Int)} (he:endsIn Cs tops5):∀(l s:List Bx),CutB Cs s→CutB Cs l→CutB Cs (mkF s l).1
 | [],s,hs,_=>hs
 | b :: l,s,hs,hl=>by
  simp only [AM.mkF]
  split
  ·exact CutB.mkF he l _ (CutB.can he hs (CutB.one (hl b (List.mem_cons_self ..))) (Zek oO s [b])) fun x hx=>hl x (List.mem_cons_of_mem _ hx)
  ·exact CutB.nil Cs
theorem CutB.st {Cs:List (List Int)} (he:endsIn Cs tops5) {s:List Bx} (hs:CutB Cs (s.filter vB)):CutB Cs (st s).1:=by
 unfold AM.st
 split
 ·rename_i h
  have hv:=Zmv.1 h
  rw [List.filter_eq_self.2 fun x hx=>ok_vB (hv.ok x hx)] at hs
  exact hs
 ·exact CutB.mkF he _ _ (CutB.nil Cs) hs
theorem CutB.kp {Cs:List (List Int)} {e:Bool} {r:List Bx × Int} (h:CutB Cs r.1):CutB Cs (kp e r).1:=by
 unfold AM.kp
 split
 ·exact CutB.nil Cs
 ·exact h
theorem CutB.filter {Cs:List (List Int)} {a:List Bx} (h:CutB Cs a):CutB Cs (a.filter vB):=fun x hx=>h x (List.mem_filter.1 hx).1
end Go.AM
set_option maxRecDepth 100000
namespace Go.AM
open Go
theorem Ztw {t:Ze} (ht:TOk t):Ok (Zd1 t) fun r=>Zaq r.1∧TOk r.2:=by
 unfold Zd1
 refine Ok.bind (Zms ht) fun r1 ⟨a1,h1⟩=>Ok.bind (Zms h1) fun r3 ⟨a3,h3⟩=>?_
 refine Ok.bind (Zcx h3 6 (by omega) (by omega)) fun r5 ⟨⟨c0,c1⟩,h5⟩=>?_
 refine Ok.bind (Ok.idx (p:=fun x=>0≤x∧x<256) c0 (by simpa using c1) fun x hx=>?_) fun x7 hx7=>?_
 ·simp only [List.mem_cons,List.not_mem_nil,or_false] at hx
  omega
 refine Ok.bind (Zlu h5 (by omega) (by omega)) fun r9 ⟨a9,h9⟩=>Ok.bind (Zlu h9 (by omega) (by omega)) fun r11 ⟨a11,h11⟩=>Ok.ret ⟨?_,h11⟩
 have g9:=Zr5 r9.1
 have g11:=Zr5 r11.1
 refine⟨?_,?_,?_,?_,?_,trivial⟩ <;> simp only [Zja,Zim,ok_u8] <;> omega
theorem Zvq (v:Arr5 Int) (x:Int) {k:Int} (h0:0≤k) (h1:k<5):(v.set k x).get k=x:=by
 rcases five h0 h1 with rfl | rfl | rfl | rfl | rfl <;> rfl
theorem Zvr (v:Arr5 Int) (x y:Int) {k:Int} (h0:0≤k) (h1:k<5):(v.set k x).set k y=v.set k y:=by
 rcases five h0 h1 with rfl | rfl | rfl | rfl | rfl <;> rfl
theorem z_ok:VOk Zir:=⟨by decide,by decide,by decide,by decide,by decide⟩
theorem Z0v {t:Ze} (ht:TOk t) {l:List (Arr5 Zb)} (hl:∀ b∈l,BIn b) (hn:l.length≤1000000):Ok (Zfm t l) fun r=>Zaq r.1∧TOk r.2:=by
 unfold Zfm
 refine Ok.lift ?_
 refine Ok.bind (p:=fun v=>TOk v.2∧(v.1=false→0<l.length)) ?_ fun v ⟨hv,hp⟩=>?_
 ·refine Ok.ite (fun _=>Ok.ret ⟨ht,fun h=>by cases h⟩) fun hc=>?_
  exact Ok.bind (Zcx ht 4 (by omega) (by omega)) fun r ⟨_,h4⟩=>Ok.ret ⟨h4,fun _=>by
   rcases l with _ | ⟨a,l⟩
   ·exact absurd rfl hc
   ·simp⟩
 refine Ok.ite (fun _=>Ok.bind (Ztw hv) fun r h=>Ok.ret h) fun hc=>?_
 have hp:=hp (by simpa using hc)
 refine Ok.bind (Zcx hv (l.length:Int) (by omega) (by omega)) fun r11 ⟨⟨a0,a1⟩,h11⟩=>?_
 refine Ok.bind (Ok.idx (p:=BIn) a0 a1 hl) fun b hb=>?_
 refine Ok.bind (p:=fun o=>TOk o.1∧VOk o.2) ?_ fun o ⟨g1,g2⟩=>?_
 ·refine Ok.mono (p:=fun(o:Ze × Arr5 Int)=>TOk o.1∧VOk o.2) ?_ fun _ h=>h
  have key:∀(s:Ze × Arr5 Int),TOk s.1∧VOk s.2→Ok ((fun n (s:Ze × Arr5 Int) k=>Zbn b n s.1 s.2 k) fuel s 0) fun(o:Ze × Arr5 Int)=>TOk o.1∧VOk o.2:=fun s hs=>by
   refine Z0e (L:=fun n (s:Ze × Arr5 Int) k=>Zbn b n s.1 s.2 k) (I:=fun s=>TOk s.1∧VOk s.2) (fun n s k h0 h1 ⟨e1,e2⟩ kk=>?_) (fun n s h=>?_) s hs
   ·have hk:0≤k∧k<5:=⟨h0,h1⟩
    show Ok (Zbn b (n + 1) s.1 s.2 k) _
    rw [Zbn,if_pos (decide_eq_true h1)]
    refine Ok.chk hk (Ok.chk hk (Ok.chk hk (Ok.chk hk (Ok.chk hk (Ok.chk hk (Ok.chk hk ?_))))))
    refine Ok.bind (Zcx e1 5 (by omega) (by omega)) fun r81 ⟨⟨d0,d1⟩,h81⟩=>?_
    have hg:=hb.get k
    have w1:=Zgb ((b.get k).Lo - 1)
    have w2:=Zgb ((b.get k).Hi + 1)
    have w3:=Zgb ((b.get k).Lo + IntKind.wrap .u32 (Int.tdiv (IntKind.wrap .u32 ((b.get k).Hi - (b.get k).Lo)) 2))
    have q0:=hg.h0
    have q1:=hg.h1
    have q2:=hg.h2
    have q3:=hg.h3
    refine Ok.bind (Ok.idx (p:=fun x=>0≤x∧x<4294967296) d0 (by simpa using d1) fun x hx=>?_) fun x hx=>?_
    ·simp only [List.mem_cons,List.not_mem_nil,or_false] at hx
     omega
    refine Ok.chk hk (Ok.chk hk ?_)
    rw [Top_eq k h0 h1]
    refine Ok.lift ?_
    refine Ok.chk hk ?_
    rw [wnext h0 (by omega),Zvq _ _ h0 h1,Zvr _ _ _ h0 h1]
    have ht:=Zvb h0 h1
    refine kk (r81.2,s.2.set k (iMin x (topOf k))) ⟨h81,e2.set h0 h1 ?_ ?_⟩
    ·unfold iMin; split <;> omega
    ·unfold iMin; split <;> omega
   ·show Ok (Zbn b (n + 1) s.1 s.2 5) _
    rw [Zbn,if_neg (by decide)]
    exact Ok.ret h
  exact key (r11.2,Zir) ⟨h11,z_ok⟩
 ·obtain⟨o1,o2⟩:=o
  show Ok ((Zgf o2).bind _) _
  rw [Zxn g2]
  exact Ok.lift (Ok.ret ⟨hdr_ok g2,g1⟩)
theorem Ztx {α ρ:Type}:∀(xs:List α) (i:Nat),findI (fun _ _=>(none:Option ρ)) i xs=none
 | [],_=>rfl
 | _ :: xs,i=>Ztx xs (i + 1)
end Go.AM
set_option maxRecDepth 100000
namespace Go.AM
open Go
end Go.AM
set_option maxRecDepth 100000
namespace Go.AM
open Go
def pt (h:Zo):List Int:=[h.Src,h.Dst,h.Proto,h.SrcPort,h.DstPort]
theorem pt_ok {h:Zo} (hh:Zaq h):vP tops5 (pt h):=by
 have:=hv_ok hh
 exact⟨this.h0.1,this.h0.2,this.h1.1,this.h1.2,this.h2.1,this.h2.2,this.h3.1,this.h3.2,this.h4.1,this.h4.2,trivial⟩
theorem cB_eq (b:Bx) (h:Zo):cB b h=(vB b && mB (toL b) (pt h)):=by
 unfold cB
 congr 1
 unfold allF outB
 rw [Bool.eq_iff_iff]
 simp only [toL,pt,mB,hv,Bool.not_eq_true',Bool.or_eq_false_iff,decide_eq_false_iff_not,Bool.and_eq_true,Zbo,Arr5.get]
 simp
 omega
theorem Zp6 {h:Zo} (hh:Zaq h) {l:List Bx} (hl:l.length≤1000000000000):Zep l h=some (mem (l.filter vB) (pt h)):=by
 unfold Zep
 rw [Zh3 (L:=Zc3 l h) l (fun _ x=>if cB x h=true then some true else none) hl (fun n i hi=>by
  rw [Zc3]
  simp only [show ((i:Int)<(l.length:Int)) from by omega,decide_true,if_true,Zaf hi,Option.bind_some,Zva hh,wsucc (by omega:i<1000000000001)]
  cases cB l[i] h <;> rfl) (fun n=>by rw [Zc3]; simp)]
 have e:∀(l:List Bx) (i:Nat),findI (fun _ x=>if cB x h=true then some true else none) i l=if mem (l.filter vB) (pt h)=true then some true else none:=by
  intro l
  induction l with
  | nil=>intro i; rfl
  | cons b l ih=>
   intro i
   simp only [findI,cB_eq]
   have e2:mem ((b :: l).filter vB) (pt h)=((vB b && mB (toL b) (pt h)) || mem (l.filter vB) (pt h)):=by
    rw [List.filter_cons]
    by_cases hb:vB b=true
    ·rw [if_pos hb,hb,Bool.true_and,show b :: l.filter vB=[b]++l.filter vB from rfl,Zw4,Zpb]
    ·rw [if_neg hb]
     rw [Bool.not_eq_true] at hb
     rw [hb]; rfl
   rw [e2]
   by_cases hb:(vB b && mB (toL b) (pt h))=true
   ·rw [if_pos hb,hb]; rfl
   ·rw [if_neg hb]
    rw [Bool.not_eq_true] at hb
    rw [hb,Bool.false_or]
    have:=ih (i + 1)
    simp only [cB_eq] at this
    exact this
 rw [e]
 cases mem (l.filter vB) (pt h) <;> rfl
theorem CFb.nil_iff {l:List Bx} (h:CFb l):l=[] ↔ ∀ p,vP tops5 p→mem l p=false:=
 ⟨fun e p _=>by rw [e]; rfl,fun e=>h.inj CFb.nil fun p hp=>by rw [e p hp]; rfl⟩
theorem Zxv {a b:List Bx} (ha:VS a) (hb:VS b):∃ r,Zgi a b=some r∧(r=true ↔ ∀ p,vP tops5 p→mem a p=true→mem b p=true):=by
 have la:=ha.len
 have lb:=hb.len
 have hC:=Zek oW a b
 unfold Zgi
 rw [Ztp (by omega),Ztp (by omega)]
 simp only [Option.bind_some]
 rw [List.filter_eq_self.2 fun x hx=>ok_vB (ha.ok x hx),List.filter_eq_self.2 fun x hx=>ok_vB (hb.ok x hx)]
 rw [Zyj (k:=2) (by omega) ha.ok hb.ok (by rw [opc2]; exact hC) (hC.size2 rfl ha.cf hb.cf ha.len hb.len)]
 refine⟨_,rfl,?_⟩
 have e:(((can oW a b).length:Int) == (0:Int))=true ↔ can oW a b=[]:=by simp
 rw [e,hC.cf.nil_iff]
 constructor
 ·intro h p hp hm
  have:=h p hp
  rw [hC.mem p hp,oW,hm] at this
  simpa using this
 ·intro h p hp
  rw [hC.mem p hp,oW]
  cases hm:mem a p with
  | false=>rfl
  | true=>rw [h p hp hm]; rfl
theorem Zxa {s:ISt} (h:ISok s):SetOr (resA s):=by
 unfold resA
 split
 ·exact⟨VS.nil,Or.inr rfl⟩
 ·exact⟨h.vs,Or.inl rfl⟩
end Go.AM
set_option maxRecDepth 100000
namespace Go.AM
open Go
structure HIn (h:Zi):Prop where
 m:BIn h.Match
 a0:0≤h.Addr
 a1:h.Addr≤4294967295
 p:RIn h.Ports
def vH (h:Zi):Bool:=vB h.Match && decide (h.Ports.Lo≤h.Ports.Hi) && decide (h.Ports.Hi≤65535)
theorem Zh5 (h:Zi):Zch h=some (vH h):=by
 unfold Zch vH
 rw [Zm7]
 simp only [Option.bind_some]
 rw [show Zhw 3=some 65535 from rfl]
 cases vB h.Match <;> cases decide (h.Ports.Lo≤h.Ports.Hi) <;> simp
theorem vH_ok {h:Zi} (hi:HIn h) (hv:vH h=true):BOk h.Match∧ROk 65535 h.Ports:=by
 unfold vH at hv
 simp only [Bool.and_eq_true,decide_eq_true_eq] at hv
 exact⟨vB_ok hi.m hv.1.1,⟨hi.p.h0,hv.1.2,hv.2⟩⟩
def tgt (h:Zi) (b:Bx):Bx:=⟨⟨h.Addr,h.Addr⟩,b.x1,b.x2,h.Ports,b.x4⟩
theorem tgt_ok {h:Zi} (hi:HIn h) (hv:vH h=true) {b:Bx} (hb:BOk b):BOk (tgt h b):=
 ⟨⟨hi.a0,Int.le_refl _,hi.a1⟩,hb.h1,hb.h2,(vH_ok hi hv).2,hb.h4⟩
def freeB (f:Nat) (b:Bx):Bx:=b.set (f:Int) ⟨0,topOf (f:Int)⟩
theorem Zzs {f:Nat} (hf:f<5) {b:Bx} (h:BOk b):BOk (freeB f b):=by
 have r:∀ t:Int,0≤t→ROk t ⟨0,t⟩:=fun t ht=>⟨Int.le_refl _,ht,Int.le_refl _⟩
 rcases fiveN hf with rfl | rfl | rfl | rfl | rfl
 ·exact⟨r 4294967295 (by decide),h.h1,h.h2,h.h3,h.h4⟩
 ·exact⟨h.h0,r 4294967295 (by decide),h.h2,h.h3,h.h4⟩
 ·exact⟨h.h0,h.h1,r 255 (by decide),h.h3,h.h4⟩
 ·exact⟨h.h0,h.h1,h.h2,r 65535 (by decide),h.h4⟩
 ·exact⟨h.h0,h.h1,h.h2,h.h3,r 65535 (by decide)⟩
noncomputable def freeA (a:List Bx) (f:Nat):List Bx × Int:=if (st a).2 ≠ 0 then ([],(st a).2) else capB (can oO ((st a).1.map (freeB f)) [])
theorem Zvs (a:List Bx) (f:Nat):SetOr (freeA a f):=by
 unfold freeA
 split
 ·rename_i h; rw [(st_ok a).1.three h]; exact⟨VS.nil,Or.inr rfl⟩
 ·exact Zw5
theorem Zzt {a:List Bx} (ha:InL a) {f:Nat} (hf:f<5):Zgj a (f:Int)=some (freeA a f):=by
 have sa:=(st_ok a).1.vs
 have la:=sa.len
 unfold Zgj freeA
 rw [Zj0 ha.len ha.bin]
 simp only [Option.bind_some,bne_iff_ne]
 split
 ·rfl
 ·rw [if_pos (by unfold lim; omega)]
  have:=Zc7 (L:=Zdo (f:Int) (st a)) (st a).1 (stepN (freeB f)) id (fun _ v=>v.length=(st a).1.length) (by omega) (fun n v i hi hs=>by
   have hv:i<v.length:=by omega
   rw [Zdo]
   have d1:decide ((f:Int) ≥ 0)=true:=by simp
   have d2:decide ((f:Int)<5)=true:=by simp; omega
   simp only [show ((i:Int)<((st a).1.length:Int)) from by omega,decide_true,if_true,Option.bind_some,d1,d2,Bool.and_self,wsucc (by omega:i<1000000000001),Zwx hf,Zaf hv]
   rw [if_pos ⟨by omega,by omega⟩]
   simp only [Option.bind_some,Int.toNat_natCast]
   have h3:stepN (freeB f) v i (st a).1[i]=v.set i (freeB f v[i]):=by unfold stepN; rw [List.getElem?_eq_getElem hv]
   rw [h3]
   exact⟨rfl,by rw [List.length_set]; exact hs⟩) (fun n v hs=>by rw [Zdo]; simp) (st a).1 rfl
  have h2:=Zkm (freeB f) (st a).1 []
  rw [List.nil_append,List.nil_append,List.length_nil] at h2
  rw [this.1,h2]
  simp only [id,Option.bind_some]
  rw [combO (by rw [List.length_map]; simp; omega) (fun x hx=>by
   obtain⟨y,hy,rfl⟩:=List.mem_map.1 hx
   exact Zzs hf (sa.ok y hy)) (fun x hx=>by cases hx)]
  rfl
noncomputable def uF (e:Bool) (a:List Bx) (f:Nat):=kp e (freeA a f)
theorem uF_vs (e:Bool) (a:List Bx) (f:Nat):VS (uF e a f).1∧((uF e a f).2=true→(uF e a f).1=[]):=kp_vs (Zvs _ _)
theorem lF_eq {e:Bool} {a:List Bx} (ha:InL a) {f:Nat} (hf:f<5):Zc2 (le e) a (f:Int)=some ((uF e a f).1,le (uF e a f).2):=by
 unfold Zc2 uF
 rw [Zzt ha hf]
 simp only [Option.bind_some]
 rw [Zmw (Zvs _ _)]; rfl
theorem Zvt {t:Int} {ts:List Int} {T R:List RL} (hR:Is oO ts T [] R) {r:Zb} (hr:0≤r.Lo∧r.Lo≤r.Hi∧r.Hi≤t):Is oO (t :: ts) (T.map (r :: ·)) [] (R.map (r :: ·)):=by
 constructor
 ·by_cases h:R=[]
  ·rw [h]; exact CF_nil _
  ·refine⟨[(r,R)],by simp [flt],⟨List.pairwise_singleton ..,fun x hx=>?_⟩,fun x hx=>?_⟩
   ·rw [List.mem_singleton] at hx; subst hx; exact⟨hr.1,hr.2.1,hr.2.2,h⟩
   ·rw [List.mem_singleton] at hx; subst hx; exact hR.cf
 ·intro p hp
  cases p with
  | nil=>exact hp.elim
  | cons v p=>
   rw [Zhl,Zhl,Zo6,Zo6,mS_nil,oO,Bool.or_false]
   by_cases hv:inR v r=true
   ·rw [if_pos hv,if_pos hv,hR.mem p hp.2.2,mS_nil,oO,Bool.or_false]
   ·rw [if_neg hv,if_neg hv]
def apart:Zi→Nat→List Bx→List Bx
 | h,i,b :: l=>⟨⟨2 * (i:Int),2 * (i:Int)⟩,b.x1,b.x2,h.Ports,b.x4⟩ :: apart h (i + 1) l
 | _,_,[]=>[]
theorem Zty (h:Zi):∀(l:List Bx) (i:Nat),(apart h i l).length=l.length
 | [],_=>rfl
 | b :: l,i=>by simp only [apart,List.length_cons]; rw [Zty h l]
theorem Zvu {h:Zi} (hi:HIn h) (hv:vH h=true):∀(l:List Bx) (i:Nat),(∀ b∈l,BOk b)→i + l.length≤1000000→∃ c,(apart h i l).map toL=flt c∧Ord 4294967295 c∧(∀ x∈c,CF (tops5.drop 1) x.2)∧∀ x∈c,2 * (i:Int)≤x.1.Lo
 | [],i,_,_=>⟨[],rfl,⟨List.Pairwise.nil,fun _ h=>(by cases h)⟩,fun _ h=>(by cases h),fun _ h=>(by cases h)⟩
 | b :: l,i,hb,hl=>by
  obtain⟨c,h1,h2,h3,h4⟩:=Zvu hi hv l (i + 1) (fun x hx=>hb x (List.mem_cons_of_mem _ hx)) (by simp at hl; omega)
  simp only [List.length_cons] at hl
  have hbo:=hb b (List.mem_cons_self ..)
  have hp:=(vH_ok hi hv).2
  refine⟨(⟨2 * (i:Int),2 * (i:Int)⟩,[[b.x1,b.x2,h.Ports,b.x4]]) :: c,?_,⟨List.pairwise_cons.2 ⟨fun y hy=>?_,h2.pw⟩,fun x hx=>?_⟩,fun x hx=>?_,fun x hx=>?_⟩
  ·rw [Zg3,apart,List.map_cons,h1]; rfl
  ·have:=h4 y hy
   exact⟨by show 2 * (i:Int)<y.1.Lo; omega,fun e=>by have e:2 * (i:Int) + 1=y.1.Lo:=e; omega⟩
  ·rcases List.mem_cons.1 hx with rfl | hx
   ·exact⟨by show 0≤2 * (i:Int); omega,Int.le_refl _,by show 2 * (i:Int)≤4294967295; omega,List.cons_ne_nil _ _⟩
   ·exact h2.ok x hx
  ·rcases List.mem_cons.1 hx with rfl | hx
   ·exact Zo1 (tops5.drop 1) ⟨hbo.h1.h0,hbo.h1.h1,hbo.h1.h2,hbo.h2.h0,hbo.h2.h1,hbo.h2.h2,hp.h0,hp.h1,hp.h2,hbo.h4.h0,hbo.h4.h1,hbo.h4.h2,trivial⟩
   ·exact h3 x hx
  ·rcases List.mem_cons.1 hx with rfl | hx
   ·exact Int.le_refl _
   ·have:=h4 x hx; omega
theorem Zzu {h:Zi} (hi:HIn h) (hv:vH h=true) {l:List Bx} (hl:VS l):VS (apart h 0 l):=by
 obtain⟨c,h1,h2,h3,_⟩:=Zvu hi hv l 0 hl.ok (by have:=hl.len; omega)
 exact VS.of ⟨c,h1,h2,h3⟩ (by rw [Zty]; exact hl.len)
noncomputable def hidG (h:Zi) (l:List Bx):List Bx:=can oO (l.map (tgt h)) []
def setA (a:Int) (b:Bx):Bx:=⟨⟨a,a⟩,b.x1,b.x2,b.x3,b.x4⟩
theorem Zse (h:Zi):∀(l:List Bx) (i:Nat),(apart h i l).map (freeB 0)=l.map fun b=>⟨⟨0,4294967295⟩,b.x1,b.x2,h.Ports,b.x4⟩
 | [],_=>rfl
 | b :: l,i=>by simp only [apart,List.map_cons]; rw [Zse h l]; rfl
theorem Zzv {h:Zi} (hi:HIn h) {l:List Bx}:(can oO ((apart h 0 l).map (freeB 0)) []).map (setA h.Addr)=hidG h l:=by
 obtain⟨R,hR⟩:=Is.exists_ oO (tops5.drop 1) (fun t ht=>Zvk t (List.mem_of_mem_drop ht)) (l.map fun b=>[b.x1,b.x2,h.Ports,b.x4]) []
 have e1:((apart h 0 l).map (freeB 0)).map toL=(l.map fun b=>[b.x1,b.x2,h.Ports,b.x4]).map ((⟨0,4294967295⟩:Zb) :: ·):=by
  rw [Zse,List.map_map,List.map_map]; rfl
 have e2:(l.map (tgt h)).map toL=(l.map fun b=>[b.x1,b.x2,h.Ports,b.x4]).map ((⟨h.Addr,h.Addr⟩:Zb) :: ·):=by
  rw [List.map_map,List.map_map]; rfl
 have g1:=(Zek oO ((apart h 0 l).map (freeB 0)) []).is
 have g2:=(Zek oO (l.map (tgt h)) []).is
 rw [e1] at g1
 rw [e2] at g2
 have k1:=g1.inj (Zvt (t:=4294967295) hR (r:=⟨0,4294967295⟩) ⟨by decide,by decide,by decide⟩)
 have k2:=g2.inj (Zvt (t:=4294967295) hR (r:=⟨h.Addr,h.Addr⟩) ⟨hi.a0,Int.le_refl _,hi.a1⟩)
 refine Zp4 ?_
 unfold hidG
 rw [k2]
 have hlen:∀ b∈R,b.length=4:=fun b hb=>CF_len _ hR.cf b hb
 have e3:∀(X:List Bx),X.map toL=R.map ((⟨0,4294967295⟩:Zb) :: ·)→(X.map (setA h.Addr)).map toL=R.map ((⟨h.Addr,h.Addr⟩:Zb) :: ·):=by
  intro X hX
  have:(X.map (setA h.Addr)).map toL=(X.map toL).map fun b=>(⟨h.Addr,h.Addr⟩:Zb) :: b.drop 1:=by
   rw [List.map_map,List.map_map]; rfl
  rw [this,hX,List.map_map]
  rfl
 exact e3 _ k1
noncomputable def hidA (e:Bool) (h:Zi) (l:List Bx):List Bx × Bool:=if e=true∨¬ (hidG h l).length≤4096 then ([],true) else (hidG h l,false)
theorem Z0w (h:Zi) (l:List Bx):CFb (hidG h l):=(Zek oO _ _).cf
theorem Zxb (e:Bool) (h:Zi) (l:List Bx):VS (hidA e h l).1∧((hidA e h l).2=true→(hidA e h l).1=[]):=by
 unfold hidA
 split
 ·exact⟨VS.nil,fun _=>rfl⟩
 ·rename_i hn
  refine⟨VS.of (Z0w h l) ?_,fun h=>by cases h⟩
  apply Classical.byContradiction
  intro h2
  exact hn (Or.inr h2)
def stepI {α:Type} (g:Nat→α→α) (s:List α) (i:Nat) (_:α):List α:=match s[i]? with
 | some x=>s.set i (g i x)
 | none=>s
def mapI {α:Type} (g:Nat→α→α):Nat→List α→List α
 | i,x :: l=>g i x :: mapI g (i + 1) l
 | _,[]=>[]
theorem Zsf {α:Type} (g:Nat→α→α):∀(l pre:List α),foldI (stepI g) (pre++l) pre.length l=pre++mapI g pre.length l
 | [],pre=>by simp [foldI,mapI]
 | x :: l,pre=>by
  have e:foldI (stepI g) (pre++x :: l) pre.length (x :: l)=foldI (stepI g) (stepI g (pre++x :: l) pre.length x) (pre.length + 1) l:=rfl
  rw [e]
  have h1:(pre++x :: l)[pre.length]? = some x:=by rw [List.getElem?_append_right (Nat.le_refl _),Nat.sub_self]; rfl
  have h2:(pre++x :: l).set pre.length (g pre.length x)=(pre++[g pre.length x])++l:=by rw [List.set_append_right _ _ (Nat.le_refl _),Nat.sub_self]; simp
  have h3:stepI g (pre++x :: l) pre.length x=(pre++[g pre.length x])++l:=by unfold stepI; rw [h1]; exact h2
  rw [h3]
  have:=Zsf g l (pre++[g pre.length x])
  rw [List.length_append,List.length_singleton] at this
  rw [this]
  simp [mapI]
theorem Zsg (h:Zi):∀(l:List Bx) (i:Nat),mapI (fun i (b:Bx)=>(⟨⟨2 * (i:Int),2 * (i:Int)⟩,b.x1,b.x2,h.Ports,b.x4⟩:Bx)) i l=apart h i l
 | [],_=>rfl
 | b :: l,i=>by simp only [mapI,apart]; rw [Zsg h l]
theorem Zyr {h:Zi} (hi:HIn h) (hv:vH h=true) {e:Bool} {l:List Bx} (hl:VS l):Zd3 (le e) h l=some ((hidA e h l).1,le (hidA e h l).2):=by
 have ll:=hl.len
 unfold Zd3
 rw [if_pos (by unfold lim; omega)]
 have h1:=Zc7 (L:=Zb2 h l) l (stepI (fun i (b:Bx)=>(⟨⟨2 * (i:Int),2 * (i:Int)⟩,b.x1,b.x2,h.Ports,b.x4⟩:Bx))) id (fun _ v=>v.length=l.length) (by omega) (fun n v i hil hs=>by
  have hiv:i<v.length:=by omega
  rw [Zb2]
  simp only [show ((i:Int)<(l.length:Int)) from by omega,decide_true,if_true,Option.bind_some,Zaf hiv,wsucc (by omega:i<1000000000001),Int.toNat_natCast]
  rw [wi64 (x:=(2:Int) * (i:Int)) (by omega) (by omega),wu32 (by omega) (by omega),Zaf (by rw [List.length_set]; exact hiv),List.getElem_set_self]
  simp only [Option.bind_some,List.set_set]
  have h3:stepI (fun i (b:Bx)=>(⟨⟨2 * (i:Int),2 * (i:Int)⟩,b.x1,b.x2,h.Ports,b.x4⟩:Bx)) v i l[i]=v.set i ⟨⟨2 * (i:Int),2 * (i:Int)⟩,v[i].x1,v[i].x2,h.Ports,v[i].x4⟩:=by unfold stepI; rw [List.getElem?_eq_getElem hiv]
  rw [h3]
  exact⟨rfl,by rw [List.length_set]; exact hs⟩) (fun n v hs=>by rw [Zb2]; simp) l rfl
 have h2:=Zsf (fun i (b:Bx)=>(⟨⟨2 * (i:Int),2 * (i:Int)⟩,b.x1,b.x2,h.Ports,b.x4⟩:Bx)) l []
 rw [List.nil_append,List.nil_append,List.length_nil,Zsg] at h2
 rw [h1.1,h2]
 simp only [id,Option.bind_some]
 have hav:=Zzu hi hv hl
 rw [show ((0:Int))=((0:Nat):Int) from rfl,lF_eq hav.inL (f:=0) (by omega)]
 simp only [Option.bind_some]
 have hfv:=(uF_vs e (apart h 0 l) 0).1
 have hfl:=hfv.len
 rw [if_pos (by unfold lim; omega)]
 have h4:=Zc7 (L:=Zb3 h ((uF e (apart h 0 l) 0).1,le (uF e (apart h 0 l) 0).2)) (uF e (apart h 0 l) 0).1 (stepN (setA h.Addr)) id (fun _ v=>v.length=(uF e (apart h 0 l) 0).1.length) (by omega) (fun n v i hil hs=>by
  have hiv:i<v.length:=by omega
  rw [Zb3]
  simp only [show ((i:Int)<((uF e (apart h 0 l) 0).1.length:Int)) from by omega,decide_true,if_true,Option.bind_some,Zaf hiv,wsucc (by omega:i<1000000000001),Int.toNat_natCast]
  have h3:stepN (setA h.Addr) v i (uF e (apart h 0 l) 0).1[i]=v.set i (setA h.Addr v[i]):=by unfold stepN; rw [List.getElem?_eq_getElem hiv]
  rw [h3]
  exact⟨rfl,by rw [List.length_set]; exact hs⟩) (fun n v hs=>by rw [Zb3]; simp) (uF e (apart h 0 l) 0).1 rfl
 have h5:=Zkm (setA h.Addr) (uF e (apart h 0 l) 0).1 []
 rw [List.nil_append,List.nil_append,List.length_nil] at h5
 rw [show ((0:Nat):Int)=0 from rfl,h4.1,h5]
 simp only [id,Option.bind_some]
 have hs:=Zzv hi (l:=l)
 have hlen:(can oO ((apart h 0 l).map (freeB 0)) []).length=(hidG h l).length:=by rw [← hs,List.length_map]
 have hfa:freeA (apart h 0 l) 0=capB (can oO ((apart h 0 l).map (freeB 0)) []):=by
  unfold freeA
  rw [Zs4 hav]
  simp
 unfold uF hidA
 rw [hfa]
 unfold capB
 by_cases hsz:(hidG h l).length≤4096
 ·rw [if_pos (by omega)]
  cases e with
  | true=>simp [kp]
  | false=>
   simp only [kp,Bool.false_eq_true,false_or,ne_eq,not_true_eq_false,if_false,hs,hsz,or_self]
 ·rw [if_neg (by omega)]
  simp [kp,hsz]
end Go.AM
set_option maxRecDepth 100000
namespace Go.AM
open Go
def hfrm (h:Zi):Bx:=if vH h=true then h.Match else badB
theorem Zj1 {h:Zi} (hv:vH h=true):vB h.Match=true:=by
 unfold vH at hv; simp only [Bool.and_eq_true] at hv; exact hv.1.1
theorem hfrm_v (h:Zi):vB (hfrm h)=vH h:=by
 unfold hfrm
 by_cases hv:vH h=true
 ·rw [if_pos hv,hv,Zj1 hv]
 ·rw [if_neg hv,vB_bad]; simpa using hv
theorem Z0x:BIn badB:=⟨⟨by decide,by decide,by decide,by decide⟩,⟨by decide,by decide,by decide,by decide⟩,⟨by decide,by decide,by decide,by decide⟩,⟨by decide,by decide,by decide,by decide⟩,⟨by decide,by decide,by decide,by decide⟩⟩
theorem Z0y {l:List Zi} (hin:∀ h∈l,HIn h):∀ x∈l.map hfrm,BIn x:=fun x hx=>by
 obtain⟨h,hm,rfl⟩:=List.mem_map.1 hx
 unfold hfrm
 split
 ·exact(hin h hm).m
 ·exact Z0x
theorem Zxw {l:List Zi} (hl:l.length≤100000):Zf7 l=some (l.map hfrm):=by
 unfold Zf7
 have:=Zc7 (L:=Zdb l) l (fun s _ x=>s++[hfrm x]) id (fun i s=>s.length=i) (by omega) (fun n s i hi hs=>by
  rw [Zdb]
  simp only [show ((i:Int)<(l.length:Int)) from by omega,decide_true,if_true,Zaf hi,Option.bind_some,Zh5,wsucc (by omega:i<1000000000001),List.length_singleton]
  by_cases h:vH l[i]=true
  ·have e:hfrm l[i]=(l[i]).Match:=by unfold hfrm; rw [if_pos h]
   rw [h,e]
   simp only [Bool.not_true,Bool.false_eq_true,if_false,Option.bind_some]
   rw [if_pos (show s.length + 1≤lim by unfold lim; omega)]
   exact⟨rfl,by simp [hs]⟩
  ·have e:hfrm l[i]=badB:=by unfold hfrm; rw [if_neg h]
   rw [Bool.not_eq_true] at h
   rw [h,e]
   simp only [Bool.not_false,if_true,Option.bind_some]
   rw [if_pos (show s.length + 1≤lim by unfold lim; omega)]
   exact⟨rfl,by simp [hs]⟩) (fun n s hs=>by rw [Zdb]; simp) [] rfl
 rw [this.1,Zi0]
 rfl
noncomputable def hstepI (s:ISt) (h:Zi) (p:List Bx):ISt:=if vH h=true then ((uU (hidA s.1 h p).2 s.2 (hidA s.1 h p).1).2,(uU (hidA s.1 h p).2 s.2 (hidA s.1 h p).1).1) else s
noncomputable def imgH:ISt→List Zi→List (List Bx)→ISt
 | s,m :: l,p :: ps=>imgH (hstepI s m p) l ps
 | s,_,_=>s
theorem Ztz {s:ISt} (h:ISok s) (m:Zi) (p:List Bx):ISok (hstepI s m p):=by
 unfold hstepI
 split
 ·exact⟨(uU_vs _ _ _).1,(uU_vs _ _ _).2⟩
 ·exact h
theorem Zxc:∀(l:List Zi) (ps:List (List Bx)) (s:ISt),ISok s→ISok (imgH s l ps)
 | [],_,_,h=>by unfold imgH; exact h
 | _ :: _,[],_,h=>by unfold imgH; exact h
 | m :: l,p :: ps,s,h=>by unfold imgH; exact Zxc l ps _ (Ztz h m p)
theorem Zlb {e:Bool} {a b:List Bx} (h:(uU e a b).2=false):e=false:=(kp_sem h).1
theorem Zne {e:Bool} {a b:List Bx} (h:(uI e a b).2=false):e=false:=(kp_sem h).1
theorem Zvv {e:Bool} {a b:List Bx} (h:(uS e a b).2=false):e=false:=(kp_sem h).1
theorem Zjo {e:Bool} {h:Zi} {p:List Bx} (hh:(hidA e h p).2=false):e=false∧hidA e h p=(hidG h p,false):=by
 unfold hidA at hh ⊢
 split at hh
 ·cases hh
 ·rename_i hn
  rw [if_neg hn]
  refine⟨?_,rfl⟩
  cases e with
  | true=>exact absurd (Or.inl rfl) hn
  | false=>rfl
theorem Zlx:∀(l:List Zi) (ps:List (List Bx)) (s:ISt),(imgH s l ps).1=false→s.1=false
 | [],_,_,h=>by unfold imgH at h; exact h
 | _ :: _,[],_,h=>by unfold imgH at h; exact h
 | m :: l,p :: ps,s,h=>by
  unfold imgH at h
  have h1:=Zlx l ps _ h
  unfold hstepI at h1
  split at h1
  ·exact(Zjo (Zlb h1)).1
  ·exact h1
abbrev HSt:=Bool × List Bx × List Bx
noncomputable def hP (s:HSt) (h:Zi):=uI s.1 s.2.1 [h.Match]
noncomputable def hQ (s:HSt) (h:Zi):=uS (hP s h).2 s.2.1 [h.Match]
noncomputable def hH (s:HSt) (h:Zi):=hidA (hQ s h).2 h (hP s h).1
noncomputable def hU (s:HSt) (h:Zi):=uU (hH s h).2 s.2.2 (hH s h).1
noncomputable def hstep (s:HSt) (h:Zi):HSt:=if vH h=true then ((hU s h).2,(hQ s h).1,(hU s h).1) else s
theorem Zkn:∀(l:List Zi) (s:HSt),(l.foldl hstep s).1=false→s.1=false
 | [],_,h=>h
 | m :: l,s,h=>by
  rw [List.foldl_cons] at h
  have h1:=Zkn l _ h
  unfold hstep at h1
  split at h1
  ·exact Zne (Zvv (Zjo (Zlb h1)).1)
  ·exact h1
noncomputable def sepH (e:Bool) (s out:List Bx) (l:List Zi):HSt:=((imgH ((partsR e s (l.map hfrm)).2.2,out) l (partsR e s (l.map hfrm)).1).1,(partsR e s (l.map hfrm)).2.1,(imgH ((partsR e s (l.map hfrm)).2.2,out) l (partsR e s (l.map hfrm)).1).2)
theorem Zt0 {l:List Zi} {s:HSt} (hs:s.1=true):(l.foldl hstep s).1=true:=by
 cases h:(l.foldl hstep s).1 with
 | true=>rfl
 | false=>rw [Zkn _ _ h] at hs; cases hs
theorem Zq8:∀(l:List Zi) (e:Bool) (s out:List Bx),(sepH e s out l).1=(l.foldl hstep (e,s,out)).1∧((sepH e s out l).1=false→sepH e s out l=l.foldl hstep (e,s,out))
 | [],e,s,out=>⟨rfl,fun _=>rfl⟩
 | m :: l,e,s,out=>by
  by_cases hv:vH m=true
  ·have hf:vB (hfrm m)=true:=by rw [hfrm_v]; exact hv
   have ef:hfrm m=m.Match:=by unfold hfrm; rw [if_pos hv]
   have e1:partsR e s ((m :: l).map hfrm)=((hP (e,s,out) m).1 :: (partsR (hQ (e,s,out) m).2 (hQ (e,s,out) m).1 (l.map hfrm)).1,(partsR (hQ (e,s,out) m).2 (hQ (e,s,out) m).1 (l.map hfrm)).2):=by
    rw [List.map_cons]
    simp only [partsR,ef]
    rw [if_pos (Zj1 hv)]
    rfl
   have e2:(m :: l).foldl hstep (e,s,out)=l.foldl hstep ((hU (e,s,out) m).2,(hQ (e,s,out) m).1,(hU (e,s,out) m).1):=by
    rw [List.foldl_cons]
    unfold hstep
    rw [if_pos hv]
   rw [e2]
   have ih:=Zq8 l (hU (e,s,out) m).2 (hQ (e,s,out) m).1 (hU (e,s,out) m).1
   have e3:∀ f,imgH (f,out) (m :: l) ((hP (e,s,out) m).1 :: (partsR (hQ (e,s,out) m).2 (hQ (e,s,out) m).1 (l.map hfrm)).1)=imgH ((uU (hidA f m (hP (e,s,out) m).1).2 out (hidA f m (hP (e,s,out) m).1).1).2,(uU (hidA f m (hP (e,s,out) m).1).2 out (hidA f m (hP (e,s,out) m).1).1).1) l (partsR (hQ (e,s,out) m).2 (hQ (e,s,out) m).1 (l.map hfrm)).1:=by
    intro f
    simp only [imgH,hstepI,if_pos hv]
   have e4:sepH e s out (m :: l)=((imgH ((uU (hidA (partsR (hQ (e,s,out) m).2 (hQ (e,s,out) m).1 (l.map hfrm)).2.2 m (hP (e,s,out) m).1).2 out (hidA (partsR (hQ (e,s,out) m).2 (hQ (e,s,out) m).1 (l.map hfrm)).2.2 m (hP (e,s,out) m).1).1).2,(uU (hidA (partsR (hQ (e,s,out) m).2 (hQ (e,s,out) m).1 (l.map hfrm)).2.2 m (hP (e,s,out) m).1).2 out (hidA (partsR (hQ (e,s,out) m).2 (hQ (e,s,out) m).1 (l.map hfrm)).2.2 m (hP (e,s,out) m).1).1).1) l (partsR (hQ (e,s,out) m).2 (hQ (e,s,out) m).1 (l.map hfrm)).1).1,(partsR (hQ (e,s,out) m).2 (hQ (e,s,out) m).1 (l.map hfrm)).2.1,(imgH ((uU (hidA (partsR (hQ (e,s,out) m).2 (hQ (e,s,out) m).1 (l.map hfrm)).2.2 m (hP (e,s,out) m).1).2 out (hidA (partsR (hQ (e,s,out) m).2 (hQ (e,s,out) m).1 (l.map hfrm)).2.2 m (hP (e,s,out) m).1).1).2,(uU (hidA (partsR (hQ (e,s,out) m).2 (hQ (e,s,out) m).1 (l.map hfrm)).2.2 m (hP (e,s,out) m).1).2 out (hidA (partsR (hQ (e,s,out) m).2 (hQ (e,s,out) m).1 (l.map hfrm)).2.2 m (hP (e,s,out) m).1).1).1) l (partsR (hQ (e,s,out) m).2 (hQ (e,s,out) m).1 (l.map hfrm)).1).2):=by
    unfold sepH
    rw [e1]
    simp only [e3]
   cases hr:(partsR (hQ (e,s,out) m).2 (hQ (e,s,out) m).1 (l.map hfrm)).2.2 with
   | true=>
    have k1:(sepH e s out (m :: l)).1=true:=by
     rw [e4,hr]
     cases h:(imgH ((uU (hidA true m (hP (e,s,out) m).1).2 out (hidA true m (hP (e,s,out) m).1).1).2,(uU (hidA true m (hP (e,s,out) m).1).2 out (hidA true m (hP (e,s,out) m).1).1).1) l (partsR (hQ (e,s,out) m).2 (hQ (e,s,out) m).1 (l.map hfrm)).1).1 with
     | true=>rfl
     | false=>have:=(Zjo (Zlb (Zlx _ _ _ h))).1; cases this
    have k2:(l.foldl hstep ((hU (e,s,out) m).2,(hQ (e,s,out) m).1,(hU (e,s,out) m).1)).1=true:=by
     cases hu:(hU (e,s,out) m).2 with
     | true=>exact Zt0 rfl
     | false=>
      rw [hu] at ih
      rw [← ih.1]
      have hq:(hQ (e,s,out) m).2=false:=(Zjo (Zlb hu)).1
      rw [hq] at hr
      cases h:(sepH false (hQ (e,s,out) m).1 (hU (e,s,out) m).1 l).1 with
      | true=>rfl
      | false=>have:=Zlx _ _ _ h; rw [hr] at this; cases this
    exact⟨by rw [k1,k2],fun h=>by rw [k1] at h; cases h⟩
   | false=>
    have hq:(hQ (e,s,out) m).2=false:=Znd _ _ _ hr
    have hHe:hidA false m (hP (e,s,out) m).1=hH (e,s,out) m:=by unfold hH; rw [hq]
    rw [hr,hHe] at e4
    cases hu:(hU (e,s,out) m).2 with
    | true=>
     have k1:(sepH e s out (m :: l)).1=true:=by
      rw [e4]
      cases h:(imgH ((uU (hH (e,s,out) m).2 out (hH (e,s,out) m).1).2,(uU (hH (e,s,out) m).2 out (hH (e,s,out) m).1).1) l (partsR (hQ (e,s,out) m).2 (hQ (e,s,out) m).1 (l.map hfrm)).1).1 with
      | true=>rfl
      | false=>have h2:(hU (e,s,out) m).2=false:=Zlx _ _ _ h; rw [hu] at h2; cases h2
     have k2:(l.foldl hstep (true,(hQ (e,s,out) m).1,(hU (e,s,out) m).1)).1=true:=Zt0 rfl
     exact⟨by rw [k1,k2],fun h=>by rw [k1] at h; cases h⟩
    | false=>
     rw [hu] at ih
     have k:sepH e s out (m :: l)=sepH false (hQ (e,s,out) m).1 (hU (e,s,out) m).1 l:=by
      rw [e4]
      unfold sepH
      rw [show (uU (hH (e,s,out) m).2 out (hH (e,s,out) m).1)=hU (e,s,out) m from rfl,hu,hq]
      rw [hq] at hr
      rw [hr]
     rw [k]
     exact ih
  ·have hf:vB (hfrm m)=false:=by rw [hfrm_v]; simpa using hv
   have e1:sepH e s out (m :: l)=sepH e s out l:=by
    unfold sepH
    rw [List.map_cons]
    simp only [partsR,hf,Bool.false_eq_true,if_false,imgH]
    rw [show ∀ q,hstepI q m []=q from fun q=>by unfold hstepI; rw [if_neg hv]]
   have e2:(m :: l).foldl hstep (e,s,out)=l.foldl hstep (e,s,out):=by
    rw [List.foldl_cons]
    unfold hstep
    rw [if_neg hv]
   rw [e1,e2]
   exact Zq8 l e s out
noncomputable def himgA (l:List Zi) (s:List Bx):List Bx × Int:=
 let o:=l.foldl hstep ((kp false (st s)).2,(kp false (st s)).1,[])
 resA ((uU o.1 o.2.2 o.2.1).2,(uU o.1 o.2.2 o.2.1).1)
theorem Zzw (l:List Zi) (s:List Bx):himgA l s=resA ((uU (sepH (kp false (st s)).2 (kp false (st s)).1 [] l).1 (sepH (kp false (st s)).2 (kp false (st s)).1 [] l).2.2 (sepH (kp false (st s)).2 (kp false (st s)).1 [] l).2.1).2,(uU (sepH (kp false (st s)).2 (kp false (st s)).1 [] l).1 (sepH (kp false (st s)).2 (kp false (st s)).1 [] l).2.2 (sepH (kp false (st s)).2 (kp false (st s)).1 [] l).2.1).1):=by
 obtain⟨h1,h2⟩:=Zq8 l (kp false (st s)).2 (kp false (st s)).1 []
 unfold himgA
 simp only
 cases h:(sepH (kp false (st s)).2 (kp false (st s)).1 [] l).1 with
 | false=>
  have e1:(l.foldl hstep ((kp false (st s)).2,(kp false (st s)).1,[])).1=false:=by rw [← h1]; exact h
  rw [h2 h,e1]
 | true=>
  rw [h] at h1
  rw [← h1]
  simp [uU,kp,resA]
theorem Zvw {l:List Zi} (hl:l.length≤100000) (hin:∀ h∈l,HIn h) {s:List Bx} (hs:InL s):Zfe l s=some (himgA l s):=by
 rw [Zzw]
 unfold Zfe sepH
 rw [Zxw hl,Zw6 hs]
 simp only [Option.bind_some]
 have hv:VS (kp false (st s)).1:=(kp_vs (st_ok s).1).1
 rw [Zzq (by rw [List.length_map]; exact hl) (Z0y hin) hv]
 simp only [Option.bind_some]
 have hpv:=Zq7 (l.map hfrm) (kp false (st s)).2 (kp false (st s)).1 hv
 have hpl:(partsR (kp false (st s)).2 (kp false (st s)).1 (l.map hfrm)).1.length=l.length:=by rw [Zo2,List.length_map]
 generalize hr:partsR (kp false (st s)).2 (kp false (st s)).1 (l.map hfrm)=r at hpv hpl
 have hzl:(l.zip r.1).length=l.length:=by rw [List.length_zip,hpl,Nat.min_self]
 have:=Zc7 (L:=fun n (s:ISt) i=>Zbx l (r.1,r.2.1,le r.2.2) n (le s.1) s.2 i) (l.zip r.1) (fun s _ x=>hstepI s x.1 x.2) (fun s=>(le s.1,s.2)) (fun _ s=>ISok s) (by omega) (fun n s i hi hs=>by
  show Zbx l (r.1,r.2.1,le r.2.2) (n + 1) (le s.1) s.2 (i:Int)=_∧_
  have hil:i<l.length:=by omega
  have hir:i<r.1.length:=by omega
  have hz:(l.zip r.1)[i]=(l[i],r.1[i]):=List.getElem_zip
  rw [hz]
  refine⟨?_,Ztz hs _ _⟩
  have hpx:=hpv.1 _ (List.getElem_mem hir)
  rw [Zbx]
  simp only [show ((i:Int)<(r.1.length:Int)) from by omega,decide_true,if_true,Zaf hil,Zaf hir,Option.bind_some,Zh5,wsucc (by omega:i<1000000000001)]
  unfold hstepI
  by_cases h:vH l[i]=true
  ·rw [if_pos h,if_pos h,Zyr (hin _ (List.getElem_mem hil)) h hpx]
   simp only [Option.bind_some]
   rw [lU_eq hs.vs.inL (Zxb _ _ _).1.inL]
   rfl
  ·rw [if_neg h,if_neg h]
   rfl) (fun n s hs=>by
  show Zbx l (r.1,r.2.1,le r.2.2) (n + 1) (le s.1) s.2 ((l.zip r.1).length:Int)=_
  rw [Zbx,if_neg (by rw [hzl]; simp; omega)]) (r.2.2,[]) ⟨VS.nil,fun _=>rfl⟩
 have h1:=this.1
 simp only at h1
 have hz:∀(l:List Zi) (ps:List (List Bx)) (s:ISt) (i:Nat),l.length=ps.length→foldI (fun s _ (x:Zi × List Bx)=>hstepI s x.1 x.2) s i (l.zip ps)=imgH s l ps:=by
  intro l
  induction l with
  | nil=>intro ps s i h; cases ps with
   | nil=>rfl
   | cons _ _=>simp at h
  | cons m l ih=>intro ps s i h; cases ps with
   | nil=>simp at h
   | cons p ps=>simp only [List.zip_cons_cons,foldI,imgH]; exact ih ps _ _ (by simpa using h)
 rw [h1,hz l r.1 _ _ hpl.symm]
 have hok:=Zxc l r.1 (r.2.2,[]) ⟨VS.nil,fun _=>rfl⟩
 simp only [Option.bind_some]
 rw [lU_eq hok.vs.inL hpv.2.inL]
 simp only [Option.bind_some]
 rw [Ztv (uU_vs _ _ _).1.inL.len]
 rfl
structure CutAll (Cs:List (List Int)) (l:List Zi) (s:List Bx):Prop where
 ends:endsIn Cs tops5
 size:prodL Cs≤2000000000
 set:CutB Cs (s.filter vB)
 mat:∀ h∈l,vH h=true→cutIn Cs (toL h.Match)
 tgt:∀ h∈l,vH h=true→∀ b,cutIn Cs (toL b)→cutIn Cs (toL (tgt h b))
structure HOk (Cs:List (List Int)) (s:HSt):Prop where
 r:VS s.2.1
 o:VS s.2.2
 c:CutB Cs s.2.1
end Go.AM
set_option maxRecDepth 100000
namespace Go.AM
open Go
noncomputable def pA (to:List Bx) (s:HSt) (h:Zi):=uI s.1 to [tgt h full]
noncomputable def pB (to:List Bx) (s:HSt) (h:Zi):=uF (pA to s h).2 (pA to s h).1 0
noncomputable def pC (to:List Bx) (s:HSt) (h:Zi):=uF (pB to s h).2 (pB to s h).1 3
noncomputable def pD (to:List Bx) (s:HSt) (h:Zi):=uI (pC to s h).2 (pC to s h).1 [h.Match]
noncomputable def pE (to:List Bx) (s:HSt) (h:Zi):=uI (pD to s h).2 (pD to s h).1 s.2.2
noncomputable def pO (to:List Bx) (s:HSt) (h:Zi):=uU (pE to s h).2 s.2.1 (pE to s h).1
noncomputable def pR (to:List Bx) (s:HSt) (h:Zi):=uS (pO to s h).2 s.2.2 [h.Match]
noncomputable def pstep (to:List Bx) (s:HSt) (h:Zi):HSt:=if vH h=true then ((pR to s h).2,(pO to s h).1,(pR to s h).1) else s
structure POk (s:HSt):Prop where
 o:VS s.2.1
 r:VS s.2.2
theorem Zq9 {to:List Bx} {s:HSt} (h:POk s) (m:Zi):POk (pstep to s m):=by
 unfold pstep
 split
 ·exact⟨(uU_vs _ _ _).1,(uS_vs _ _ _).1⟩
 ·exact h
theorem Zra (to:List Bx):∀(l:List Zi) (s:HSt),POk s→POk (l.foldl (pstep to) s)
 | [],_,h=>h
 | m :: l,s,h=>by rw [List.foldl_cons]; exact Zra to l _ (Zq9 h m)
noncomputable def hpreA (l:List Zi) (s:List Bx):List Bx × Int:=
 let o:=l.foldl (pstep (kp false (st s)).1) ((kp false (st s)).2,[],[full])
 let w:=uI o.1 o.2.2 (kp false (st s)).1
 resA ((uU w.2 o.2.1 w.1).2,(uU w.2 o.2.1 w.1).1)
theorem Zsh {l:List Zi} (hl:l.length≤100000) (hin:∀ h∈l,HIn h) {s:List Bx} (hs:InL s):Zef l s=some (hpreA l s):=by
 unfold Zef hpreA
 rw [Zw6 hs,Zvo]
 simp only [Option.bind_some]
 have hv:VS (kp false (st s)).1:=(kp_vs (st_ok s).1).1
 generalize kp false (st s)=t at hv ⊢
 have:=Zc7 (L:=fun n (s:HSt) i=>Zbc l (t.1,le t.2) n (le s.1) s.2.1 s.2.2 i) l (fun s _ m=>pstep t.1 s m) (fun s=>(le s.1,s.2.1,s.2.2)) (fun _ s=>POk s) (by omega) (fun n s i hi hs=>by
  show Zbc l (t.1,le t.2) (n + 1) (le s.1) s.2.1 s.2.2 (i:Int)=_∧_
  have hb:=hin _ (List.getElem_mem hi)
  refine⟨?_,Zq9 hs _⟩
  rw [Zbc]
  simp only [show ((i:Int)<(l.length:Int)) from by omega,decide_true,if_true,Zaf hi,Option.bind_some,Zh5,wsucc (by omega:i<1000000000001)]
  unfold pstep
  by_cases h:vH l[i]=true
  ·rw [if_pos h,h]
   simp only [Bool.not_true,Bool.false_eq_true,if_false,Zvo,Option.bind_some]
   have hT:BIn (tgt l[i] full):=(tgt_ok hb h Zmr).bin
   rw [show ({ ({ full with x0:=(Zb.mk (l[i]).Addr (l[i]).Addr) }:(Arr5 Zb)) with x3:=(l[i]).Ports }:(Arr5 Zb))=tgt l[i] full from rfl]
   rw [lI_eq hv.inL (InL.one hT)]
   simp only [Option.bind_some]
   have q1:VS (uI s.1 t.1 [tgt l[i] full]).1:=(uI_vs _ _ _).1
   have f0:=fun(e:Bool) (a:List Bx) (ha:InL a)=>lF_eq (e:=e) ha (f:=0) (by omega)
   have f3:=fun(e:Bool) (a:List Bx) (ha:InL a)=>lF_eq (e:=e) ha (f:=3) (by omega)
   rw [show ((0:Nat):Int)=0 from rfl] at f0
   rw [show ((3:Nat):Int)=3 from rfl] at f3
   rw [f0 _ _ q1.inL]
   simp only [Option.bind_some]
   rw [f3 _ _ (uF_vs _ _ _).1.inL]
   simp only [Option.bind_some]
   rw [lI_eq (uF_vs _ _ _).1.inL (InL.one hb.m)]
   simp only [Option.bind_some]
   rw [lI_eq (uI_vs _ _ _).1.inL hs.r.inL]
   simp only [Option.bind_some]
   rw [lU_eq hs.o.inL (uI_vs _ _ _).1.inL]
   simp only [Option.bind_some]
   rw [lS_eq hs.r.inL (InL.one hb.m)]
   rfl
  ·rw [if_neg h]
   rw [Bool.not_eq_true] at h
   rw [h]
   rfl) (fun n s hs=>by
  show Zbc l (t.1,le t.2) (n + 1) (le s.1) s.2.1 s.2.2 (l.length:Int)=_
  rw [Zbc]; simp) (t.2,[],[full]) ⟨VS.nil,VS.full⟩
 have h1:=this.1
 simp only at h1
 rw [h1,Zq6 (pstep t.1)]
 have hok:=Zra t.1 l (t.2,[],[full]) ⟨VS.nil,VS.full⟩
 simp only [Option.bind_some]
 rw [lI_eq hok.r.inL hv.inL]
 simp only [Option.bind_some]
 rw [lU_eq hok.o.inL (uI_vs _ _ _).1.inL]
 simp only [Option.bind_some]
 rw [Ztv (uU_vs _ _ _).1.inL.len]
 rfl
theorem Zxd:∀(Cs:List (List Int)) (ts:List Int) (b:RL) (k:Nat) (t:Int),endsIn Cs ts→cutIn Cs b→ts[k]? = some t→cutIn Cs (b.set k ⟨0,t⟩)
 | C :: Cs,t' :: ts,r :: b,0,t,he,hb,hk=>by
  simp only [List.getElem?_cons_zero,Option.some.injEq] at hk
  subst hk
  exact⟨he.1,he.2.1,hb.2.2⟩
 | C :: Cs,t' :: ts,r :: b,k + 1,t,he,hb,hk=>⟨hb.1,hb.2.1,Zxd Cs ts b k t he.2.2 hb.2.2 (by simpa using hk)⟩
 | [],[],[],_,_,_,_,hk=>by simp at hk
 | [],_ :: _,_,_,_,he,_,_=>he.elim
 | _ :: _,[],_,_,_,he,_,_=>he.elim
 | _ :: _,_ :: _,[],_,_,_,hb,_=>hb.elim
 | [],[],_ :: _,_,_,_,hb,_=>hb.elim
theorem Zys {f:Nat} (hf:f<5) (b:Bx):toL (freeB f b)=(toL b).set f ⟨0,topOf (f:Int)⟩∧tops5[f]? = some (topOf (f:Int)):=by
 rcases fiveN hf with rfl | rfl | rfl | rfl | rfl <;> exact⟨rfl,rfl⟩
theorem CutB.free {Cs:List (List Int)} (he:endsIn Cs tops5) {a:List Bx} (ha:CutB Cs a) {f:Nat} (hf:f<5):CutB Cs (a.map (freeB f)):=fun x hx=>by
 obtain⟨y,hy,rfl⟩:=List.mem_map.1 hx
 obtain⟨e1,e2⟩:=Zys hf y
 rw [e1]
 exact Zxd Cs tops5 (toL y) f _ he (ha y hy) e2
theorem bindS {α β:Type} {x:Option α} {a:α} (h:x=some a) (f:α→Option β):x.bind f=f a:=by rw [h]; rfl
def cutsAt (f:Nat) (a:List Bx):List Int:=a.flatMap fun b=>[(b.get (f:Int)).Lo,(b.get (f:Int)).Hi + 1]
def hcuts (f:Nat) (l:List Zi):List Int:=l.flatMap fun h=>[(h.Match.get (f:Int)).Lo,(h.Match.get (f:Int)).Hi + 1,h.Addr,h.Addr + 1,h.Ports.Lo,h.Ports.Hi + 1]
def place (l:List Zi) (a:List Bx) (f:Nat):List Int:=0 :: (topOf (f:Int) + 1) :: (cutsAt f a++hcuts f l)
def places (l:List Zi) (a:List Bx):List (List Int):=[place l a 0,place l a 1,place l a 2,place l a 3,place l a 4]
end Go.AM
